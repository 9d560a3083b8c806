/- PART 6 of the texts of a claim, joined by a program: what each part shows stands at its head. -/
import Derived.Test.YtmbncgcjilkajaaGreatPartc1d1061b3d

namespace Go.Av
open Go.Proofs
set_option maxRecDepth 100000
def fi36 : Fi := ⟨17, [.tmp 8]⟩
def kp36 : List (Nat × List Nat) := [(0, [1, 3, 4, 6]), (1, [8])]
def fi39 : Fi := ⟨31, [.cell 2 28, .tmp 3]⟩
def kp39 : List (Nat × List Nat) := [(0, [1, 2]), (1, [1, 2, 8]), (2, [2, 3]), (3, [1, 2, 4, 5]), (4, [1, 2, 4, 5, 18]), (5, [2, 3]), (6, [2, 3])]
def fi46 : Fi := ⟨9, [.tmp 4]⟩
def kp46 : List (Nat × List Nat) := [(0, [1, 2]), (1, [4])]
def fi92 : Fi := ⟨30, [.cell 6 28, .tmp 7]⟩
def kp92 : List (Nat × List Nat) := [(0, [3, 4, 5, 6]), (1, [3, 4, 5, 6, 12]), (2, [6, 7]), (3, [3, 4, 5, 6, 8, 9]), (4, [3, 4, 5, 6, 8, 19]), (5, [6, 7]), (6, [6, 7])]
def fi93 : Fi := ⟨55, [.tmp 2]⟩
def kp93 : List (Nat × List Nat) := [(0, [1]), (1, [1, 20]), (2, [2]), (3, [1, 30]), (4, [2]), (5, [1, 4]), (6, [2])]
def oInv_at (f1 f2 f3 f4 f5 f6 : Bool) (a b c : Rat) (Q : AV -> Heap -> Prop) : Prop := Wp M1 (.run fi39 (atC (cd Tryz.f39) []) [(0, .agg [.bool (Sp.isNeg a.num), .vec f1 1 ((Sp.limI a.num).map (.int .u32)), .bool (Sp.isNeg (a.den : Int)), .vec f2 1 ((Sp.limI (a.den : Int)).map (.int .u32)), .bool (Sp.isNeg b.num), .vec f3 1 ((Sp.limI b.num).map (.int .u32)), .bool (Sp.isNeg (b.den : Int)), .vec f4 1 ((Sp.limI (b.den : Int)).map (.int .u32)), .bool (Sp.isNeg c.num), .vec f5 1 ((Sp.limI c.num).map (.int .u32)), .bool (Sp.isNeg (c.den : Int)), .vec f6 1 ((Sp.limI (c.den : Int)).map (.int .u32))])] []) Q
def pMake_at (f1 f2 f3 f4 f5 f6 : Bool) (a b c : Rat) (Q : AV -> Heap -> Prop) : Prop := Wp M1 (.run fi92 (atC (cd Tryz.f92) []) [(0, .agg [.bool (Sp.isNeg a.num), .vec f1 1 ((Sp.limI a.num).map (.int .u32)), .bool (Sp.isNeg (a.den : Int)), .vec f2 1 ((Sp.limI (a.den : Int)).map (.int .u32))]), (1, .agg [.bool (Sp.isNeg b.num), .vec f3 1 ((Sp.limI b.num).map (.int .u32)), .bool (Sp.isNeg (b.den : Int)), .vec f4 1 ((Sp.limI (b.den : Int)).map (.int .u32))]), (2, .agg [.bool (Sp.isNeg c.num), .vec f5 1 ((Sp.limI c.num).map (.int .u32)), .bool (Sp.isNeg (c.den : Int)), .vec f6 1 ((Sp.limI (c.den : Int)).map (.int .u32))])] []) Q
def pValid_at (f1 f2 f3 f4 f5 f6 : Bool) (a b c : Rat) (Q : AV -> Heap -> Prop) : Prop := Wp M1 (.run fi93 (atC (cd Tryz.f93) []) [(0, .agg [.bool (Sp.isNeg a.num), .vec f1 1 ((Sp.limI a.num).map (.int .u32)), .bool (Sp.isNeg (a.den : Int)), .vec f2 1 ((Sp.limI (a.den : Int)).map (.int .u32)), .bool (Sp.isNeg b.num), .vec f3 1 ((Sp.limI b.num).map (.int .u32)), .bool (Sp.isNeg (b.den : Int)), .vec f4 1 ((Sp.limI (b.den : Int)).map (.int .u32)), .bool (Sp.isNeg c.num), .vec f5 1 ((Sp.limI c.num).map (.int .u32)), .bool (Sp.isNeg (c.den : Int)), .vec f6 1 ((Sp.limI (c.den : Int)).map (.int .u32))])] []) Q
def lInt_at (fa : Bool) (a n : Int) (Q : AV -> Heap -> Prop) : Prop := Wp M1 (.run fi46 (atC (cd Tryz.f46) []) [(0, .agg [.bool (Sp.isNeg a), .vec fa 1 ((Sp.limI a).map (.int .u32))]), (1, .int .i64 n)] []) Q
def lSameN_at (e d : Int) (Q : AV -> Heap -> Prop) : Prop := Wp M1 (.run fi36 (atC (cd Tryz.f36) []) [(0, .agg [.bool false, .vec false 1 [], .bool false, .vec false 1 [], .bool false, .vec false 1 [], .bool false, .vec false 1 [], .bool false, .vec false 1 [], .bool false, .vec false 1 []]), (1, .int .i64 e), (2, .agg [.bool false, .vec false 1 [], .bool false, .vec false 1 [], .bool false, .vec false 1 [], .bool false, .vec false 1 [], .bool false, .vec false 1 [], .bool false, .vec false 1 []]), (3, .int .i64 d)] []) Q
def lSame_at (f1 f2 f3 f4 f5 f6 g1 g2 g3 g4 g5 g6 : Bool) (a b c x y z : Rat) (e d : Int) (Q : AV -> Heap -> Prop) : Prop := Wp M1 (.run fi36 (atC (cd Tryz.f36) []) [(0, .agg [.bool (Sp.isNeg a.num), .vec f1 1 ((Sp.limI a.num).map (.int .u32)), .bool (Sp.isNeg (a.den : Int)), .vec f2 1 ((Sp.limI (a.den : Int)).map (.int .u32)), .bool (Sp.isNeg b.num), .vec f3 1 ((Sp.limI b.num).map (.int .u32)), .bool (Sp.isNeg (b.den : Int)), .vec f4 1 ((Sp.limI (b.den : Int)).map (.int .u32)), .bool (Sp.isNeg c.num), .vec f5 1 ((Sp.limI c.num).map (.int .u32)), .bool (Sp.isNeg (c.den : Int)), .vec f6 1 ((Sp.limI (c.den : Int)).map (.int .u32))]), (1, .int .i64 e), (2, .agg [.bool (Sp.isNeg x.num), .vec g1 1 ((Sp.limI x.num).map (.int .u32)), .bool (Sp.isNeg (x.den : Int)), .vec g2 1 ((Sp.limI (x.den : Int)).map (.int .u32)), .bool (Sp.isNeg y.num), .vec g3 1 ((Sp.limI y.num).map (.int .u32)), .bool (Sp.isNeg (y.den : Int)), .vec g4 1 ((Sp.limI (y.den : Int)).map (.int .u32)), .bool (Sp.isNeg z.num), .vec g5 1 ((Sp.limI z.num).map (.int .u32)), .bool (Sp.isNeg (z.den : Int)), .vec g6 1 ((Sp.limI (z.den : Int)).map (.int .u32))]), (3, .int .i64 d)] []) Q
theorem call36 {args : List AV} {d : AV} (h : wc M1 fi36 Tryz.f36 args d) : Ev M1 (.pure 36 args) d [] := pcl _ _ (by kernel_rfl) h
theorem call39 {args : List AV} {d : AV} (h : wc M1 fi39 Tryz.f39 args d) : Ev M1 (.pure 39 args) d [] := pcl _ _ (by kernel_rfl) h
theorem call46 {args : List AV} {d : AV} (h : wc M1 fi46 Tryz.f46 args d) : Ev M1 (.pure 46 args) d [] := pcl _ _ (by kernel_rfl) h
theorem call92 {args : List AV} {d : AV} (h : wc M1 fi92 Tryz.f92 args d) : Ev M1 (.pure 92 args) d [] := pcl _ _ (by kernel_rfl) h
theorem call93 {args : List AV} {d : AV} (h : wc M1 fi93 Tryz.f93 args d) : Ev M1 (.pure 93 args) d [] := pcl _ _ (by kernel_rfl) h
noncomputable abbrev zNxD1 := ag [vb false, AV.vnil, vb false, AV.vnil, vb false, AV.vnil, vb false, AV.vnil, vb false, AV.vnil, vb false, AV.vnil]
theorem oInv (f1 f2 f3 f4 f5 f6 : Bool) (a b c : Rat)  (dq : AV) (H :
  (Sp.okO a b c) /\
  ((Sp.sgO a b c = 0) -> Weak (tu [ag [vb false, AV.vnil, vb false, AV.vnil, vb false, AV.vnil, vb false, AV.vnil, vb false, AV.vnil, vb false, AV.vnil], vi 6]) dq) /\
  (¬(Sp.sgO a b c = 0) -> (Sp.inI 1) /\
   (Sp.okR (Sp.qi 1) /\ Sp.okR (a * a - b * b * c) /\ (a * a - b * b * c).num ≠ 0) /\
   (Sp.okB b.num) /\
   (Sp.okP a (-b) /\ Sp.okR (Sp.qi 1 / (a * a - b * b * c))) /\
   Weak (tu [rootF (a * (Sp.qi 1 / (a * a - b * b * c))) (-b * (Sp.qi 1 / (a * a - b * b * c))) (Sp.rad (-b * (Sp.qi 1 / (a * a - b * b * c))) c), vi 0]) dq)) :
 oInv_at f1 f2 f3 f4 f5 f6 a b c (PureQ dq) := by
 unfold oInv_at
 obtain ⟨k1, H⟩ := H
 refine path_wp (G := given kp39 [(1, 1, .call (vi (Sp.sgO a b c)) none)] []) 5 [] ⟨(atC (cd Tryz.f39) [1, 0, 1]), [(1, AV.ptr 0 0 0 0), (2, AV.ptr 1 0 0 0), (8, vb (Sp.sgO a b c == 0))], [⟨[rootA f1 f2 f3 f4 f5 f6 a b c], 12, 0, false, false⟩, ⟨[zNxD1], 12, 0, false, false⟩], _, [], _⟩ (by kernel_rfl) (bc rfl b0) q0 (ce (@ev20 (f1) (f2) (f3) (f4) (f5) (f6) (a) (b) (c) k1) c0) ?_
 rcases xm (Sp.sgO a b c = 0) with d3 | d3
 ·have H := H.1 d3
  exact path_rq (G := given kp39 [] []) 1000 [true] (tu [zNxD1, vi 6]) (by kernel_rfl) (bc (beq_t (i_eq.2 d3)) (bc rfl b0)) q0 c0 H
 ·have H := H.2 d3
  obtain ⟨k4, H⟩ := H
  obtain ⟨k5, H⟩ := H
  obtain ⟨k6, H⟩ := H
  obtain ⟨k7, H⟩ := H
  exact path_rq (G := given kp39 [(3, 0, .call (ratA false false (Sp.qi 1)) none), (3, 2, .call (ratA false false (a * a - b * b * c)) none), (3, 3, .call (tu [ratA false false (Sp.qi 1 / (a * a - b * b * c)), vi 0]) none), (6, 4, .call (ratA false false (-b)) none), (6, 9, .call (rootF (a * (Sp.qi 1 / (a * a - b * b * c))) (-b * (Sp.qi 1 / (a * a - b * b * c))) (Sp.rad (-b * (Sp.qi 1 / (a * a - b * b * c))) c)) none)] []) 1000 [false, false] (tu [rootF (a * (Sp.qi 1 / (a * a - b * b * c))) (-b * (Sp.qi 1 / (a * a - b * b * c))) (Sp.rad (-b * (Sp.qi 1 / (a * a - b * b * c))) c), vi 0]) (by kernel_rfl) (bc (beq_f (fun h => d3 (i_eq.1 h))) (bc rfl (bc rfl (bc rfl (bc rfl (bc rfl (bc rfl (bc rfl (bc rfl b0))))))))) q0 (ce (@ev87 (1) k4) (ce (@ev72 (f1) (f2) (f3) (f4) (f5) (f6) (a) (b) (c) k1) (ce (@ev86 (false) (false) (false) (false) (Sp.qi 1) (a * a - b * b * c) k5) (ce (@ev75 (f3) (f4) (b) k6) (ce (@ev25 (f1) (f2) (false) (false) (f5) (f6) (false) (false) (a) (-b) (c) (Sp.qi 1 / (a * a - b * b * c)) k7) c0))))) H
noncomputable abbrev zNxD2 := ag [vb false, AV.vnil, vb false, AV.vnil, vb false, AV.vnil, vb false, AV.vnil, vb false, AV.vnil, vb false, AV.vnil]
theorem pMake (f1 f2 f3 f4 f5 f6 : Bool) (a b c : Rat)  (dq : AV) (H :
  ((Sp.sgnI c.num < 0) -> Weak (tu [ag [vb false, AV.vnil, vb false, AV.vnil, vb false, AV.vnil, vb false, AV.vnil, vb false, AV.vnil, vb false, AV.vnil], vi 7]) dq) /\
  (¬(Sp.sgnI c.num < 0) -> ((Sp.rsq c) -> (Sp.okR c) /\
    (Sp.okR b /\ Sp.okR (Sp.rt c)) /\
    (Sp.okR a /\ Sp.okR (b * Sp.rt c)) /\
    Weak (tu [rootF (a + b * Sp.rt c) (Sp.qi 0) (Sp.qi 0), vi 0]) dq) /\
   (¬(Sp.rsq c) -> (Sp.okR c) /\
    Weak (tu [rootF a (Sp.prB b c) (Sp.prC b c), vi 0]) dq))) :
 pMake_at f1 f2 f3 f4 f5 f6 a b c (PureQ dq) := by
 unfold pMake_at
 refine path_wp (G := given kp92 [(1, 1, .call (vi (Sp.sgnI c.num)) none)] []) 5 [] ⟨(atC (cd Tryz.f92) [1, 0, 1]), [(3, AV.ptr 0 0 0 0), (4, AV.ptr 1 0 0 0), (5, AV.ptr 2 0 0 0), (6, AV.ptr 3 0 0 0), (12, vb (decide (Sp.sgnI c.num < 0)))], [⟨[ratA f1 f2 a], 4, 0, false, false⟩, ⟨[ratA f3 f4 b], 4, 0, false, false⟩, ⟨[ratA f5 f6 c], 4, 0, false, false⟩, ⟨[zNxD2], 12, 0, false, false⟩], _, [], _⟩ (by kernel_rfl) (bc rfl b0) q0 (ce (@ev27 (f5) (f6) (c.num) ((↑c.den : Int))) c0) ?_
 rcases xm (Sp.sgnI c.num < 0) with d2 | d2
 ·have H := H.1 d2
  exact path_rq (G := given kp92 [] []) 1000 [true] (tu [zNxD2, vi 7]) (by kernel_rfl) (bc (beq_t (i_dec.2 d2)) (bc rfl b0)) q0 c0 H
 ·have H := H.2 d2
  rcases xm (Sp.rsq c) with d3 | d3
  ·have H := H.1 d3
   obtain ⟨k4, H⟩ := H
   obtain ⟨k5, H⟩ := H
   obtain ⟨k6, H⟩ := H
   exact path_rq (G := given kp92 [(3, 1, .call (tu [ratA false false (Sp.rt c), vb true]) none), (5, 3, .call (ratA false false (b * Sp.rt c)) none), (5, 4, .call (ratA false false (a + b * Sp.rt c)) none), (5, 5, .call (rootF (a + b * Sp.rt c) (Sp.qi 0) (Sp.qi 0)) none)] []) 1000 [false, true] (tu [rootF (a + b * Sp.rt c) (Sp.qi 0) (Sp.qi 0), vi 0]) (by kernel_rfl) (bc (beq_f (fun h => d2 (i_dec.1 h))) (bc rfl (bc rfl (bc rfl (bc rfl (bc rfl (bc rfl (bc rfl b0)))))))) q0 (ce (@ev118_y (f5) (f6) (c) k4 d3) (ce (@ev32 (f3) (f4) (false) (false) (b) (Sp.rt c) k5) (ce (@ev17 (f1) (f2) (false) (false) (a) (b * Sp.rt c) k6) (ce (@ev89 (false) (false) (a + b * Sp.rt c)) c0)))) H
  ·have H := H.2 d3
   obtain ⟨k7, H⟩ := H
   exact path_rq (G := given kp92 [(3, 1, .call (tu [ag [vb false, vf [], vb false, vf []], vb false]) none), (6, 3, .call (rootF a (Sp.prB b c) (Sp.prC b c)) none)] []) 1000 [false, false] (tu [rootF a (Sp.prB b c) (Sp.prC b c), vi 0]) (by kernel_rfl) (bc (beq_f (fun h => d2 (i_dec.1 h))) (bc rfl (bc rfl (bc rfl (bc rfl (bc rfl (bc rfl (bc rfl b0)))))))) q0 (ce (@ev118_n (f5) (f6) (c) k7 d3) (ce (@ev77 (f1) (f2) (f3) (f4) (f5) (f6) (a) (b) (c)) c0)) H
noncomputable abbrev zNxD3 (a : Rat) (b : Rat) (c : Rat) := bif bif !Sp.valB (Sp.isNeg a.num) (Sp.limI a.num) (Sp.isNeg (↑a.den : Int)) (Sp.limI (↑a.den : Int)) then true else !Sp.valB (Sp.isNeg b.num) (Sp.limI b.num) (Sp.isNeg (↑b.den : Int)) (Sp.limI (↑b.den : Int)) then true else !Sp.valB (Sp.isNeg c.num) (Sp.limI c.num) (Sp.isNeg (↑c.den : Int)) (Sp.limI (↑c.den : Int))
noncomputable abbrev zNxD4 (a : Rat) (b : Rat) := bif !Sp.valB (Sp.isNeg a.num) (Sp.limI a.num) (Sp.isNeg (↑a.den : Int)) (Sp.limI (↑a.den : Int)) then true else !Sp.valB (Sp.isNeg b.num) (Sp.limI b.num) (Sp.isNeg (↑b.den : Int)) (Sp.limI (↑b.den : Int))
noncomputable abbrev zNxD5 (b : Rat) := Sp.valB (Sp.isNeg b.num) (Sp.limI b.num) (Sp.isNeg (↑b.den : Int)) (Sp.limI (↑b.den : Int))
noncomputable abbrev zNxD6 (c : Rat) := Sp.valB (Sp.isNeg c.num) (Sp.limI c.num) (Sp.isNeg (↑c.den : Int)) (Sp.limI (↑c.den : Int))
theorem pValid (f1 f2 f3 f4 f5 f6 : Bool) (a b c : Rat)  (dq : AV) (H :
  (Sp.okA (Sp.limI a.num) (Sp.limI (↑a.den : Int))) /\
  ((¬(¬(Sp.valB (Sp.isNeg a.num) (Sp.limI a.num) (Sp.isNeg (↑a.den : Int)) (Sp.limI (↑a.den : Int)) = true))) -> (Sp.okA (Sp.limI b.num) (Sp.limI (↑b.den : Int)))) /\
  ((¬((¬(Sp.valB (Sp.isNeg a.num) (Sp.limI a.num) (Sp.isNeg (↑a.den : Int)) (Sp.limI (↑a.den : Int)) = true)) \/ (¬(Sp.valB (Sp.isNeg b.num) (Sp.limI b.num) (Sp.isNeg (↑b.den : Int)) (Sp.limI (↑b.den : Int)) = true)))) -> (Sp.okA (Sp.limI c.num) (Sp.limI (↑c.den : Int)))) /\
  ((((¬(Sp.valB (Sp.isNeg a.num) (Sp.limI a.num) (Sp.isNeg (↑a.den : Int)) (Sp.limI (↑a.den : Int)) = true)) \/ (¬(Sp.valB (Sp.isNeg b.num) (Sp.limI b.num) (Sp.isNeg (↑b.den : Int)) (Sp.limI (↑b.den : Int)) = true))) \/ (¬(Sp.valB (Sp.isNeg c.num) (Sp.limI c.num) (Sp.isNeg (↑c.den : Int)) (Sp.limI (↑c.den : Int)) = true))) -> vb false = dq) /\
  (¬(((¬(Sp.valB (Sp.isNeg a.num) (Sp.limI a.num) (Sp.isNeg (↑a.den : Int)) (Sp.limI (↑a.den : Int)) = true)) \/ (¬(Sp.valB (Sp.isNeg b.num) (Sp.limI b.num) (Sp.isNeg (↑b.den : Int)) (Sp.limI (↑b.den : Int)) = true))) \/ (¬(Sp.valB (Sp.isNeg c.num) (Sp.limI c.num) (Sp.isNeg (↑c.den : Int)) (Sp.limI (↑c.den : Int)) = true))) -> (((Sp.sgnI b.num = 0) \/ (Sp.sgnI c.num = 0)) -> vb (bif Sp.sgnI b.num == 0 then Sp.sgnI c.num == 0 else false) = dq) /\
   (¬((Sp.sgnI b.num = 0) \/ (Sp.sgnI c.num = 0)) -> ((Sp.rsq c) -> (Sp.okR c) /\
     vb (bif decide (Sp.sgnI c.num > 0) then false else false) = dq) /\
    (¬(Sp.rsq c) -> (Sp.okR c) /\
     vb (bif decide (Sp.sgnI c.num > 0) then true else false) = dq)))) :
 pValid_at f1 f2 f3 f4 f5 f6 a b c (PureQ dq) := by
 unfold pValid_at
 obtain ⟨k1, H⟩ := H
 obtain ⟨k3, H⟩ := H
 obtain ⟨k5, H⟩ := H
 refine path_wp (G := given kp93 [(1, 2, .call (vb (Sp.valB (Sp.isNeg a.num) (Sp.limI a.num) (Sp.isNeg (↑a.den : Int)) (Sp.limI (↑a.den : Int)))) none), (1, 7, .call (vb (zNxD5 b)) none), (1, 13, .call (vb (zNxD6 c)) none)] []) 5 [] ⟨(atC (cd Tryz.f93) [1, 0, 1]), [(1, AV.ptr 0 0 0 0), (20, vb (zNxD3 a b c))], [⟨[rootA f1 f2 f3 f4 f5 f6 a b c], 12, 0, false, false⟩], [true, !((!Sp.valB (Sp.isNeg a.num) (Sp.limI a.num) (Sp.isNeg (↑a.den : Int)) (Sp.limI (↑a.den : Int))) == false && true) || true, !((zNxD4 a b) == false && true) || true], [], [⟨true, false, 29, [ratA f1 f2 a], [], vb (Sp.valB (Sp.isNeg a.num) (Sp.limI a.num) (Sp.isNeg (↑a.den : Int)) (Sp.limI (↑a.den : Int))), []⟩, ⟨(!Sp.valB (Sp.isNeg a.num) (Sp.limI a.num) (Sp.isNeg (↑a.den : Int)) (Sp.limI (↑a.den : Int))) == false && true && true, false, 29, [ratA f3 f4 b], [], vb (zNxD5 b), []⟩, ⟨(zNxD4 a b) == false && true && true, false, 29, [ratA f5 f6 c], [], vb (zNxD6 c), []⟩]⟩ (by kernel_rfl) (bc rfl (bc (Bool.or_true _) (bc (Bool.or_true _) b0))) q0 (cc (fun _ => (@ev29 (Sp.isNeg a.num) (f1) (Sp.isNeg (↑a.den : Int)) (f2) (Sp.limI a.num) (Sp.limI (↑a.den : Int)) k1)) (cc (fun hc => ((@ev29 (Sp.isNeg b.num) (f3) (Sp.isNeg (↑b.den : Int)) (f4) (Sp.limI b.num) (Sp.limI (↑b.den : Int)) (k3 ((i_at (i_at (i_bf (i_not (i_var _))))).1 hc))) : Ev M1 (Conf.pure 29 [ratA f3 f4 b]) (vb (zNxD5 b)) [])) (cc (fun hc => ((@ev29 (Sp.isNeg c.num) (f5) (Sp.isNeg (↑c.den : Int)) (f6) (Sp.limI c.num) (Sp.limI (↑c.den : Int)) (k5 ((i_at (i_at (i_bf (i_bor (i_not (i_var _)) (i_not (i_var _)))))).1 hc))) : Ev M1 (Conf.pure 29 [ratA f5 f6 c]) (vb (zNxD6 c)) [])) c0))) ?_
 rcases xm (((¬(Sp.valB (Sp.isNeg a.num) (Sp.limI a.num) (Sp.isNeg (↑a.den : Int)) (Sp.limI (↑a.den : Int)) = true)) \/ (¬(Sp.valB (Sp.isNeg b.num) (Sp.limI b.num) (Sp.isNeg (↑b.den : Int)) (Sp.limI (↑b.den : Int)) = true))) \/ (¬(Sp.valB (Sp.isNeg c.num) (Sp.limI c.num) (Sp.isNeg (↑c.den : Int)) (Sp.limI (↑c.den : Int)) = true))) with d7 | d7
 ·have H := H.1 d7
  exact path_re (G := given kp93 [] []) 1000 [true] (asm := [(zNxD3 a b c) == true]) (vb false) (by kernel_rfl) (bc (beq_t ((i_bor (i_bor (i_not (i_var _)) (i_not (i_var _))) (i_not (i_var _))).2 d7)) b0) q0 c0 H
 ·have H := H.2 d7
  refine path_wp (G := given kp93 [(3, 2, .call (vi (Sp.sgnI b.num)) none), (3, 7, .call (vi (Sp.sgnI c.num)) none)] []) 5 [false] ⟨(atC (cd Tryz.f93) [1, 1, 0, 1]), [(1, AV.ptr 0 0 0 0), (30, vb (bif Sp.sgnI b.num == 0 then true else Sp.sgnI c.num == 0))], [⟨[rootA f1 f2 f3 f4 f5 f6 a b c], 12, 0, false, false⟩], [(zNxD3 a b c) == false, true, !((Sp.sgnI b.num == 0) == false && true) || true], [], [⟨true, false, 27, [ratA f3 f4 b], [], vi (Sp.sgnI b.num), []⟩, ⟨(Sp.sgnI b.num == 0) == false && true && true, false, 27, [ratA f5 f6 c], [], vi (Sp.sgnI c.num), []⟩]⟩ (by kernel_rfl) (bc (beq_f (fun h => d7 ((i_bor (i_bor (i_not (i_var _)) (i_not (i_var _))) (i_not (i_var _))).1 h))) (bc rfl (bc (Bool.or_true _) b0))) q0 (cc (fun _ => (@ev27 (f3) (f4) (b.num) ((↑b.den : Int)))) (cc (fun hc => ((@ev27 (f5) (f6) (c.num) ((↑c.den : Int))) : Ev M1 (Conf.pure 27 [ratA f5 f6 c]) (vi (Sp.sgnI c.num)) [])) c0)) ?_
  rcases xm ((Sp.sgnI b.num = 0) \/ (Sp.sgnI c.num = 0)) with d10 | d10
  ·have H := H.1 d10
   exact path_re (G := given kp93 [(4, 2, .call (vi (Sp.sgnI b.num)) none), (4, 7, .call (vi (Sp.sgnI c.num)) none)] []) 1000 [true] (asm := [(bif Sp.sgnI b.num == 0 then true else Sp.sgnI c.num == 0) == true, true, !((Sp.sgnI b.num == 0) == true && true) || true]) (calls := [⟨true, false, 27, [ratA f3 f4 b], [], vi (Sp.sgnI b.num), []⟩, ⟨(Sp.sgnI b.num == 0) == true && true && true, false, 27, [ratA f5 f6 c], [], vi (Sp.sgnI c.num), []⟩]) (vb (bif Sp.sgnI b.num == 0 then Sp.sgnI c.num == 0 else false)) (by kernel_rfl) (bc (beq_t ((i_bor i_eq i_eq).2 d10)) (bc rfl (bc (Bool.or_true _) b0))) q0 (cc (fun _ => (@ev27 (f3) (f4) (b.num) ((↑b.den : Int)))) (cc (fun hc => ((@ev27 (f5) (f6) (c.num) ((↑c.den : Int))) : Ev M1 (Conf.pure 27 [ratA f5 f6 c]) (vi (Sp.sgnI c.num)) [])) c0)) H
  ·have H := H.2 d10
   rcases xm (Sp.rsq c) with d12 | d12
   ·have H := H.1 d12
    obtain ⟨k13, H⟩ := H
    exact path_re (G := given kp93 [(5, 2, .call (tu [ratA false false (Sp.rt c), vb true]) none), (6, 2, .call (vi (Sp.sgnI c.num)) none)] []) 1000 [false] (vb (bif decide (Sp.sgnI c.num > 0) then false else false)) (by kernel_rfl) (bc (beq_f (fun h => d10 ((i_bor i_eq i_eq).1 h))) (bc rfl (bc rfl (bc rfl b0)))) q0 (ce (@ev118_y (f5) (f6) (c) k13 d12) (ce (@ev27 (f5) (f6) (c.num) ((↑c.den : Int))) c0)) H
   ·have H := H.2 d12
    obtain ⟨k14, H⟩ := H
    exact path_re (G := given kp93 [(5, 2, .call (tu [ag [vb false, vf [], vb false, vf []], vb false]) none), (6, 2, .call (vi (Sp.sgnI c.num)) none)] []) 1000 [false] (vb (bif decide (Sp.sgnI c.num > 0) then true else false)) (by kernel_rfl) (bc (beq_f (fun h => d10 ((i_bor i_eq i_eq).1 h))) (bc rfl (bc rfl (bc rfl b0)))) q0 (ce (@ev118_n (f5) (f6) (c) k14 d12) (ce (@ev27 (f5) (f6) (c.num) ((↑c.den : Int))) c0)) H
theorem lInt (fa : Bool) (a n : Int)  (dq : AV) (H :
  (Sp.inI n) /\
  (Sp.ok a /\ Sp.ok n) /\
  vb (decide (a = n)) = dq) :
 lInt_at fa a n (PureQ dq) := by
 unfold lInt_at
 obtain ⟨k1, H⟩ := H
 obtain ⟨k2, H⟩ := H
 exact path_re (G := given kp46 [(1, 2, .call (bigA false n) none), (1, 3, .call (vb (decide (a = n))) none)] []) 1000 [] (vb (decide (a = n))) (by kernel_rfl) (bc rfl b0) q0 (ce (@ev15 (n) k1) (ce (@ev12 (fa) (false) (a) (n) k2) c0)) H
noncomputable abbrev zNxD10 := ag [vb false, vf [], vb false, vf [], vb false, vf [], vb false, vf [], vb false, vf [], vb false, vf []]
theorem lSameN (e d : Int)  (dq : AV) (H :
  vb (bif e == d then true else false) = dq) :
 lSameN_at e d (PureQ dq) := by
 unfold lSameN_at
 exact path_re (G := given kp36 [(1, 6, .call (vb true) none)] []) 1000 [] (asm := [!((e == d) == true && true) || true, !((e == d) == true && true) || true]) (calls := [⟨(e == d) == true && true && true, false, 22, [zNxD10, zNxD10], [], vb true, []⟩]) (vb (bif e == d then true else false)) (by kernel_rfl) (bc (Bool.or_true _) (bc (Bool.or_true _) b0)) q0 (cc (fun hc => ((@ev22_a ) : Ev M1 (Conf.pure 22 [zNxD10, zNxD10]) (vb true) [])) c0) H
theorem lSame (f1 f2 f3 f4 f5 f6 g1 g2 g3 g4 g5 g6 : Bool) (a b c x y z : Rat) (e d : Int)  (dq : AV) (H :
  ((e = d) -> (Sp.okO a b c /\ Sp.okO x y z)) /\
  vb (bif e == d then decide (a = x /\ b = y /\ c = z) else false) = dq) :
 lSame_at f1 f2 f3 f4 f5 f6 g1 g2 g3 g4 g5 g6 a b c x y z e d (PureQ dq) := by
 unfold lSame_at
 obtain ⟨k2, H⟩ := H
 exact path_re (G := given kp36 [(1, 6, .call (vb (decide (a = x /\ b = y /\ c = z))) none)] []) 1000 [] (asm := [!((e == d) == true && true) || true, !((e == d) == true && true) || true]) (calls := [⟨(e == d) == true && true && true, false, 22, [rootA f1 f2 f3 f4 f5 f6 a b c, rootA g1 g2 g3 g4 g5 g6 x y z], [], vb (decide (a = x /\ b = y /\ c = z)), []⟩]) (vb (bif e == d then decide (a = x /\ b = y /\ c = z) else false)) (by kernel_rfl) (bc (Bool.or_true _) (bc (Bool.or_true _) b0)) q0 (cc (fun hc => ((@ev22 (f1) (f2) (f3) (f4) (f5) (f6) (g1) (g2) (g3) (g4) (g5) (g6) (a) (b) (c) (x) (y) (z) (k2 ((i_at (i_at (i_bt i_eq))).1 hc))) : Ev M1 (Conf.pure 22 [rootA f1 f2 f3 f4 f5 f6 a b c, rootA g1 g2 g3 g4 g5 g6 x y z]) (vb (decide (a = x /\ b = y /\ c = z))) [])) c0) H
end Go.Av

namespace Go.Av
open Go.Proofs
theorem okT_div {k m : Nat} {r s : Rat} (h : Sp.okT k r) (h2 : Sp.okT m s) (h0 : s.num ≠ 0) : Sp.okT (k + m) (r / s) := by
 have e := divInt_le (p := r.num * (s.den : Int)) (q := (r.den : Int) * s.num) (Int.mul_ne_zero (den_ne r) h0)
 rw [rat_div] at e
 exact ⟨Nat.le_trans (cnt_mono e.1) (cnt_mulI h.1 (cnt_den h2.2)), Nat.le_trans (cnt_mono e.2) (cnt_mulI (cnt_den h.2) h2.1)⟩
def Sp.nrm (a b c : Rat) : Prop := a * a - b * b * c ≠ 0
noncomputable def Sp.ivn (a b c : Rat) : Rat := Sp.qi 1 / (a * a - b * b * c)
theorem okT_norm {a b c : Rat} {k : Nat} (ha : Sp.okT k a) (hb : Sp.okT k b) (hc : Sp.okT k c) : Sp.okT (5 * k + 1) (a * a - b * b * c) :=
 okT_le (okT_sub (okT_mul ha ha) (okT_mul (okT_mul hb hb) hc)) (by omega)
theorem okT_ivn {a b c : Rat} {k : Nat} (ha : Sp.okT k a) (hb : Sp.okT k b) (hc : Sp.okT k c) (h : Sp.nrm a b c) : Sp.okT (5 * k + 4) (Sp.ivn a b c) :=
 okT_le (okT_div (okT_int (n := 1) (by unfold Sp.inI; omega)) (okT_norm ha hb hc) fun e => h (Rat.num_eq_zero.1 e)) (by omega)
theorem ev39_y (f1 f2 f3 f4 f5 f6 : Bool) (a b c : Rat) (h : Sp.okO a b c) (k : Sp.sgO a b c = 0) : Ev M1 (.pure 39 [rootA f1 f2 f3 f4 f5 f6 a b c]) (.tup [noO, .int .i64 6]) [] :=
 call39 (oInv _ _ _ _ _ _ _ _ _ _ ⟨h, fun _ => weak_two weak_no (.refl _), fun x => absurd k x⟩)
theorem ev39_n (f1 f2 f3 f4 f5 f6 : Bool) (a b c : Rat) (h : Sp.okO a b c /\ Sp.nrm a b c) (k : ¬(Sp.sgO a b c = 0)) : Ev M1 (.pure 39 [rootA f1 f2 f3 f4 f5 f6 a b c]) (.tup [rootF (a * Sp.ivn a b c) (-b * Sp.ivn a b c) (Sp.rad (-b * Sp.ivn a b c) c), .int .i64 0]) [] := by
 obtain ⟨h, hn⟩ := h
 have hh := h
 obtain ⟨ha, hb, hc⟩ := h
 have t1 := okT_norm ha hb hc
 have t2 := okT_ivn ha hb hc hn
 refine call39 (oInv _ _ _ _ _ _ _ _ _ _ ⟨hh, fun x => absurd x k, fun _ => ⟨by unfold Sp.inI; omega, ⟨okT_R (okT_int (by unfold Sp.inI; omega)) (by omega), okT_R t1 (by omega), fun e => hn (Rat.num_eq_zero.1 e)⟩, ?_, ⟨⟨ha, okT_neg hb⟩, okT_R t2 (by omega)⟩, .refl _⟩⟩)
 have := hb.1
 unfold Sp.okB; omega
theorem rsq_zero : Sp.rsq 0 := rsq_of (s := 0) (Rat.mul_zero 0)
theorem ev92_y (f1 f2 f3 f4 f5 f6 : Bool) (a b c : Rat) (h : Sp.okO a b c) (k : Sp.isNN c) : Ev M1 (.pure 92 [ratA f1 f2 a, ratA f3 f4 b, ratA f5 f6 c]) (.tup [rootF (Sp.mkA a b c) (Sp.mkB b c) (Sp.mkC b c), .int .i64 0]) [] := by
 obtain ⟨ha, hb, hc⟩ := h
 refine call92 (pMake _ _ _ _ _ _ _ _ _ _ ⟨fun x => absurd k (nn_sgn.1 x), fun _ => ⟨fun s => ?_, fun s => ?_⟩⟩)
 ·have hr := okT_rt s hc
  have hm := okT_mul hb hr
  refine ⟨okT_R hc (by omega), ⟨okT_R hb (by omega), okT_R hr (by omega)⟩, ⟨okT_R ha (by omega), okT_R hm (by omega)⟩, ?_⟩
  rw [show Sp.mkA a b c = a + b * Sp.rt c from if_pos s, show Sp.mkB b c = Sp.qi 0 from if_pos s, show Sp.mkC b c = Sp.qi 0 from if_pos s]
  exact .refl _
 ·refine ⟨okT_R hc (by omega), ?_⟩
  have hc0 : c ≠ 0 := fun e => s (by rw [e]; exact rsq_zero)
  have e1 : Sp.prB b c = b := by
   unfold Sp.prB
   by_cases hb0 : b = 0
   ·rw [if_pos (.inl hb0), hb0, qi_zero]
   ·rw [if_neg fun x => x.elim hb0 hc0]
  have e2 : Sp.prC b c = Sp.rad b c := by
   unfold Sp.prC Sp.rad
   by_cases hb0 : b = 0
   ·rw [if_pos (.inl hb0), if_pos hb0]
   ·rw [if_neg fun x => x.elim hb0 hc0, if_neg hb0]
  rw [e1, e2, show Sp.mkA a b c = a from if_neg s, show Sp.mkB b c = b from if_neg s, show Sp.mkC b c = Sp.rad b c from if_neg s]
  exact .refl _
theorem ev92_n (f1 f2 f3 f4 f5 f6 : Bool) (a b c : Rat) (h : Sp.okO a b c) (k : ¬(Sp.isNN c)) : Ev M1 (.pure 92 [ratA f1 f2 a, ratA f3 f4 b, ratA f5 f6 c]) (.tup [noO, .int .i64 7]) [] :=
 call92 (pMake _ _ _ _ _ _ _ _ _ _ ⟨fun _ => weak_two weak_no (.refl _), fun x => absurd (nn_sgn.2 k) x⟩)
theorem ev93 (f1 f2 f3 f4 f5 f6 : Bool) (a b c : Rat) (h : Sp.okO a b c) : Ev M1 (.pure 93 [rootA f1 f2 f3 f4 f5 f6 a b c]) (.bool (Sp.vroot b c)) [] := by
 obtain ⟨ha, hb, hc⟩ := h
 have t1 := valB_rat a
 have t2 := valB_rat b
 have t3 := valB_rat c
 refine call93 (pValid _ _ _ _ _ _ _ _ _ _ ⟨okA_rat ha (by omega), fun _ => okA_rat hb (by omega), fun _ => okA_rat hc (by omega), fun k => ?_, fun _ => ⟨fun k => ?_, fun k => ⟨fun s => ⟨okT_R hc (by omega), ?_⟩, fun s => ⟨okT_R hc (by omega), ?_⟩⟩⟩⟩)
 ·rcases k with (k | k) | k
  ·exact absurd t1 k
  ·exact absurd t2 k
  ·exact absurd t3 k
 ·congr 1
  have hs := @sgn_num c
  by_cases hb0 : b = 0
  ·rw [show (Sp.sgnI b.num == 0) = true from beq_iff_eq.2 (sgn_num.2 hb0), cond_true]
   unfold Sp.vroot
   rw [if_pos hb0]
   by_cases e : c = 0
   ·rw [decide_eq_true e]; exact beq_iff_eq.2 (hs.2 e)
   ·rw [decide_eq_false e]; exact beq_eq_false_iff_ne.2 fun x => e (hs.1 x)
  ·rw [show (Sp.sgnI b.num == 0) = false from beq_eq_false_iff_ne.2 fun x => hb0 (sgn_num.1 x), cond_false]
   have hc0 := hs.1 (k.resolve_left fun x => hb0 (sgn_num.1 x))
   exact (vroot_f hb0 fun x => x.2 (by rw [hc0]; exact rsq_zero)).symm
 ·rw [vroot_f (fun e => k (.inl (sgn_num.2 e))) fun x => x.2 s]
  cases decide (Sp.sgnI c.num > 0) <;> rfl
 ·by_cases e : 0 < c.num
  ·have : Sp.sgnI c.num > 0 := by unfold Sp.sgnI; rw [if_neg (by omega), if_pos e]; decide
   rw [decide_eq_true this, vroot_t (fun e => k (.inl (sgn_num.2 e))) ⟨e, s⟩]; rfl
  ·have : ¬Sp.sgnI c.num > 0 := by unfold Sp.sgnI; (repeat' split) <;> omega
   rw [decide_eq_false this, vroot_f (fun e => k (.inl (sgn_num.2 e))) fun x => e x.1]; rfl
theorem ok_inI {n : Int} (h : Sp.inI n) : Sp.ok n := by
 have := inI_cnt h
 unfold Sp.ok; omega
theorem ev46 (fa : Bool) (a n : Int) (h : Sp.ok a /\ Sp.inI n) : Ev M1 (.pure 46 [bigA fa a, .int .i64 n]) (.bool (decide (a = n))) [] :=
 call46 (lInt _ _ _ _ ⟨h.2, ⟨h.1, ok_inI h.2⟩, rfl⟩)
theorem ev36 (f1 f2 f3 f4 f5 f6 g1 g2 g3 g4 g5 g6 : Bool) (a b c x y z : Rat) (e d : Int) (h : Sp.okO a b c /\ Sp.okO x y z) : Ev M1 (.pure 36 [rootA f1 f2 f3 f4 f5 f6 a b c, .int .i64 e, rootA g1 g2 g3 g4 g5 g6 x y z, .int .i64 d]) (.bool (bif e == d then decide (a = x /\ b = y /\ c = z) else false)) [] :=
 call36 (lSame _ _ _ _ _ _ _ _ _ _ _ _ _ _ _ _ _ _ _ _ _ ⟨fun _ => h, rfl⟩)
theorem ev36_a (e d : Int) : Ev M1 (.pure 36 [noO, .int .i64 e, noO, .int .i64 d]) (.bool (bif e == d then true else false)) [] :=
 call36 (lSameN _ _ _ rfl)
end Go.Av

namespace Go.Av
open Go.Proofs
set_option maxRecDepth 100000
def fi44 : Fi := ⟨23, [.cell 6 28, .tmp 7]⟩
def kp44 : List (Nat × List Nat) := [(0, [0, 1, 2, 6]), (1, [6, 8, 9]), (2, [6, 7])]
def fi45 : Fi := ⟨38, [.cell 2 28]⟩
def kp45 : List (Nat × List Nat) := [(0, [1, 2]), (1, [1, 2, 3]), (2, [1, 2, 3, 4]), (3, [2, 5]), (4, [2])]
def pOf_at (a b c d e f : Int) (Q : AV -> Heap -> Prop) : Prop := Wp M1 (.run fi45 (atC (cd Tryz.f45) []) [(0, .agg [.int .i16 a, .int .i16 b, .int .u16 c, .int .u8 d, .int .u8 e, .int .u8 f])] []) Q
def lMake_at (a b c : Int) (Q : AV -> Heap -> Prop) : Prop := Wp M1 (.run fi44 (atC (cd Tryz.f44) []) [(0, .int .i64 a), (1, .int .i64 b), (2, .int .i64 c)] []) Q
theorem call44 {args : List AV} {d : AV} (h : wc M1 fi44 Tryz.f44 args d) : Ev M1 (.pure 44 args) d [] := pcl _ _ (by kernel_rfl) h
theorem call45 {args : List AV} {d : AV} (h : wc M1 fi45 Tryz.f45 args d) : Ev M1 (.pure 45 args) d [] := pcl _ _ (by kernel_rfl) h
noncomputable abbrev zNxE1 := ag [vb false, vf [], vb false, vf [], vb false, vf [], vb false, vf [], vb false, vf [], vb false, vf []]
theorem pOf (a b c d e f : Int)  (dq : AV) (H :
  (-9223372036854775808 <= a /\ a <= 9223372036854775807) /\
  (-9223372036854775808 <= d /\ d <= 9223372036854775807) /\
  (-9223372036854775808 <= d + 1 /\ d + 1 <= 9223372036854775807) /\
  (Sp.okF a (d + 1)) /\
  (-9223372036854775808 <= b /\ b <= 9223372036854775807) /\
  (-9223372036854775808 <= e /\ e <= 9223372036854775807) /\
  (-9223372036854775808 <= e + 1 /\ e + 1 <= 9223372036854775807) /\
  (Sp.okF b (e + 1)) /\
  (-9223372036854775808 <= c /\ c <= 9223372036854775807) /\
  (-9223372036854775808 <= f /\ f <= 9223372036854775807) /\
  (-9223372036854775808 <= f + 1 /\ f + 1 <= 9223372036854775807) /\
  (Sp.okF c (f + 1)) /\
  ((Sp.isNN (Sp.qf c (f + 1))) -> (Sp.okO (Sp.qf a (d + 1)) (Sp.qf b (e + 1)) (Sp.qf c (f + 1))) /\
   Weak (rootF (Sp.mkA (Sp.qf a (d + 1)) (Sp.qf b (e + 1)) (Sp.qf c (f + 1))) (Sp.mkB (Sp.qf b (e + 1)) (Sp.qf c (f + 1))) (Sp.mkC (Sp.qf b (e + 1)) (Sp.qf c (f + 1)))) dq) /\
  (¬(Sp.isNN (Sp.qf c (f + 1))) -> (Sp.okO (Sp.qf a (d + 1)) (Sp.qf b (e + 1)) (Sp.qf c (f + 1))) /\
   Weak (ag [vb false, vf [], vb false, vf [], vb false, vf [], vb false, vf [], vb false, vf [], vb false, vf []]) dq)) :
 pOf_at a b c d e f (PureQ dq) := by
 unfold pOf_at
 obtain ⟨k1, H⟩ := H
 have w2 : wi a = a := wI64 k1
 obtain ⟨k3, H⟩ := H
 have w4 : wi d = d := wI64 k3
 obtain ⟨k5, H⟩ := H
 have w6 : wi (d + 1) = d + 1 := wI64 k5
 obtain ⟨k7, H⟩ := H
 obtain ⟨k8, H⟩ := H
 have w9 : wi b = b := wI64 k8
 obtain ⟨k10, H⟩ := H
 have w11 : wi e = e := wI64 k10
 obtain ⟨k12, H⟩ := H
 have w13 : wi (e + 1) = e + 1 := wI64 k12
 obtain ⟨k14, H⟩ := H
 obtain ⟨k15, H⟩ := H
 have w16 : wi c = c := wI64 k15
 obtain ⟨k17, H⟩ := H
 have w18 : wi f = f := wI64 k17
 obtain ⟨k19, H⟩ := H
 have w20 : wi (f + 1) = f + 1 := wI64 k19
 obtain ⟨k21, H⟩ := H
 rcases xm (Sp.isNN (Sp.qf c (f + 1))) with d22 | d22
 ·have H := H.1 d22
  obtain ⟨k23, H⟩ := H
  exact path_rq (G := given kp45 [(1, 7, .call (ratA false false (Sp.qf a (d + 1))) none), (2, 7, .call (ratA false false (Sp.qf b (e + 1))) none), (3, 9, .call (ratA false false (Sp.qf c (f + 1))) none), (3, 10, .call (tu [rootF (Sp.mkA (Sp.qf a (d + 1)) (Sp.qf b (e + 1)) (Sp.qf c (f + 1))) (Sp.mkB (Sp.qf b (e + 1)) (Sp.qf c (f + 1))) (Sp.mkC (Sp.qf b (e + 1)) (Sp.qf c (f + 1))), vi 0]) none)] []) 1000 [] (calls := [pc 43 [vi (wi a), vi (wi (wi d + 1))] (ratA false false (Sp.qf a (d + 1))), pc 43 [vi (wi b), vi (wi (wi e + 1))] (ratA false false (Sp.qf b (e + 1))), pc 43 [vi (wi c), vi (wi (wi f + 1))] (ratA false false (Sp.qf c (f + 1))), pc 92 [ratA false false (Sp.qf a (d + 1)), ratA false false (Sp.qf b (e + 1)), ratA false false (Sp.qf c (f + 1))] (tu [rootF (Sp.mkA (Sp.qf a (d + 1)) (Sp.qf b (e + 1)) (Sp.qf c (f + 1))) (Sp.mkB (Sp.qf b (e + 1)) (Sp.qf c (f + 1))) (Sp.mkC (Sp.qf b (e + 1)) (Sp.qf c (f + 1))), vi 0])]) (rootF (Sp.mkA (Sp.qf a (d + 1)) (Sp.qf b (e + 1)) (Sp.qf c (f + 1))) (Sp.mkB (Sp.qf b (e + 1)) (Sp.qf c (f + 1))) (Sp.mkC (Sp.qf b (e + 1)) (Sp.qf c (f + 1)))) (by kernel_rfl) (bc rfl (bc rfl (bc rfl (bc rfl (bc rfl (bc rfl (bc rfl (bc rfl (bc rfl (bc rfl (bc rfl (bc rfl (bc rfl b0))))))))))))) q0 (ce (by (try rw [w2]); (try rw [w4]); (try rw [w6]); all_goals exact (@ev43 (a) (d + 1) k7)) (ce (by (try rw [w9]); (try rw [w11]); (try rw [w13]); all_goals exact (@ev43 (b) (e + 1) k14)) (ce (by (try rw [w16]); (try rw [w18]); (try rw [w20]); all_goals exact (@ev43 (c) (f + 1) k21)) (ce (@ev92_y (false) (false) (false) (false) (false) (false) (Sp.qf a (d + 1)) (Sp.qf b (e + 1)) (Sp.qf c (f + 1)) k23 d22) c0)))) H
 ·have H := H.2 d22
  obtain ⟨k24, H⟩ := H
  exact path_rq (G := given kp45 [(1, 7, .call (ratA false false (Sp.qf a (d + 1))) none), (2, 7, .call (ratA false false (Sp.qf b (e + 1))) none), (3, 9, .call (ratA false false (Sp.qf c (f + 1))) none), (3, 10, .call (tu [zNxE1, vi 7]) none)] []) 1000 [] (calls := [pc 43 [vi (wi a), vi (wi (wi d + 1))] (ratA false false (Sp.qf a (d + 1))), pc 43 [vi (wi b), vi (wi (wi e + 1))] (ratA false false (Sp.qf b (e + 1))), pc 43 [vi (wi c), vi (wi (wi f + 1))] (ratA false false (Sp.qf c (f + 1))), pc 92 [ratA false false (Sp.qf a (d + 1)), ratA false false (Sp.qf b (e + 1)), ratA false false (Sp.qf c (f + 1))] (tu [zNxE1, vi 7])]) (zNxE1) (by kernel_rfl) (bc rfl (bc rfl (bc rfl (bc rfl (bc rfl (bc rfl (bc rfl (bc rfl (bc rfl (bc rfl (bc rfl (bc rfl (bc rfl b0))))))))))))) q0 (ce (by (try rw [w2]); (try rw [w4]); (try rw [w6]); all_goals exact (@ev43 (a) (d + 1) k7)) (ce (by (try rw [w9]); (try rw [w11]); (try rw [w13]); all_goals exact (@ev43 (b) (e + 1) k14)) (ce (by (try rw [w16]); (try rw [w18]); (try rw [w20]); all_goals exact (@ev43 (c) (f + 1) k21)) (ce (@ev92_n (false) (false) (false) (false) (false) (false) (Sp.qf a (d + 1)) (Sp.qf b (e + 1)) (Sp.qf c (f + 1)) k24 d22) c0)))) H
noncomputable abbrev zNxE2 := ag [vb false, vf [], vb false, vf [], vb false, vf [], vb false, vf [], vb false, vf [], vb false, vf []]
theorem lMake (a b c : Int)  (dq : AV) (H :
  (Sp.inI a) /\
  (Sp.inI b) /\
  (Sp.inI c) /\
  ((Sp.isNN (Sp.qi c)) -> (Sp.okO (Sp.qi a) (Sp.qi b) (Sp.qi c)) /\
   Weak (tu [rootF (Sp.mkA (Sp.qi a) (Sp.qi b) (Sp.qi c)) (Sp.mkB (Sp.qi b) (Sp.qi c)) (Sp.mkC (Sp.qi b) (Sp.qi c)), vb true]) dq) /\
  (¬(Sp.isNN (Sp.qi c)) -> (Sp.okO (Sp.qi a) (Sp.qi b) (Sp.qi c)) /\
   Weak (tu [ag [vb false, vf [], vb false, vf [], vb false, vf [], vb false, vf [], vb false, vf [], vb false, vf []], vb false]) dq)) :
 lMake_at a b c (PureQ dq) := by
 unfold lMake_at
 obtain ⟨k1, H⟩ := H
 obtain ⟨k2, H⟩ := H
 obtain ⟨k3, H⟩ := H
 rcases xm (Sp.isNN (Sp.qi c)) with d4 | d4
 ·have H := H.1 d4
  obtain ⟨k5, H⟩ := H
  exact path_rq (G := given kp44 [(1, 1, .call (ratA false false (Sp.qi a)) none), (1, 3, .call (ratA false false (Sp.qi b)) none), (1, 5, .call (ratA false false (Sp.qi c)) none), (1, 6, .call (tu [rootF (Sp.mkA (Sp.qi a) (Sp.qi b) (Sp.qi c)) (Sp.mkB (Sp.qi b) (Sp.qi c)) (Sp.mkC (Sp.qi b) (Sp.qi c)), vi 0]) none)] []) 1000 [] (tu [rootF (Sp.mkA (Sp.qi a) (Sp.qi b) (Sp.qi c)) (Sp.mkB (Sp.qi b) (Sp.qi c)) (Sp.mkC (Sp.qi b) (Sp.qi c)), vb true]) (by kernel_rfl) (bc rfl (bc rfl (bc rfl b0))) q0 (ce (@ev18 (a) k1) (ce (@ev18 (b) k2) (ce (@ev18 (c) k3) (ce (@ev42_y (false) (false) (false) (false) (false) (false) (Sp.qi a) (Sp.qi b) (Sp.qi c) k5 d4) c0)))) H
 ·have H := H.2 d4
  obtain ⟨k6, H⟩ := H
  exact path_rq (G := given kp44 [(1, 1, .call (ratA false false (Sp.qi a)) none), (1, 3, .call (ratA false false (Sp.qi b)) none), (1, 5, .call (ratA false false (Sp.qi c)) none), (1, 6, .call (tu [zNxE2, vi 7]) none)] []) 1000 [] (tu [zNxE2, vb false]) (by kernel_rfl) (bc rfl (bc rfl (bc rfl b0))) q0 (ce (@ev18 (a) k1) (ce (@ev18 (b) k2) (ce (@ev18 (c) k3) (ce (@ev42_n (false) (false) (false) (false) (false) (false) (Sp.qi a) (Sp.qi b) (Sp.qi c) k6 d4) c0)))) H
end Go.Av

namespace Go.Av
open Go.Proofs
theorem cnt_le {n m : Nat} {k : Nat} (h : n <= m) (hm : Sp.cnt m <= k) : Sp.cnt n <= k := Nat.le_trans (cnt_mono h) hm
theorem okT_qf {n d : Int} (h : Sp.okF n d) : Sp.okT 3 (Sp.qf n d) := by
 obtain ⟨h1, h2, h3⟩ := h
 obtain ⟨e1, e2⟩ := divInt_le (p := n) h3
 rw [qf_eq]
 exact ⟨cnt_le e1 (inI_cnt h1), cnt_le e2 (inI_cnt h2)⟩
def Sp.okSd (a b c d e f : Int) : Prop := (-32768 <= a /\ a <= 32767) /\ (-32768 <= b /\ b <= 32767) /\ (0 <= c /\ c <= 65535) /\ (0 <= d /\ d <= 255) /\ (0 <= e /\ e <= 255) /\ (0 <= f /\ f <= 255)
theorem nn_qf {n d : Int} (h : 0 <= n) (hd : 0 < d) : Sp.isNN (Sp.qf n d) := by
 rw [qf_eq]
 obtain ⟨e1, _⟩ := rat_pos (a := n) hd
 unfold Sp.isNN
 rw [e1]
 exact Int.ediv_nonneg h (by omega)
theorem okT_O {a b c : Rat} {k : Nat} (h1 : Sp.okT k a) (h2 : Sp.okT k b) (h3 : Sp.okT k c) (hk : k <= 9000) : Sp.okO a b c := ⟨okT_le h1 hk, okT_le h2 hk, okT_le h3 hk⟩
theorem ev45 (a b c d e f : Int) (h : Sp.okSd a b c d e f) : Ev M1 (.pure 45 [.agg [.int .i16 a, .int .i16 b, .int .u16 c, .int .u8 d, .int .u8 e, .int .u8 f]]) (rootF (Sp.mkA (Sp.qf a (d + 1)) (Sp.qf b (e + 1)) (Sp.qf c (f + 1))) (Sp.mkB (Sp.qf b (e + 1)) (Sp.qf c (f + 1))) (Sp.mkC (Sp.qf b (e + 1)) (Sp.qf c (f + 1)))) [] := by
 obtain ⟨ha, hb, hc, hd, he, hf⟩ := h
 have f1 : Sp.okF a (d + 1) := by unfold Sp.okF Sp.inI; omega
 have f2 : Sp.okF b (e + 1) := by unfold Sp.okF Sp.inI; omega
 have f3 : Sp.okF c (f + 1) := by unfold Sp.okF Sp.inI; omega
 have nn := nn_qf (n := c) (d := f + 1) hc.1 (by omega)
 exact call45 (pOf _ _ _ _ _ _ _ ⟨by omega, by omega, by omega, f1, by omega, by omega, by omega, f2, by omega, by omega, by omega, f3, fun _ => ⟨okT_O (okT_qf f1) (okT_qf f2) (okT_qf f3) (by omega), .refl _⟩, fun x => absurd nn x⟩)
def Sp.okM (a b c : Int) : Prop := Sp.inI a /\ Sp.inI b /\ Sp.inI c /\ 0 <= c
theorem nn_qi {n : Int} (h : 0 <= n) : Sp.isNN (Sp.qi n) := by
 rw [qi_eq]
 unfold Sp.isNN
 rw [Rat.num_intCast]; exact h
theorem ev44 (a b c : Int) (h : Sp.okM a b c) : Ev M1 (.pure 44 [.int .i64 a, .int .i64 b, .int .i64 c]) (.tup [rootF (Sp.mkA (Sp.qi a) (Sp.qi b) (Sp.qi c)) (Sp.mkB (Sp.qi b) (Sp.qi c)) (Sp.mkC (Sp.qi b) (Sp.qi c)), .bool true]) [] := by
 obtain ⟨h1, h2, h3, h4⟩ := h
 exact call44 (lMake _ _ _ _ ⟨h1, h2, h3, fun _ => ⟨okT_O (okT_int h1) (okT_int h2) (okT_int h3) (by omega), .refl _⟩, fun x => absurd (nn_qi h4) x⟩)
end Go.Av

namespace Go.Av
open Go.Proofs
set_option maxRecDepth 100000
def fi9 : Fi := ⟨102, [.tmp 0]⟩
def kp9 : List (Nat × List Nat) := [(0, []), (1, [1, 2]), (2, [1, 2, 3, 4]), (3, [1, 2, 3, 4, 5, 6]), (4, [1, 2, 3, 4, 5, 6, 7, 8]), (5, [5, 7, 60]), (6, [0]), (7, [5, 7, 9, 10]), (8, [5, 7, 9, 10, 11]), (9, [5, 7, 9, 10, 11, 13]), (10, [0])]
def lAwake_at  (Q : AV -> Heap -> Prop) : Prop := Wp M1 (.run fi9 (atC (cd Tryz.f9) []) [] []) Q
theorem call9 {args : List AV} {d : AV} (h : wc M1 fi9 Tryz.f9 args d) : Ev M1 (.pure 9 args) d [] := pcl _ _ (by kernel_rfl) h
noncomputable abbrev zNxF1 := Sp.mkA (Sp.qi 1) (Sp.qi 1) (Sp.qi 2) * Sp.ivn (Sp.mkA (Sp.qi 1) (Sp.qi 1) (Sp.qi 2)) (Sp.mkB (Sp.qi 1) (Sp.qi 2)) (Sp.mkC (Sp.qi 1) (Sp.qi 2)) = Sp.mkA (Sp.qf (-1) (0 + 1)) (Sp.qf 1 (0 + 1)) (Sp.qf 2 (0 + 1)) /\ -Sp.mkB (Sp.qi 1) (Sp.qi 2) * Sp.ivn (Sp.mkA (Sp.qi 1) (Sp.qi 1) (Sp.qi 2)) (Sp.mkB (Sp.qi 1) (Sp.qi 2)) (Sp.mkC (Sp.qi 1) (Sp.qi 2)) = Sp.mkB (Sp.qf 1 (0 + 1)) (Sp.qf 2 (0 + 1)) /\ Sp.rad (-Sp.mkB (Sp.qi 1) (Sp.qi 2) * Sp.ivn (Sp.mkA (Sp.qi 1) (Sp.qi 1) (Sp.qi 2)) (Sp.mkB (Sp.qi 1) (Sp.qi 2)) (Sp.mkC (Sp.qi 1) (Sp.qi 2))) (Sp.mkC (Sp.qi 1) (Sp.qi 2)) = Sp.mkC (Sp.qf 1 (0 + 1)) (Sp.qf 2 (0 + 1))
noncomputable abbrev zNxF2 := Sp.mkA (Sp.qi 0) (Sp.qi 1) (Sp.qi 8) = Sp.mkA (Sp.qf 0 (0 + 1)) (Sp.qf 1 (0 + 1)) (Sp.qf 8 (0 + 1)) /\ Sp.mkB (Sp.qi 1) (Sp.qi 8) = Sp.mkB (Sp.qf 1 (0 + 1)) (Sp.qf 8 (0 + 1)) /\ Sp.mkC (Sp.qi 1) (Sp.qi 8) = Sp.mkC (Sp.qf 1 (0 + 1)) (Sp.qf 8 (0 + 1))
noncomputable abbrev zNxF3 := ag [vb false, vf [], vb false, vf [], vb false, vf [], vb false, vf [], vb false, vf [], vb false, vf []]
noncomputable abbrev zNxF4 := Sp.fl (Sp.mkA (Sp.qi 1) (Sp.qi 1) (Sp.qi 2)) (Sp.mkB (Sp.qi 1) (Sp.qi 2)) (Sp.mkC (Sp.qi 1) (Sp.qi 2)) = 2
noncomputable abbrev zNxF5 := Sp.fl (Sp.mkA (Sp.qi 1) (Sp.qi (-1)) (Sp.qi 2)) (Sp.mkB (Sp.qi (-1)) (Sp.qi 2)) (Sp.mkC (Sp.qi (-1)) (Sp.qi 2))
noncomputable abbrev zNxF6 := Sp.fl (Sp.mkA (Sp.qi 1) (Sp.qi (-1)) (Sp.qi 2)) (Sp.mkB (Sp.qi (-1)) (Sp.qi 2)) (Sp.mkC (Sp.qi (-1)) (Sp.qi 2)) = -1
noncomputable abbrev zNxF7 := Sp.fl (Sp.mkA (Sp.qi 1) (Sp.qi 1) (Sp.qi 2)) (Sp.mkB (Sp.qi 1) (Sp.qi 2)) (Sp.mkC (Sp.qi 1) (Sp.qi 2))
noncomputable abbrev zNxF8 := Sp.mkA (Sp.qi 1) (Sp.qi 2) (Sp.qf 9 4) = Sp.qi 4 /\ Sp.mkB (Sp.qi 2) (Sp.qf 9 4) = Sp.qi 0 /\ Sp.mkC (Sp.qi 2) (Sp.qf 9 4) = Sp.qi 0
noncomputable abbrev zNxF9 := Sp.mkA (Sp.qf 0 (0 + 1)) (Sp.qf 1 (0 + 1)) (Sp.qf 8 (0 + 1))
noncomputable abbrev zNxF10 := Sp.sgO (Sp.mkA (Sp.qi 3) (Sp.qi (-2)) (Sp.qi 2)) (Sp.mkB (Sp.qi (-2)) (Sp.qi 2)) (Sp.mkC (Sp.qi (-2)) (Sp.qi 2))
noncomputable abbrev zNxF11 := Sp.sgO (Sp.mkA (Sp.qi 4) (Sp.qi (-3)) (Sp.qi 2)) (Sp.mkB (Sp.qi (-3)) (Sp.qi 2)) (Sp.mkC (Sp.qi (-3)) (Sp.qi 2))
noncomputable abbrev zNxF12 := Sp.mkA (Sp.qf (-1) (0 + 1)) (Sp.qf 1 (0 + 1)) (Sp.qf 2 (0 + 1))
noncomputable abbrev zNxF13 := Sp.rad (-Sp.mkB (Sp.qi 1) (Sp.qi 2) * Sp.ivn (Sp.mkA (Sp.qi 1) (Sp.qi 1) (Sp.qi 2)) (Sp.mkB (Sp.qi 1) (Sp.qi 2)) (Sp.mkC (Sp.qi 1) (Sp.qi 2))) (Sp.mkC (Sp.qi 1) (Sp.qi 2))
noncomputable abbrev zNxF14 := Sp.mkA (Sp.qi 1) (Sp.qi 1) (Sp.qi 2) * Sp.ivn (Sp.mkA (Sp.qi 1) (Sp.qi 1) (Sp.qi 2)) (Sp.mkB (Sp.qi 1) (Sp.qi 2)) (Sp.mkC (Sp.qi 1) (Sp.qi 2))
noncomputable abbrev zNxF15 := ag [AV.int IntKind.i16 (-1), AV.int IntKind.i16 1, AV.int IntKind.u16 2, AV.int IntKind.u8 0, AV.int IntKind.u8 0, AV.int IntKind.u8 0]
noncomputable abbrev zNxF16 := ag [AV.int IntKind.i16 0, AV.int IntKind.i16 1, AV.int IntKind.u16 8, AV.int IntKind.u8 0, AV.int IntKind.u8 0, AV.int IntKind.u8 0]
noncomputable abbrev zNxF17 := bif bif bif decide zNxF1 then decide zNxF4 else false then decide zNxF6 else false then Sp.sgO (Sp.mkA (Sp.qi 3) (Sp.qi (-2)) (Sp.qi 2)) (Sp.mkB (Sp.qi (-2)) (Sp.qi 2)) (Sp.mkC (Sp.qi (-2)) (Sp.qi 2)) == 1 else false
theorem lAwake   (dq : AV) (H :
  (Sp.inI 1) /\
  (Sp.inI 2) /\
  (Sp.okF 9 4) /\
  ((Sp.isNN (Sp.qf 9 4)) -> (Sp.okO (Sp.qi 1) (Sp.qi 2) (Sp.qf 9 4)) /\
   (Sp.okM 0 1 8) /\
   (Sp.okM 1 1 2) /\
   (Sp.okM 1 (-1) 2) /\
   ((¬(false = true)) -> (Sp.inI 4)) /\
   (Sp.okO (Sp.mkA (Sp.qi 1) (Sp.qi 2) (Sp.qf 9 4)) (Sp.mkB (Sp.qi 2) (Sp.qf 9 4)) (Sp.mkC (Sp.qi 2) (Sp.qf 9 4)) /\ Sp.okO (Sp.qi 4) (Sp.qi 0) (Sp.qi 0)) /\
   ((¬(¬(Sp.mkA (Sp.qi 1) (Sp.qi 2) (Sp.qf 9 4) = Sp.qi 4 /\ Sp.mkB (Sp.qi 2) (Sp.qf 9 4) = Sp.qi 0 /\ Sp.mkC (Sp.qi 2) (Sp.qf 9 4) = Sp.qi 0))) -> (Sp.okSd 0 1 8 0 0 0)) /\
   ((¬(¬(Sp.mkA (Sp.qi 1) (Sp.qi 2) (Sp.qf 9 4) = Sp.qi 4 /\ Sp.mkB (Sp.qi 2) (Sp.qf 9 4) = Sp.qi 0 /\ Sp.mkC (Sp.qi 2) (Sp.qf 9 4) = Sp.qi 0))) -> (Sp.okO (Sp.mkA (Sp.qi 0) (Sp.qi 1) (Sp.qi 8)) (Sp.mkB (Sp.qi 1) (Sp.qi 8)) (Sp.mkC (Sp.qi 1) (Sp.qi 8)) /\ Sp.okO (Sp.mkA (Sp.qf 0 (0 + 1)) (Sp.qf 1 (0 + 1)) (Sp.qf 8 (0 + 1))) (Sp.mkB (Sp.qf 1 (0 + 1)) (Sp.qf 8 (0 + 1))) (Sp.mkC (Sp.qf 1 (0 + 1)) (Sp.qf 8 (0 + 1))))) /\
   (((¬(Sp.mkA (Sp.qi 1) (Sp.qi 2) (Sp.qf 9 4) = Sp.qi 4 /\ Sp.mkB (Sp.qi 2) (Sp.qf 9 4) = Sp.qi 0 /\ Sp.mkC (Sp.qi 2) (Sp.qf 9 4) = Sp.qi 0)) \/ (¬(Sp.mkA (Sp.qi 0) (Sp.qi 1) (Sp.qi 8) = Sp.mkA (Sp.qf 0 (0 + 1)) (Sp.qf 1 (0 + 1)) (Sp.qf 8 (0 + 1)) /\ Sp.mkB (Sp.qi 1) (Sp.qi 8) = Sp.mkB (Sp.qf 1 (0 + 1)) (Sp.qf 8 (0 + 1)) /\ Sp.mkC (Sp.qi 1) (Sp.qi 8) = Sp.mkC (Sp.qf 1 (0 + 1)) (Sp.qf 8 (0 + 1))))) -> vb false = dq) /\
   (¬((¬(Sp.mkA (Sp.qi 1) (Sp.qi 2) (Sp.qf 9 4) = Sp.qi 4 /\ Sp.mkB (Sp.qi 2) (Sp.qf 9 4) = Sp.qi 0 /\ Sp.mkC (Sp.qi 2) (Sp.qf 9 4) = Sp.qi 0)) \/ (¬(Sp.mkA (Sp.qi 0) (Sp.qi 1) (Sp.qi 8) = Sp.mkA (Sp.qf 0 (0 + 1)) (Sp.qf 1 (0 + 1)) (Sp.qf 8 (0 + 1)) /\ Sp.mkB (Sp.qi 1) (Sp.qi 8) = Sp.mkB (Sp.qf 1 (0 + 1)) (Sp.qf 8 (0 + 1)) /\ Sp.mkC (Sp.qi 1) (Sp.qi 8) = Sp.mkC (Sp.qf 1 (0 + 1)) (Sp.qf 8 (0 + 1))))) -> ((Sp.sgO (Sp.mkA (Sp.qi 1) (Sp.qi 1) (Sp.qi 2)) (Sp.mkB (Sp.qi 1) (Sp.qi 2)) (Sp.mkC (Sp.qi 1) (Sp.qi 2)) = 0) -> (Sp.okO (Sp.mkA (Sp.qi 1) (Sp.qi 1) (Sp.qi 2)) (Sp.mkB (Sp.qi 1) (Sp.qi 2)) (Sp.mkC (Sp.qi 1) (Sp.qi 2))) /\
     (Sp.okM 3 (-2) 2) /\
     (Sp.okM 4 (-3) 2) /\
     ((false = true) -> (Sp.okSd (-1) 1 2 0 0 0)) /\
     ∃ (b1 : Bool),
     ((false = true) -> (Ev M1 (Conf.pure 22 [ag [vb false, vf [], vb false, vf [], vb false, vf [], vb false, vf [], vb false, vf [], vb false, vf []], rootF (Sp.mkA (Sp.qf (-1) (0 + 1)) (Sp.qf 1 (0 + 1)) (Sp.qf 2 (0 + 1))) (Sp.mkB (Sp.qf 1 (0 + 1)) (Sp.qf 2 (0 + 1))) (Sp.mkC (Sp.qf 1 (0 + 1)) (Sp.qf 2 (0 + 1)))]) (vb b1) [])) /\
     ((false = true) -> (Sp.ok (Sp.fl (Sp.mkA (Sp.qi 1) (Sp.qi 1) (Sp.qi 2)) (Sp.mkB (Sp.qi 1) (Sp.qi 2)) (Sp.mkC (Sp.qi 1) (Sp.qi 2))) /\ Sp.inI 2)) /\
     ((false = true) -> (Sp.okO (Sp.mkA (Sp.qi 1) (Sp.qi (-1)) (Sp.qi 2)) (Sp.mkB (Sp.qi (-1)) (Sp.qi 2)) (Sp.mkC (Sp.qi (-1)) (Sp.qi 2)))) /\
     ((false = true) -> (Sp.ok (Sp.fl (Sp.mkA (Sp.qi 1) (Sp.qi (-1)) (Sp.qi 2)) (Sp.mkB (Sp.qi (-1)) (Sp.qi 2)) (Sp.mkC (Sp.qi (-1)) (Sp.qi 2))) /\ Sp.inI (-1))) /\
     ((false = true) -> (Sp.okO (Sp.mkA (Sp.qi 3) (Sp.qi (-2)) (Sp.qi 2)) (Sp.mkB (Sp.qi (-2)) (Sp.qi 2)) (Sp.mkC (Sp.qi (-2)) (Sp.qi 2)))) /\
     ((false = true) -> (Sp.okO (Sp.mkA (Sp.qi 4) (Sp.qi (-3)) (Sp.qi 2)) (Sp.mkB (Sp.qi (-3)) (Sp.qi 2)) (Sp.mkC (Sp.qi (-3)) (Sp.qi 2)))) /\
     vb false = dq) /\
    (¬(Sp.sgO (Sp.mkA (Sp.qi 1) (Sp.qi 1) (Sp.qi 2)) (Sp.mkB (Sp.qi 1) (Sp.qi 2)) (Sp.mkC (Sp.qi 1) (Sp.qi 2)) = 0) -> (Sp.okO (Sp.mkA (Sp.qi 1) (Sp.qi 1) (Sp.qi 2)) (Sp.mkB (Sp.qi 1) (Sp.qi 2)) (Sp.mkC (Sp.qi 1) (Sp.qi 2)) /\ Sp.nrm (Sp.mkA (Sp.qi 1) (Sp.qi 1) (Sp.qi 2)) (Sp.mkB (Sp.qi 1) (Sp.qi 2)) (Sp.mkC (Sp.qi 1) (Sp.qi 2))) /\
     (Sp.okM 3 (-2) 2) /\
     (Sp.okM 4 (-3) 2) /\
     ((true = true) -> (Sp.okSd (-1) 1 2 0 0 0)) /\
     (Sp.okO (Sp.mkA (Sp.qi 1) (Sp.qi 1) (Sp.qi 2) * Sp.ivn (Sp.mkA (Sp.qi 1) (Sp.qi 1) (Sp.qi 2)) (Sp.mkB (Sp.qi 1) (Sp.qi 2)) (Sp.mkC (Sp.qi 1) (Sp.qi 2))) (-Sp.mkB (Sp.qi 1) (Sp.qi 2) * Sp.ivn (Sp.mkA (Sp.qi 1) (Sp.qi 1) (Sp.qi 2)) (Sp.mkB (Sp.qi 1) (Sp.qi 2)) (Sp.mkC (Sp.qi 1) (Sp.qi 2))) (Sp.rad (-Sp.mkB (Sp.qi 1) (Sp.qi 2) * Sp.ivn (Sp.mkA (Sp.qi 1) (Sp.qi 1) (Sp.qi 2)) (Sp.mkB (Sp.qi 1) (Sp.qi 2)) (Sp.mkC (Sp.qi 1) (Sp.qi 2))) (Sp.mkC (Sp.qi 1) (Sp.qi 2))) /\ Sp.okO (Sp.mkA (Sp.qf (-1) (0 + 1)) (Sp.qf 1 (0 + 1)) (Sp.qf 2 (0 + 1))) (Sp.mkB (Sp.qf 1 (0 + 1)) (Sp.qf 2 (0 + 1))) (Sp.mkC (Sp.qf 1 (0 + 1)) (Sp.qf 2 (0 + 1)))) /\
     ((Sp.mkA (Sp.qi 1) (Sp.qi 1) (Sp.qi 2) * Sp.ivn (Sp.mkA (Sp.qi 1) (Sp.qi 1) (Sp.qi 2)) (Sp.mkB (Sp.qi 1) (Sp.qi 2)) (Sp.mkC (Sp.qi 1) (Sp.qi 2)) = Sp.mkA (Sp.qf (-1) (0 + 1)) (Sp.qf 1 (0 + 1)) (Sp.qf 2 (0 + 1)) /\ -Sp.mkB (Sp.qi 1) (Sp.qi 2) * Sp.ivn (Sp.mkA (Sp.qi 1) (Sp.qi 1) (Sp.qi 2)) (Sp.mkB (Sp.qi 1) (Sp.qi 2)) (Sp.mkC (Sp.qi 1) (Sp.qi 2)) = Sp.mkB (Sp.qf 1 (0 + 1)) (Sp.qf 2 (0 + 1)) /\ Sp.rad (-Sp.mkB (Sp.qi 1) (Sp.qi 2) * Sp.ivn (Sp.mkA (Sp.qi 1) (Sp.qi 1) (Sp.qi 2)) (Sp.mkB (Sp.qi 1) (Sp.qi 2)) (Sp.mkC (Sp.qi 1) (Sp.qi 2))) (Sp.mkC (Sp.qi 1) (Sp.qi 2)) = Sp.mkC (Sp.qf 1 (0 + 1)) (Sp.qf 2 (0 + 1))) -> (Sp.okO (Sp.mkA (Sp.qi 1) (Sp.qi 1) (Sp.qi 2)) (Sp.mkB (Sp.qi 1) (Sp.qi 2)) (Sp.mkC (Sp.qi 1) (Sp.qi 2)))) /\
     ((Sp.mkA (Sp.qi 1) (Sp.qi 1) (Sp.qi 2) * Sp.ivn (Sp.mkA (Sp.qi 1) (Sp.qi 1) (Sp.qi 2)) (Sp.mkB (Sp.qi 1) (Sp.qi 2)) (Sp.mkC (Sp.qi 1) (Sp.qi 2)) = Sp.mkA (Sp.qf (-1) (0 + 1)) (Sp.qf 1 (0 + 1)) (Sp.qf 2 (0 + 1)) /\ -Sp.mkB (Sp.qi 1) (Sp.qi 2) * Sp.ivn (Sp.mkA (Sp.qi 1) (Sp.qi 1) (Sp.qi 2)) (Sp.mkB (Sp.qi 1) (Sp.qi 2)) (Sp.mkC (Sp.qi 1) (Sp.qi 2)) = Sp.mkB (Sp.qf 1 (0 + 1)) (Sp.qf 2 (0 + 1)) /\ Sp.rad (-Sp.mkB (Sp.qi 1) (Sp.qi 2) * Sp.ivn (Sp.mkA (Sp.qi 1) (Sp.qi 1) (Sp.qi 2)) (Sp.mkB (Sp.qi 1) (Sp.qi 2)) (Sp.mkC (Sp.qi 1) (Sp.qi 2))) (Sp.mkC (Sp.qi 1) (Sp.qi 2)) = Sp.mkC (Sp.qf 1 (0 + 1)) (Sp.qf 2 (0 + 1))) -> (Sp.ok (Sp.fl (Sp.mkA (Sp.qi 1) (Sp.qi 1) (Sp.qi 2)) (Sp.mkB (Sp.qi 1) (Sp.qi 2)) (Sp.mkC (Sp.qi 1) (Sp.qi 2))) /\ Sp.inI 2)) /\
     (((Sp.mkA (Sp.qi 1) (Sp.qi 1) (Sp.qi 2) * Sp.ivn (Sp.mkA (Sp.qi 1) (Sp.qi 1) (Sp.qi 2)) (Sp.mkB (Sp.qi 1) (Sp.qi 2)) (Sp.mkC (Sp.qi 1) (Sp.qi 2)) = Sp.mkA (Sp.qf (-1) (0 + 1)) (Sp.qf 1 (0 + 1)) (Sp.qf 2 (0 + 1)) /\ -Sp.mkB (Sp.qi 1) (Sp.qi 2) * Sp.ivn (Sp.mkA (Sp.qi 1) (Sp.qi 1) (Sp.qi 2)) (Sp.mkB (Sp.qi 1) (Sp.qi 2)) (Sp.mkC (Sp.qi 1) (Sp.qi 2)) = Sp.mkB (Sp.qf 1 (0 + 1)) (Sp.qf 2 (0 + 1)) /\ Sp.rad (-Sp.mkB (Sp.qi 1) (Sp.qi 2) * Sp.ivn (Sp.mkA (Sp.qi 1) (Sp.qi 1) (Sp.qi 2)) (Sp.mkB (Sp.qi 1) (Sp.qi 2)) (Sp.mkC (Sp.qi 1) (Sp.qi 2))) (Sp.mkC (Sp.qi 1) (Sp.qi 2)) = Sp.mkC (Sp.qf 1 (0 + 1)) (Sp.qf 2 (0 + 1))) /\ (Sp.fl (Sp.mkA (Sp.qi 1) (Sp.qi 1) (Sp.qi 2)) (Sp.mkB (Sp.qi 1) (Sp.qi 2)) (Sp.mkC (Sp.qi 1) (Sp.qi 2)) = 2)) -> (Sp.okO (Sp.mkA (Sp.qi 1) (Sp.qi (-1)) (Sp.qi 2)) (Sp.mkB (Sp.qi (-1)) (Sp.qi 2)) (Sp.mkC (Sp.qi (-1)) (Sp.qi 2)))) /\
     (((Sp.mkA (Sp.qi 1) (Sp.qi 1) (Sp.qi 2) * Sp.ivn (Sp.mkA (Sp.qi 1) (Sp.qi 1) (Sp.qi 2)) (Sp.mkB (Sp.qi 1) (Sp.qi 2)) (Sp.mkC (Sp.qi 1) (Sp.qi 2)) = Sp.mkA (Sp.qf (-1) (0 + 1)) (Sp.qf 1 (0 + 1)) (Sp.qf 2 (0 + 1)) /\ -Sp.mkB (Sp.qi 1) (Sp.qi 2) * Sp.ivn (Sp.mkA (Sp.qi 1) (Sp.qi 1) (Sp.qi 2)) (Sp.mkB (Sp.qi 1) (Sp.qi 2)) (Sp.mkC (Sp.qi 1) (Sp.qi 2)) = Sp.mkB (Sp.qf 1 (0 + 1)) (Sp.qf 2 (0 + 1)) /\ Sp.rad (-Sp.mkB (Sp.qi 1) (Sp.qi 2) * Sp.ivn (Sp.mkA (Sp.qi 1) (Sp.qi 1) (Sp.qi 2)) (Sp.mkB (Sp.qi 1) (Sp.qi 2)) (Sp.mkC (Sp.qi 1) (Sp.qi 2))) (Sp.mkC (Sp.qi 1) (Sp.qi 2)) = Sp.mkC (Sp.qf 1 (0 + 1)) (Sp.qf 2 (0 + 1))) /\ (Sp.fl (Sp.mkA (Sp.qi 1) (Sp.qi 1) (Sp.qi 2)) (Sp.mkB (Sp.qi 1) (Sp.qi 2)) (Sp.mkC (Sp.qi 1) (Sp.qi 2)) = 2)) -> (Sp.ok (Sp.fl (Sp.mkA (Sp.qi 1) (Sp.qi (-1)) (Sp.qi 2)) (Sp.mkB (Sp.qi (-1)) (Sp.qi 2)) (Sp.mkC (Sp.qi (-1)) (Sp.qi 2))) /\ Sp.inI (-1))) /\
     ((((Sp.mkA (Sp.qi 1) (Sp.qi 1) (Sp.qi 2) * Sp.ivn (Sp.mkA (Sp.qi 1) (Sp.qi 1) (Sp.qi 2)) (Sp.mkB (Sp.qi 1) (Sp.qi 2)) (Sp.mkC (Sp.qi 1) (Sp.qi 2)) = Sp.mkA (Sp.qf (-1) (0 + 1)) (Sp.qf 1 (0 + 1)) (Sp.qf 2 (0 + 1)) /\ -Sp.mkB (Sp.qi 1) (Sp.qi 2) * Sp.ivn (Sp.mkA (Sp.qi 1) (Sp.qi 1) (Sp.qi 2)) (Sp.mkB (Sp.qi 1) (Sp.qi 2)) (Sp.mkC (Sp.qi 1) (Sp.qi 2)) = Sp.mkB (Sp.qf 1 (0 + 1)) (Sp.qf 2 (0 + 1)) /\ Sp.rad (-Sp.mkB (Sp.qi 1) (Sp.qi 2) * Sp.ivn (Sp.mkA (Sp.qi 1) (Sp.qi 1) (Sp.qi 2)) (Sp.mkB (Sp.qi 1) (Sp.qi 2)) (Sp.mkC (Sp.qi 1) (Sp.qi 2))) (Sp.mkC (Sp.qi 1) (Sp.qi 2)) = Sp.mkC (Sp.qf 1 (0 + 1)) (Sp.qf 2 (0 + 1))) /\ (Sp.fl (Sp.mkA (Sp.qi 1) (Sp.qi 1) (Sp.qi 2)) (Sp.mkB (Sp.qi 1) (Sp.qi 2)) (Sp.mkC (Sp.qi 1) (Sp.qi 2)) = 2)) /\ (Sp.fl (Sp.mkA (Sp.qi 1) (Sp.qi (-1)) (Sp.qi 2)) (Sp.mkB (Sp.qi (-1)) (Sp.qi 2)) (Sp.mkC (Sp.qi (-1)) (Sp.qi 2)) = -1)) -> (Sp.okO (Sp.mkA (Sp.qi 3) (Sp.qi (-2)) (Sp.qi 2)) (Sp.mkB (Sp.qi (-2)) (Sp.qi 2)) (Sp.mkC (Sp.qi (-2)) (Sp.qi 2)))) /\
     (((((Sp.mkA (Sp.qi 1) (Sp.qi 1) (Sp.qi 2) * Sp.ivn (Sp.mkA (Sp.qi 1) (Sp.qi 1) (Sp.qi 2)) (Sp.mkB (Sp.qi 1) (Sp.qi 2)) (Sp.mkC (Sp.qi 1) (Sp.qi 2)) = Sp.mkA (Sp.qf (-1) (0 + 1)) (Sp.qf 1 (0 + 1)) (Sp.qf 2 (0 + 1)) /\ -Sp.mkB (Sp.qi 1) (Sp.qi 2) * Sp.ivn (Sp.mkA (Sp.qi 1) (Sp.qi 1) (Sp.qi 2)) (Sp.mkB (Sp.qi 1) (Sp.qi 2)) (Sp.mkC (Sp.qi 1) (Sp.qi 2)) = Sp.mkB (Sp.qf 1 (0 + 1)) (Sp.qf 2 (0 + 1)) /\ Sp.rad (-Sp.mkB (Sp.qi 1) (Sp.qi 2) * Sp.ivn (Sp.mkA (Sp.qi 1) (Sp.qi 1) (Sp.qi 2)) (Sp.mkB (Sp.qi 1) (Sp.qi 2)) (Sp.mkC (Sp.qi 1) (Sp.qi 2))) (Sp.mkC (Sp.qi 1) (Sp.qi 2)) = Sp.mkC (Sp.qf 1 (0 + 1)) (Sp.qf 2 (0 + 1))) /\ (Sp.fl (Sp.mkA (Sp.qi 1) (Sp.qi 1) (Sp.qi 2)) (Sp.mkB (Sp.qi 1) (Sp.qi 2)) (Sp.mkC (Sp.qi 1) (Sp.qi 2)) = 2)) /\ (Sp.fl (Sp.mkA (Sp.qi 1) (Sp.qi (-1)) (Sp.qi 2)) (Sp.mkB (Sp.qi (-1)) (Sp.qi 2)) (Sp.mkC (Sp.qi (-1)) (Sp.qi 2)) = -1)) /\ (Sp.sgO (Sp.mkA (Sp.qi 3) (Sp.qi (-2)) (Sp.qi 2)) (Sp.mkB (Sp.qi (-2)) (Sp.qi 2)) (Sp.mkC (Sp.qi (-2)) (Sp.qi 2)) = 1)) -> (Sp.okO (Sp.mkA (Sp.qi 4) (Sp.qi (-3)) (Sp.qi 2)) (Sp.mkB (Sp.qi (-3)) (Sp.qi 2)) (Sp.mkC (Sp.qi (-3)) (Sp.qi 2)))) /\
     vb (bif bif bif bif decide (Sp.mkA (Sp.qi 1) (Sp.qi 1) (Sp.qi 2) * Sp.ivn (Sp.mkA (Sp.qi 1) (Sp.qi 1) (Sp.qi 2)) (Sp.mkB (Sp.qi 1) (Sp.qi 2)) (Sp.mkC (Sp.qi 1) (Sp.qi 2)) = Sp.mkA (Sp.qf (-1) (0 + 1)) (Sp.qf 1 (0 + 1)) (Sp.qf 2 (0 + 1)) /\ -Sp.mkB (Sp.qi 1) (Sp.qi 2) * Sp.ivn (Sp.mkA (Sp.qi 1) (Sp.qi 1) (Sp.qi 2)) (Sp.mkB (Sp.qi 1) (Sp.qi 2)) (Sp.mkC (Sp.qi 1) (Sp.qi 2)) = Sp.mkB (Sp.qf 1 (0 + 1)) (Sp.qf 2 (0 + 1)) /\ Sp.rad (-Sp.mkB (Sp.qi 1) (Sp.qi 2) * Sp.ivn (Sp.mkA (Sp.qi 1) (Sp.qi 1) (Sp.qi 2)) (Sp.mkB (Sp.qi 1) (Sp.qi 2)) (Sp.mkC (Sp.qi 1) (Sp.qi 2))) (Sp.mkC (Sp.qi 1) (Sp.qi 2)) = Sp.mkC (Sp.qf 1 (0 + 1)) (Sp.qf 2 (0 + 1))) then decide (Sp.fl (Sp.mkA (Sp.qi 1) (Sp.qi 1) (Sp.qi 2)) (Sp.mkB (Sp.qi 1) (Sp.qi 2)) (Sp.mkC (Sp.qi 1) (Sp.qi 2)) = 2) else false then decide (Sp.fl (Sp.mkA (Sp.qi 1) (Sp.qi (-1)) (Sp.qi 2)) (Sp.mkB (Sp.qi (-1)) (Sp.qi 2)) (Sp.mkC (Sp.qi (-1)) (Sp.qi 2)) = -1) else false then Sp.sgO (Sp.mkA (Sp.qi 3) (Sp.qi (-2)) (Sp.qi 2)) (Sp.mkB (Sp.qi (-2)) (Sp.qi 2)) (Sp.mkC (Sp.qi (-2)) (Sp.qi 2)) == 1 else false then Sp.sgO (Sp.mkA (Sp.qi 4) (Sp.qi (-3)) (Sp.qi 2)) (Sp.mkB (Sp.qi (-3)) (Sp.qi 2)) (Sp.mkC (Sp.qi (-3)) (Sp.qi 2)) == -1 else false) = dq))) /\
  (¬(Sp.isNN (Sp.qf 9 4)) -> (Sp.okO (Sp.qi 1) (Sp.qi 2) (Sp.qf 9 4)) /\
   (Sp.okM 0 1 8) /\
   (Sp.okM 1 1 2) /\
   (Sp.okM 1 (-1) 2) /\
   ((¬(true = true)) -> (Sp.inI 4)) /\
   ∃ (b2 : Bool),
   ((false = true) -> (Ev M1 (Conf.pure 22 [ag [vb false, vf [], vb false, vf [], vb false, vf [], vb false, vf [], vb false, vf [], vb false, vf []], rootF (Sp.qi 4) (Sp.qi 0) (Sp.qi 0)]) (vb b2) [])) /\
   ((false = true) -> (Sp.okSd 0 1 8 0 0 0)) /\
   ((false = true) -> (Sp.okO (Sp.mkA (Sp.qi 0) (Sp.qi 1) (Sp.qi 8)) (Sp.mkB (Sp.qi 1) (Sp.qi 8)) (Sp.mkC (Sp.qi 1) (Sp.qi 8)) /\ Sp.okO (Sp.mkA (Sp.qf 0 (0 + 1)) (Sp.qf 1 (0 + 1)) (Sp.qf 8 (0 + 1))) (Sp.mkB (Sp.qf 1 (0 + 1)) (Sp.qf 8 (0 + 1))) (Sp.mkC (Sp.qf 1 (0 + 1)) (Sp.qf 8 (0 + 1))))) /\
   vb false = dq)) :
 lAwake_at  (PureQ dq) := by
 unfold lAwake_at
 obtain ⟨k1, H⟩ := H
 obtain ⟨k2, H⟩ := H
 obtain ⟨k3, H⟩ := H
 rcases xm (Sp.isNN (Sp.qf 9 4)) with d4 | d4
 ·have H := H.1 d4
  obtain ⟨k5, H⟩ := H
  obtain ⟨k6, H⟩ := H
  obtain ⟨k7, H⟩ := H
  obtain ⟨k8, H⟩ := H
  obtain ⟨k10, H⟩ := H
  obtain ⟨k11, H⟩ := H
  obtain ⟨k13, H⟩ := H
  obtain ⟨k15, H⟩ := H
  refine path_wp (G := given kp9 [(1, 0, .call (ratA false false (Sp.qi 1)) none), (1, 1, .call (ratA false false (Sp.qi 2)) none), (1, 2, .call (ratA false false (Sp.qf 9 4)) none), (1, 3, .call (tu [rootF (Sp.mkA (Sp.qi 1) (Sp.qi 2) (Sp.qf 9 4)) (Sp.mkB (Sp.qi 2) (Sp.qf 9 4)) (Sp.mkC (Sp.qi 2) (Sp.qf 9 4)), vi 0]) none), (2, 0, .call (tu [rootF (Sp.mkA (Sp.qi 0) (Sp.qi 1) (Sp.qi 8)) (Sp.mkB (Sp.qi 1) (Sp.qi 8)) (Sp.mkC (Sp.qi 1) (Sp.qi 8)), vb true]) none), (3, 0, .call (tu [rootF (Sp.mkA (Sp.qi 1) (Sp.qi 1) (Sp.qi 2)) (Sp.mkB (Sp.qi 1) (Sp.qi 2)) (Sp.mkC (Sp.qi 1) (Sp.qi 2)), vb true]) none), (4, 0, .call (tu [rootF (Sp.mkA (Sp.qi 1) (Sp.qi (-1)) (Sp.qi 2)) (Sp.mkB (Sp.qi (-1)) (Sp.qi 2)) (Sp.mkC (Sp.qi (-1)) (Sp.qi 2)), vb true]) none), (5, 16, .call (rootF (Sp.qi 4) (Sp.qi 0) (Sp.qi 0)) none), (5, 17, .call (vb (decide zNxF8)) none), (5, 23, .call (rootF zNxF9 (Sp.mkB (Sp.qf 1 (0 + 1)) (Sp.qf 8 (0 + 1))) (Sp.mkC (Sp.qf 1 (0 + 1)) (Sp.qf 8 (0 + 1)))) none), (5, 24, .call (vb (decide zNxF2)) none)] []) 13 [] ⟨(atC (cd Tryz.f9) [1, 1, 1, 1, 1, 0, 1]), [(5, AV.ptr 2 0 0 0), (7, AV.ptr 3 0 0 0), (60, vb (bif !decide zNxF8 then true else !decide zNxF2))], [⟨[rootF (Sp.mkA (Sp.qi 1) (Sp.qi 2) (Sp.qf 9 4)) (Sp.mkB (Sp.qi 2) (Sp.qf 9 4)) (Sp.mkC (Sp.qi 2) (Sp.qf 9 4))], 12, 0, false, false⟩, ⟨[rootF (Sp.mkA (Sp.qi 0) (Sp.qi 1) (Sp.qi 8)) (Sp.mkB (Sp.qi 1) (Sp.qi 8)) (Sp.mkC (Sp.qi 1) (Sp.qi 8))], 12, 0, false, false⟩, ⟨[rootF (Sp.mkA (Sp.qi 1) (Sp.qi 1) (Sp.qi 2)) (Sp.mkB (Sp.qi 1) (Sp.qi 2)) (Sp.mkC (Sp.qi 1) (Sp.qi 2))], 12, 0, false, false⟩, ⟨[rootF (Sp.mkA (Sp.qi 1) (Sp.qi (-1)) (Sp.qi 2)) (Sp.mkB (Sp.qi (-1)) (Sp.qi 2)) (Sp.mkC (Sp.qi (-1)) (Sp.qi 2))], 12, 0, false, false⟩], [true, true, true, true, true, !((!decide zNxF8) == false && true) || true], [], [⟨true, false, 18, [vi 1], [], ratA false false (Sp.qi 1), []⟩, ⟨true, false, 18, [vi 2], [], ratA false false (Sp.qi 2), []⟩, ⟨true, false, 43, [vi 9, vi 4], [], ratA false false (Sp.qf 9 4), []⟩, ⟨true, false, 42, [ratA false false (Sp.qi 1), ratA false false (Sp.qi 2), ratA false false (Sp.qf 9 4)], [], tu [rootF (Sp.mkA (Sp.qi 1) (Sp.qi 2) (Sp.qf 9 4)) (Sp.mkB (Sp.qi 2) (Sp.qf 9 4)) (Sp.mkC (Sp.qi 2) (Sp.qf 9 4)), vi 0], []⟩, ⟨true, false, 44, [vi 0, vi 1, vi 8], [], tu [rootF (Sp.mkA (Sp.qi 0) (Sp.qi 1) (Sp.qi 8)) (Sp.mkB (Sp.qi 1) (Sp.qi 8)) (Sp.mkC (Sp.qi 1) (Sp.qi 8)), vb true], []⟩, ⟨true, false, 44, [vi 1, vi 1, vi 2], [], tu [rootF (Sp.mkA (Sp.qi 1) (Sp.qi 1) (Sp.qi 2)) (Sp.mkB (Sp.qi 1) (Sp.qi 2)) (Sp.mkC (Sp.qi 1) (Sp.qi 2)), vb true], []⟩, ⟨true, false, 44, [vi 1, vi (-1), vi 2], [], tu [rootF (Sp.mkA (Sp.qi 1) (Sp.qi (-1)) (Sp.qi 2)) (Sp.mkB (Sp.qi (-1)) (Sp.qi 2)) (Sp.mkC (Sp.qi (-1)) (Sp.qi 2)), vb true], []⟩, ⟨false == false && true && true, false, 41, [vi 4], [], rootF (Sp.qi 4) (Sp.qi 0) (Sp.qi 0), []⟩, ⟨true, false, 22, [rootF (Sp.mkA (Sp.qi 1) (Sp.qi 2) (Sp.qf 9 4)) (Sp.mkB (Sp.qi 2) (Sp.qf 9 4)) (Sp.mkC (Sp.qi 2) (Sp.qf 9 4)), rootF (Sp.qi 4) (Sp.qi 0) (Sp.qi 0)], [], vb (decide zNxF8), []⟩, ⟨(!decide zNxF8) == false && true && true, false, 45, [zNxF16], [], rootF zNxF9 (Sp.mkB (Sp.qf 1 (0 + 1)) (Sp.qf 8 (0 + 1))) (Sp.mkC (Sp.qf 1 (0 + 1)) (Sp.qf 8 (0 + 1))), []⟩, ⟨(!decide zNxF8) == false && true && true, false, 22, [rootF (Sp.mkA (Sp.qi 0) (Sp.qi 1) (Sp.qi 8)) (Sp.mkB (Sp.qi 1) (Sp.qi 8)) (Sp.mkC (Sp.qi 1) (Sp.qi 8)), rootF zNxF9 (Sp.mkB (Sp.qf 1 (0 + 1)) (Sp.qf 8 (0 + 1))) (Sp.mkC (Sp.qf 1 (0 + 1)) (Sp.qf 8 (0 + 1)))], [], vb (decide zNxF2), []⟩]⟩ (by kernel_rfl) (bc rfl (bc rfl (bc rfl (bc rfl (bc rfl (bc (Bool.or_true _) b0)))))) q0 (cc (fun _ => (@ev18 (1) k1)) (cc (fun _ => (@ev18 (2) k2)) (cc (fun _ => (@ev43 (9) (4) k3)) (cc (fun _ => (@ev42_y (false) (false) (false) (false) (false) (false) (Sp.qi 1) (Sp.qi 2) (Sp.qf 9 4) k5 d4)) (cc (fun _ => (@ev44 (0) (1) (8) k6)) (cc (fun _ => (@ev44 (1) (1) (2) k7)) (cc (fun _ => (@ev44 (1) (-1) (2) k8)) (cc (fun hc => ((@ev41 (4) (k10 ((i_at (i_at (i_bf (i_var _)))).1 hc))) : Ev M1 (Conf.pure 41 [vi 4]) (rootF (Sp.qi 4) (Sp.qi 0) (Sp.qi 0)) [])) (cc (fun _ => (@ev22 (false) (false) (false) (false) (false) (false) (false) (false) (false) (false) (false) (false) (Sp.mkA (Sp.qi 1) (Sp.qi 2) (Sp.qf 9 4)) (Sp.mkB (Sp.qi 2) (Sp.qf 9 4)) (Sp.mkC (Sp.qi 2) (Sp.qf 9 4)) (Sp.qi 4) (Sp.qi 0) (Sp.qi 0) k11)) (cc (fun hc => ((@ev45 (0) (1) (8) (0) (0) (0) (k13 ((i_at (i_at (i_bf (i_not i_dec)))).1 hc))) : Ev M1 (Conf.pure 45 [zNxF16]) (rootF zNxF9 (Sp.mkB (Sp.qf 1 (0 + 1)) (Sp.qf 8 (0 + 1))) (Sp.mkC (Sp.qf 1 (0 + 1)) (Sp.qf 8 (0 + 1)))) [])) (cc (fun hc => ((@ev22 (false) (false) (false) (false) (false) (false) (false) (false) (false) (false) (false) (false) (Sp.mkA (Sp.qi 0) (Sp.qi 1) (Sp.qi 8)) (Sp.mkB (Sp.qi 1) (Sp.qi 8)) (Sp.mkC (Sp.qi 1) (Sp.qi 8)) zNxF9 (Sp.mkB (Sp.qf 1 (0 + 1)) (Sp.qf 8 (0 + 1))) (Sp.mkC (Sp.qf 1 (0 + 1)) (Sp.qf 8 (0 + 1))) (k15 ((i_at (i_at (i_bf (i_not i_dec)))).1 hc))) : Ev M1 (Conf.pure 22 [rootF (Sp.mkA (Sp.qi 0) (Sp.qi 1) (Sp.qi 8)) (Sp.mkB (Sp.qi 1) (Sp.qi 8)) (Sp.mkC (Sp.qi 1) (Sp.qi 8)), rootF zNxF9 (Sp.mkB (Sp.qf 1 (0 + 1)) (Sp.qf 8 (0 + 1))) (Sp.mkC (Sp.qf 1 (0 + 1)) (Sp.qf 8 (0 + 1)))]) (vb (decide zNxF2)) [])) c0))))))))))) ?_
  rcases xm ((¬zNxF8) \/ (¬zNxF2)) with d17 | d17
  ·have H := H.1 d17
   exact path_re (G := given kp9 [] []) 1000 [true] (vb false) (by kernel_rfl) (bc (beq_t ((i_bor (i_not i_dec) (i_not i_dec)).2 d17)) b0) q0 c0 H
  ·have H := H.2 d17
   rcases xm (Sp.sgO (Sp.mkA (Sp.qi 1) (Sp.qi 1) (Sp.qi 2)) (Sp.mkB (Sp.qi 1) (Sp.qi 2)) (Sp.mkC (Sp.qi 1) (Sp.qi 2)) = 0) with d18 | d18
   ·have H := H.1 d18
    obtain ⟨k19, H⟩ := H
    obtain ⟨k20, H⟩ := H
    obtain ⟨k21, H⟩ := H
    obtain ⟨k23, H⟩ := H
    obtain ⟨b1, H⟩ := H
    obtain ⟨k25, H⟩ := H
    obtain ⟨k28, H⟩ := H
    obtain ⟨k30, H⟩ := H
    obtain ⟨k32, H⟩ := H
    obtain ⟨k34, H⟩ := H
    obtain ⟨k36, H⟩ := H
    exact path_re (G := given kp9 [(7, 1, .call (tu [zNxF3, vi 6]) none), (8, 0, .call (tu [rootF (Sp.mkA (Sp.qi 3) (Sp.qi (-2)) (Sp.qi 2)) (Sp.mkB (Sp.qi (-2)) (Sp.qi 2)) (Sp.mkC (Sp.qi (-2)) (Sp.qi 2)), vb true]) none), (9, 0, .call (tu [rootF (Sp.mkA (Sp.qi 4) (Sp.qi (-3)) (Sp.qi 2)) (Sp.mkB (Sp.qi (-3)) (Sp.qi 2)) (Sp.mkC (Sp.qi (-3)) (Sp.qi 2)), vb true]) none), (10, 5, .call (rootF zNxF12 (Sp.mkB (Sp.qf 1 (0 + 1)) (Sp.qf 2 (0 + 1))) (Sp.mkC (Sp.qf 1 (0 + 1)) (Sp.qf 2 (0 + 1)))) none), (10, 6, .call (vb b1) none), (10, 10, .call (bigA false zNxF7) none), (10, 11, .call (vb (decide zNxF4)) none), (10, 15, .call (bigA false zNxF5) none), (10, 16, .call (vb (decide zNxF6)) none), (10, 20, .call (vi zNxF10) none), (10, 25, .call (vi zNxF11) none)] []) 1000 [false] (calls := [⟨true, false, 39, [rootF (Sp.mkA (Sp.qi 1) (Sp.qi 1) (Sp.qi 2)) (Sp.mkB (Sp.qi 1) (Sp.qi 2)) (Sp.mkC (Sp.qi 1) (Sp.qi 2))], [], tu [zNxF3, vi 6], []⟩, ⟨true, false, 44, [vi 3, vi (-2), vi 2], [], tu [rootF (Sp.mkA (Sp.qi 3) (Sp.qi (-2)) (Sp.qi 2)) (Sp.mkB (Sp.qi (-2)) (Sp.qi 2)) (Sp.mkC (Sp.qi (-2)) (Sp.qi 2)), vb true], []⟩, ⟨true, false, 44, [vi 4, vi (-3), vi 2], [], tu [rootF (Sp.mkA (Sp.qi 4) (Sp.qi (-3)) (Sp.qi 2)) (Sp.mkB (Sp.qi (-3)) (Sp.qi 2)) (Sp.mkC (Sp.qi (-3)) (Sp.qi 2)), vb true], []⟩, ⟨false == true && true && true, false, 45, [zNxF15], [], rootF zNxF12 (Sp.mkB (Sp.qf 1 (0 + 1)) (Sp.qf 2 (0 + 1))) (Sp.mkC (Sp.qf 1 (0 + 1)) (Sp.qf 2 (0 + 1))), []⟩, ⟨false, false, 22, [zNxF3, rootF zNxF12 (Sp.mkB (Sp.qf 1 (0 + 1)) (Sp.qf 2 (0 + 1))) (Sp.mkC (Sp.qf 1 (0 + 1)) (Sp.qf 2 (0 + 1)))], [], vb b1, []⟩, ⟨false, false, 11, [rootF (Sp.mkA (Sp.qi 1) (Sp.qi 1) (Sp.qi 2)) (Sp.mkB (Sp.qi 1) (Sp.qi 2)) (Sp.mkC (Sp.qi 1) (Sp.qi 2))], [], bigA false zNxF7, []⟩, ⟨false, false, 46, [bigA false zNxF7, vi 2], [], vb (decide zNxF4), []⟩, ⟨false, false, 11, [rootF (Sp.mkA (Sp.qi 1) (Sp.qi (-1)) (Sp.qi 2)) (Sp.mkB (Sp.qi (-1)) (Sp.qi 2)) (Sp.mkC (Sp.qi (-1)) (Sp.qi 2))], [], bigA false zNxF5, []⟩, ⟨false, false, 46, [bigA false zNxF5, vi (-1)], [], vb (decide zNxF6), []⟩, ⟨false, false, 20, [rootF (Sp.mkA (Sp.qi 3) (Sp.qi (-2)) (Sp.qi 2)) (Sp.mkB (Sp.qi (-2)) (Sp.qi 2)) (Sp.mkC (Sp.qi (-2)) (Sp.qi 2))], [], vi zNxF10, []⟩, ⟨false, false, 20, [rootF (Sp.mkA (Sp.qi 4) (Sp.qi (-3)) (Sp.qi 2)) (Sp.mkB (Sp.qi (-3)) (Sp.qi 2)) (Sp.mkC (Sp.qi (-3)) (Sp.qi 2))], [], vi zNxF11, []⟩]) (vb false) (by kernel_rfl) (bc (beq_f (fun h => d17 ((i_bor (i_not i_dec) (i_not i_dec)).1 h))) (bc rfl (bc rfl (bc rfl (bc rfl (bc rfl (bc rfl (bc rfl (bc rfl (bc rfl b0)))))))))) q0 (cc (fun _ => (@ev39_y (false) (false) (false) (false) (false) (false) (Sp.mkA (Sp.qi 1) (Sp.qi 1) (Sp.qi 2)) (Sp.mkB (Sp.qi 1) (Sp.qi 2)) (Sp.mkC (Sp.qi 1) (Sp.qi 2)) k19 d18)) (cc (fun _ => (@ev44 (3) (-2) (2) k20)) (cc (fun _ => (@ev44 (4) (-3) (2) k21)) (cc (fun hc => ((@ev45 (-1) (1) (2) (0) (0) (0) (k23 ((i_at (i_at (i_bt (i_var _)))).1 hc))) : Ev M1 (Conf.pure 45 [zNxF15]) (rootF zNxF12 (Sp.mkB (Sp.qf 1 (0 + 1)) (Sp.qf 2 (0 + 1))) (Sp.mkC (Sp.qf 1 (0 + 1)) (Sp.qf 2 (0 + 1)))) [])) (cc (fun hc => ((k25 ((i_var _).1 hc)) : Ev M1 (Conf.pure 22 [zNxF3, rootF zNxF12 (Sp.mkB (Sp.qf 1 (0 + 1)) (Sp.qf 2 (0 + 1))) (Sp.mkC (Sp.qf 1 (0 + 1)) (Sp.qf 2 (0 + 1)))]) (vb b1) [])) (cc (fun hc => ((@ev11 (false) (false) (false) (false) (false) (false) (Sp.mkA (Sp.qi 1) (Sp.qi 1) (Sp.qi 2)) (Sp.mkB (Sp.qi 1) (Sp.qi 2)) (Sp.mkC (Sp.qi 1) (Sp.qi 2)) k19) : Ev M1 (Conf.pure 11 [rootF (Sp.mkA (Sp.qi 1) (Sp.qi 1) (Sp.qi 2)) (Sp.mkB (Sp.qi 1) (Sp.qi 2)) (Sp.mkC (Sp.qi 1) (Sp.qi 2))]) (bigA false zNxF7) [])) (cc (fun hc => ((@ev46 (false) zNxF7 (2) (k28 ((i_var _).1 hc))) : Ev M1 (Conf.pure 46 [bigA false zNxF7, vi 2]) (vb (decide zNxF4)) [])) (cc (fun hc => ((@ev11 (false) (false) (false) (false) (false) (false) (Sp.mkA (Sp.qi 1) (Sp.qi (-1)) (Sp.qi 2)) (Sp.mkB (Sp.qi (-1)) (Sp.qi 2)) (Sp.mkC (Sp.qi (-1)) (Sp.qi 2)) (k30 ((i_var _).1 hc))) : Ev M1 (Conf.pure 11 [rootF (Sp.mkA (Sp.qi 1) (Sp.qi (-1)) (Sp.qi 2)) (Sp.mkB (Sp.qi (-1)) (Sp.qi 2)) (Sp.mkC (Sp.qi (-1)) (Sp.qi 2))]) (bigA false zNxF5) [])) (cc (fun hc => ((@ev46 (false) zNxF5 (-1) (k32 ((i_var _).1 hc))) : Ev M1 (Conf.pure 46 [bigA false zNxF5, vi (-1)]) (vb (decide zNxF6)) [])) (cc (fun hc => ((@ev20 (false) (false) (false) (false) (false) (false) (Sp.mkA (Sp.qi 3) (Sp.qi (-2)) (Sp.qi 2)) (Sp.mkB (Sp.qi (-2)) (Sp.qi 2)) (Sp.mkC (Sp.qi (-2)) (Sp.qi 2)) (k34 ((i_var _).1 hc))) : Ev M1 (Conf.pure 20 [rootF (Sp.mkA (Sp.qi 3) (Sp.qi (-2)) (Sp.qi 2)) (Sp.mkB (Sp.qi (-2)) (Sp.qi 2)) (Sp.mkC (Sp.qi (-2)) (Sp.qi 2))]) (vi zNxF10) [])) (cc (fun hc => ((@ev20 (false) (false) (false) (false) (false) (false) (Sp.mkA (Sp.qi 4) (Sp.qi (-3)) (Sp.qi 2)) (Sp.mkB (Sp.qi (-3)) (Sp.qi 2)) (Sp.mkC (Sp.qi (-3)) (Sp.qi 2)) (k36 ((i_var _).1 hc))) : Ev M1 (Conf.pure 20 [rootF (Sp.mkA (Sp.qi 4) (Sp.qi (-3)) (Sp.qi 2)) (Sp.mkB (Sp.qi (-3)) (Sp.qi 2)) (Sp.mkC (Sp.qi (-3)) (Sp.qi 2))]) (vi zNxF11) [])) c0))))))))))) H
   ·have H := H.2 d18
    obtain ⟨k37, H⟩ := H
    obtain ⟨k38, H⟩ := H
    obtain ⟨k39, H⟩ := H
    obtain ⟨k41, H⟩ := H
    obtain ⟨k42, H⟩ := H
    obtain ⟨k44, H⟩ := H
    obtain ⟨k46, H⟩ := H
    obtain ⟨k48, H⟩ := H
    obtain ⟨k50, H⟩ := H
    obtain ⟨k52, H⟩ := H
    obtain ⟨k54, H⟩ := H
    exact path_re (G := given kp9 [(7, 1, .call (tu [rootF zNxF14 (-Sp.mkB (Sp.qi 1) (Sp.qi 2) * Sp.ivn (Sp.mkA (Sp.qi 1) (Sp.qi 1) (Sp.qi 2)) (Sp.mkB (Sp.qi 1) (Sp.qi 2)) (Sp.mkC (Sp.qi 1) (Sp.qi 2))) zNxF13, vi 0]) none), (8, 0, .call (tu [rootF (Sp.mkA (Sp.qi 3) (Sp.qi (-2)) (Sp.qi 2)) (Sp.mkB (Sp.qi (-2)) (Sp.qi 2)) (Sp.mkC (Sp.qi (-2)) (Sp.qi 2)), vb true]) none), (9, 0, .call (tu [rootF (Sp.mkA (Sp.qi 4) (Sp.qi (-3)) (Sp.qi 2)) (Sp.mkB (Sp.qi (-3)) (Sp.qi 2)) (Sp.mkC (Sp.qi (-3)) (Sp.qi 2)), vb true]) none), (10, 5, .call (rootF zNxF12 (Sp.mkB (Sp.qf 1 (0 + 1)) (Sp.qf 2 (0 + 1))) (Sp.mkC (Sp.qf 1 (0 + 1)) (Sp.qf 2 (0 + 1)))) none), (10, 6, .call (vb (decide zNxF1)) none), (10, 10, .call (bigA false zNxF7) none), (10, 11, .call (vb (decide zNxF4)) none), (10, 15, .call (bigA false zNxF5) none), (10, 16, .call (vb (decide zNxF6)) none), (10, 20, .call (vi zNxF10) none), (10, 25, .call (vi zNxF11) none)] []) 1000 [false] (asm := [(bif !decide zNxF8 then true else !decide zNxF2) == false, true, true, true, true, true, !(decide zNxF1 == true && true) || true, !((bif decide zNxF1 then decide zNxF4 else false) == true && true) || true, !((bif bif decide zNxF1 then decide zNxF4 else false then decide zNxF6 else false) == true && true) || true, !(zNxF17 == true && true) || true]) (calls := [⟨true, false, 39, [rootF (Sp.mkA (Sp.qi 1) (Sp.qi 1) (Sp.qi 2)) (Sp.mkB (Sp.qi 1) (Sp.qi 2)) (Sp.mkC (Sp.qi 1) (Sp.qi 2))], [], tu [rootF zNxF14 (-Sp.mkB (Sp.qi 1) (Sp.qi 2) * Sp.ivn (Sp.mkA (Sp.qi 1) (Sp.qi 1) (Sp.qi 2)) (Sp.mkB (Sp.qi 1) (Sp.qi 2)) (Sp.mkC (Sp.qi 1) (Sp.qi 2))) zNxF13, vi 0], []⟩, ⟨true, false, 44, [vi 3, vi (-2), vi 2], [], tu [rootF (Sp.mkA (Sp.qi 3) (Sp.qi (-2)) (Sp.qi 2)) (Sp.mkB (Sp.qi (-2)) (Sp.qi 2)) (Sp.mkC (Sp.qi (-2)) (Sp.qi 2)), vb true], []⟩, ⟨true, false, 44, [vi 4, vi (-3), vi 2], [], tu [rootF (Sp.mkA (Sp.qi 4) (Sp.qi (-3)) (Sp.qi 2)) (Sp.mkB (Sp.qi (-3)) (Sp.qi 2)) (Sp.mkC (Sp.qi (-3)) (Sp.qi 2)), vb true], []⟩, ⟨true == true && true && true, false, 45, [zNxF15], [], rootF zNxF12 (Sp.mkB (Sp.qf 1 (0 + 1)) (Sp.qf 2 (0 + 1))) (Sp.mkC (Sp.qf 1 (0 + 1)) (Sp.qf 2 (0 + 1))), []⟩, ⟨true, false, 22, [rootF zNxF14 (-Sp.mkB (Sp.qi 1) (Sp.qi 2) * Sp.ivn (Sp.mkA (Sp.qi 1) (Sp.qi 1) (Sp.qi 2)) (Sp.mkB (Sp.qi 1) (Sp.qi 2)) (Sp.mkC (Sp.qi 1) (Sp.qi 2))) zNxF13, rootF zNxF12 (Sp.mkB (Sp.qf 1 (0 + 1)) (Sp.qf 2 (0 + 1))) (Sp.mkC (Sp.qf 1 (0 + 1)) (Sp.qf 2 (0 + 1)))], [], vb (decide zNxF1), []⟩, ⟨decide zNxF1 == true && true && true, false, 11, [rootF (Sp.mkA (Sp.qi 1) (Sp.qi 1) (Sp.qi 2)) (Sp.mkB (Sp.qi 1) (Sp.qi 2)) (Sp.mkC (Sp.qi 1) (Sp.qi 2))], [], bigA false zNxF7, []⟩, ⟨decide zNxF1 == true && true && true, false, 46, [bigA false zNxF7, vi 2], [], vb (decide zNxF4), []⟩, ⟨(bif decide zNxF1 then decide zNxF4 else false) == true && true && true, false, 11, [rootF (Sp.mkA (Sp.qi 1) (Sp.qi (-1)) (Sp.qi 2)) (Sp.mkB (Sp.qi (-1)) (Sp.qi 2)) (Sp.mkC (Sp.qi (-1)) (Sp.qi 2))], [], bigA false zNxF5, []⟩, ⟨(bif decide zNxF1 then decide zNxF4 else false) == true && true && true, false, 46, [bigA false zNxF5, vi (-1)], [], vb (decide zNxF6), []⟩, ⟨(bif bif decide zNxF1 then decide zNxF4 else false then decide zNxF6 else false) == true && true && true, false, 20, [rootF (Sp.mkA (Sp.qi 3) (Sp.qi (-2)) (Sp.qi 2)) (Sp.mkB (Sp.qi (-2)) (Sp.qi 2)) (Sp.mkC (Sp.qi (-2)) (Sp.qi 2))], [], vi zNxF10, []⟩, ⟨zNxF17 == true && true && true, false, 20, [rootF (Sp.mkA (Sp.qi 4) (Sp.qi (-3)) (Sp.qi 2)) (Sp.mkB (Sp.qi (-3)) (Sp.qi 2)) (Sp.mkC (Sp.qi (-3)) (Sp.qi 2))], [], vi zNxF11, []⟩]) (vb (bif bif bif bif decide zNxF1 then decide zNxF4 else false then decide zNxF6 else false then Sp.sgO (Sp.mkA (Sp.qi 3) (Sp.qi (-2)) (Sp.qi 2)) (Sp.mkB (Sp.qi (-2)) (Sp.qi 2)) (Sp.mkC (Sp.qi (-2)) (Sp.qi 2)) == 1 else false then Sp.sgO (Sp.mkA (Sp.qi 4) (Sp.qi (-3)) (Sp.qi 2)) (Sp.mkB (Sp.qi (-3)) (Sp.qi 2)) (Sp.mkC (Sp.qi (-3)) (Sp.qi 2)) == -1 else false)) (by kernel_rfl) (bc (beq_f (fun h => d17 ((i_bor (i_not i_dec) (i_not i_dec)).1 h))) (bc rfl (bc rfl (bc rfl (bc rfl (bc rfl (bc (Bool.or_true _) (bc (Bool.or_true _) (bc (Bool.or_true _) (bc (Bool.or_true _) b0)))))))))) q0 (cc (fun _ => (@ev39_n (false) (false) (false) (false) (false) (false) (Sp.mkA (Sp.qi 1) (Sp.qi 1) (Sp.qi 2)) (Sp.mkB (Sp.qi 1) (Sp.qi 2)) (Sp.mkC (Sp.qi 1) (Sp.qi 2)) k37 d18)) (cc (fun _ => (@ev44 (3) (-2) (2) k38)) (cc (fun _ => (@ev44 (4) (-3) (2) k39)) (cc (fun hc => ((@ev45 (-1) (1) (2) (0) (0) (0) (k41 ((i_at (i_at (i_bt (i_var _)))).1 hc))) : Ev M1 (Conf.pure 45 [zNxF15]) (rootF zNxF12 (Sp.mkB (Sp.qf 1 (0 + 1)) (Sp.qf 2 (0 + 1))) (Sp.mkC (Sp.qf 1 (0 + 1)) (Sp.qf 2 (0 + 1)))) [])) (cc (fun _ => (@ev22 (false) (false) (false) (false) (false) (false) (false) (false) (false) (false) (false) (false) zNxF14 (-Sp.mkB (Sp.qi 1) (Sp.qi 2) * Sp.ivn (Sp.mkA (Sp.qi 1) (Sp.qi 1) (Sp.qi 2)) (Sp.mkB (Sp.qi 1) (Sp.qi 2)) (Sp.mkC (Sp.qi 1) (Sp.qi 2))) zNxF13 zNxF12 (Sp.mkB (Sp.qf 1 (0 + 1)) (Sp.qf 2 (0 + 1))) (Sp.mkC (Sp.qf 1 (0 + 1)) (Sp.qf 2 (0 + 1))) k42)) (cc (fun hc => ((@ev11 (false) (false) (false) (false) (false) (false) (Sp.mkA (Sp.qi 1) (Sp.qi 1) (Sp.qi 2)) (Sp.mkB (Sp.qi 1) (Sp.qi 2)) (Sp.mkC (Sp.qi 1) (Sp.qi 2)) (k44 ((i_at (i_at (i_bt i_dec))).1 hc))) : Ev M1 (Conf.pure 11 [rootF (Sp.mkA (Sp.qi 1) (Sp.qi 1) (Sp.qi 2)) (Sp.mkB (Sp.qi 1) (Sp.qi 2)) (Sp.mkC (Sp.qi 1) (Sp.qi 2))]) (bigA false zNxF7) [])) (cc (fun hc => ((@ev46 (false) zNxF7 (2) (k46 ((i_at (i_at (i_bt i_dec))).1 hc))) : Ev M1 (Conf.pure 46 [bigA false zNxF7, vi 2]) (vb (decide zNxF4)) [])) (cc (fun hc => ((@ev11 (false) (false) (false) (false) (false) (false) (Sp.mkA (Sp.qi 1) (Sp.qi (-1)) (Sp.qi 2)) (Sp.mkB (Sp.qi (-1)) (Sp.qi 2)) (Sp.mkC (Sp.qi (-1)) (Sp.qi 2)) (k48 ((i_at (i_at (i_bt (i_band i_dec i_dec)))).1 hc))) : Ev M1 (Conf.pure 11 [rootF (Sp.mkA (Sp.qi 1) (Sp.qi (-1)) (Sp.qi 2)) (Sp.mkB (Sp.qi (-1)) (Sp.qi 2)) (Sp.mkC (Sp.qi (-1)) (Sp.qi 2))]) (bigA false zNxF5) [])) (cc (fun hc => ((@ev46 (false) zNxF5 (-1) (k50 ((i_at (i_at (i_bt (i_band i_dec i_dec)))).1 hc))) : Ev M1 (Conf.pure 46 [bigA false zNxF5, vi (-1)]) (vb (decide zNxF6)) [])) (cc (fun hc => ((@ev20 (false) (false) (false) (false) (false) (false) (Sp.mkA (Sp.qi 3) (Sp.qi (-2)) (Sp.qi 2)) (Sp.mkB (Sp.qi (-2)) (Sp.qi 2)) (Sp.mkC (Sp.qi (-2)) (Sp.qi 2)) (k52 ((i_at (i_at (i_bt (i_band (i_band i_dec i_dec) i_dec)))).1 hc))) : Ev M1 (Conf.pure 20 [rootF (Sp.mkA (Sp.qi 3) (Sp.qi (-2)) (Sp.qi 2)) (Sp.mkB (Sp.qi (-2)) (Sp.qi 2)) (Sp.mkC (Sp.qi (-2)) (Sp.qi 2))]) (vi zNxF10) [])) (cc (fun hc => ((@ev20 (false) (false) (false) (false) (false) (false) (Sp.mkA (Sp.qi 4) (Sp.qi (-3)) (Sp.qi 2)) (Sp.mkB (Sp.qi (-3)) (Sp.qi 2)) (Sp.mkC (Sp.qi (-3)) (Sp.qi 2)) (k54 ((i_at (i_at (i_bt (i_band (i_band (i_band i_dec i_dec) i_dec) i_eq)))).1 hc))) : Ev M1 (Conf.pure 20 [rootF (Sp.mkA (Sp.qi 4) (Sp.qi (-3)) (Sp.qi 2)) (Sp.mkB (Sp.qi (-3)) (Sp.qi 2)) (Sp.mkC (Sp.qi (-3)) (Sp.qi 2))]) (vi zNxF11) [])) c0))))))))))) H
 ·have H := H.2 d4
  obtain ⟨k55, H⟩ := H
  obtain ⟨k56, H⟩ := H
  obtain ⟨k57, H⟩ := H
  obtain ⟨k58, H⟩ := H
  obtain ⟨k60, H⟩ := H
  obtain ⟨b2, H⟩ := H
  obtain ⟨k62, H⟩ := H
  obtain ⟨k64, H⟩ := H
  obtain ⟨k66, H⟩ := H
  exact path_re (G := given kp9 [(1, 0, .call (ratA false false (Sp.qi 1)) none), (1, 1, .call (ratA false false (Sp.qi 2)) none), (1, 2, .call (ratA false false (Sp.qf 9 4)) none), (1, 3, .call (tu [zNxF3, vi 7]) none), (2, 0, .call (tu [rootF (Sp.mkA (Sp.qi 0) (Sp.qi 1) (Sp.qi 8)) (Sp.mkB (Sp.qi 1) (Sp.qi 8)) (Sp.mkC (Sp.qi 1) (Sp.qi 8)), vb true]) none), (3, 0, .call (tu [rootF (Sp.mkA (Sp.qi 1) (Sp.qi 1) (Sp.qi 2)) (Sp.mkB (Sp.qi 1) (Sp.qi 2)) (Sp.mkC (Sp.qi 1) (Sp.qi 2)), vb true]) none), (4, 0, .call (tu [rootF (Sp.mkA (Sp.qi 1) (Sp.qi (-1)) (Sp.qi 2)) (Sp.mkB (Sp.qi (-1)) (Sp.qi 2)) (Sp.mkC (Sp.qi (-1)) (Sp.qi 2)), vb true]) none), (5, 16, .call (rootF (Sp.qi 4) (Sp.qi 0) (Sp.qi 0)) none), (5, 17, .call (vb b2) none), (5, 23, .call (rootF zNxF9 (Sp.mkB (Sp.qf 1 (0 + 1)) (Sp.qf 8 (0 + 1))) (Sp.mkC (Sp.qf 1 (0 + 1)) (Sp.qf 8 (0 + 1)))) none), (5, 24, .call (vb (decide zNxF2)) none)] []) 1000 [true] (calls := [⟨true, false, 18, [vi 1], [], ratA false false (Sp.qi 1), []⟩, ⟨true, false, 18, [vi 2], [], ratA false false (Sp.qi 2), []⟩, ⟨true, false, 43, [vi 9, vi 4], [], ratA false false (Sp.qf 9 4), []⟩, ⟨true, false, 42, [ratA false false (Sp.qi 1), ratA false false (Sp.qi 2), ratA false false (Sp.qf 9 4)], [], tu [zNxF3, vi 7], []⟩, ⟨true, false, 44, [vi 0, vi 1, vi 8], [], tu [rootF (Sp.mkA (Sp.qi 0) (Sp.qi 1) (Sp.qi 8)) (Sp.mkB (Sp.qi 1) (Sp.qi 8)) (Sp.mkC (Sp.qi 1) (Sp.qi 8)), vb true], []⟩, ⟨true, false, 44, [vi 1, vi 1, vi 2], [], tu [rootF (Sp.mkA (Sp.qi 1) (Sp.qi 1) (Sp.qi 2)) (Sp.mkB (Sp.qi 1) (Sp.qi 2)) (Sp.mkC (Sp.qi 1) (Sp.qi 2)), vb true], []⟩, ⟨true, false, 44, [vi 1, vi (-1), vi 2], [], tu [rootF (Sp.mkA (Sp.qi 1) (Sp.qi (-1)) (Sp.qi 2)) (Sp.mkB (Sp.qi (-1)) (Sp.qi 2)) (Sp.mkC (Sp.qi (-1)) (Sp.qi 2)), vb true], []⟩, ⟨true == false && true && true, false, 41, [vi 4], [], rootF (Sp.qi 4) (Sp.qi 0) (Sp.qi 0), []⟩, ⟨false, false, 22, [zNxF3, rootF (Sp.qi 4) (Sp.qi 0) (Sp.qi 0)], [], vb b2, []⟩, ⟨false, false, 45, [zNxF16], [], rootF zNxF9 (Sp.mkB (Sp.qf 1 (0 + 1)) (Sp.qf 8 (0 + 1))) (Sp.mkC (Sp.qf 1 (0 + 1)) (Sp.qf 8 (0 + 1))), []⟩, ⟨false, false, 22, [rootF (Sp.mkA (Sp.qi 0) (Sp.qi 1) (Sp.qi 8)) (Sp.mkB (Sp.qi 1) (Sp.qi 8)) (Sp.mkC (Sp.qi 1) (Sp.qi 8)), rootF zNxF9 (Sp.mkB (Sp.qf 1 (0 + 1)) (Sp.qf 8 (0 + 1))) (Sp.mkC (Sp.qf 1 (0 + 1)) (Sp.qf 8 (0 + 1)))], [], vb (decide zNxF2), []⟩]) (vb false) (by kernel_rfl) (bc rfl (bc rfl (bc rfl (bc rfl (bc rfl (bc rfl (bc rfl b0))))))) q0 (cc (fun _ => (@ev18 (1) k1)) (cc (fun _ => (@ev18 (2) k2)) (cc (fun _ => (@ev43 (9) (4) k3)) (cc (fun _ => (@ev42_n (false) (false) (false) (false) (false) (false) (Sp.qi 1) (Sp.qi 2) (Sp.qf 9 4) k55 d4)) (cc (fun _ => (@ev44 (0) (1) (8) k56)) (cc (fun _ => (@ev44 (1) (1) (2) k57)) (cc (fun _ => (@ev44 (1) (-1) (2) k58)) (cc (fun hc => ((@ev41 (4) (k60 ((i_at (i_at (i_bf (i_var _)))).1 hc))) : Ev M1 (Conf.pure 41 [vi 4]) (rootF (Sp.qi 4) (Sp.qi 0) (Sp.qi 0)) [])) (cc (fun hc => ((k62 ((i_var _).1 hc)) : Ev M1 (Conf.pure 22 [zNxF3, rootF (Sp.qi 4) (Sp.qi 0) (Sp.qi 0)]) (vb b2) [])) (cc (fun hc => ((@ev45 (0) (1) (8) (0) (0) (0) (k64 ((i_var _).1 hc))) : Ev M1 (Conf.pure 45 [zNxF16]) (rootF zNxF9 (Sp.mkB (Sp.qf 1 (0 + 1)) (Sp.qf 8 (0 + 1))) (Sp.mkC (Sp.qf 1 (0 + 1)) (Sp.qf 8 (0 + 1)))) [])) (cc (fun hc => ((@ev22 (false) (false) (false) (false) (false) (false) (false) (false) (false) (false) (false) (false) (Sp.mkA (Sp.qi 0) (Sp.qi 1) (Sp.qi 8)) (Sp.mkB (Sp.qi 1) (Sp.qi 8)) (Sp.mkC (Sp.qi 1) (Sp.qi 8)) zNxF9 (Sp.mkB (Sp.qf 1 (0 + 1)) (Sp.qf 8 (0 + 1))) (Sp.mkC (Sp.qf 1 (0 + 1)) (Sp.qf 8 (0 + 1))) (k66 ((i_var _).1 hc))) : Ev M1 (Conf.pure 22 [rootF (Sp.mkA (Sp.qi 0) (Sp.qi 1) (Sp.qi 8)) (Sp.mkB (Sp.qi 1) (Sp.qi 8)) (Sp.mkC (Sp.qi 1) (Sp.qi 8)), rootF zNxF9 (Sp.mkB (Sp.qf 1 (0 + 1)) (Sp.qf 8 (0 + 1))) (Sp.mkC (Sp.qf 1 (0 + 1)) (Sp.qf 8 (0 + 1)))]) (vb (decide zNxF2)) [])) c0))))))))))) H
end Go.Av

namespace Go.Av
open Go.Proofs
theorem sq_of {a r : Nat} (h1 : r * r <= a) (h2 : a < (r + 1) * (r + 1)) : Sp.sq (a : Int) = r := by
 unfold Sp.sq
 rw [if_neg (by omega), Int.natAbs_natCast, isqrt_eq ⟨h1, h2⟩]
theorem nsq_int {n r : Nat} (h1 : r * r < n) (h2 : n < (r + 1) * (r + 1)) : ¬Sp.rsq (Sp.qi (n : Int)) := by
 intro h
 have := ((isSq_iff _).1 h.1).2
 rw [qi_eq, Rat.num_intCast, sq_of (Nat.le_of_lt h1) h2] at this
 have e : ((r * r : Nat) : Int) = (n : Int) := by rw [Int.natCast_mul]; exact this
 omega
theorem mk_ns {c : Rat} (h : ¬Sp.rsq c) (a b : Rat) : Sp.mkA a b c = a /\ Sp.mkB b c = b /\ Sp.mkC b c = Sp.rad b c := ⟨if_neg h, if_neg h, if_neg h⟩
theorem qf_one (n : Int) : Sp.qf n (0 + 1) = Sp.qi n := by
 rw [qf_eq, qi_eq]
 have e : ((0 : Int) + 1) = 1 := rfl
 rw [e]
 obtain ⟨e1, e2⟩ := rat_pos (a := n) (b := 1) (by omega)
 apply Rat.ext
 ·rw [e1, Int.gcd_one]; simp
 ·rw [Int.gcd_one] at e2
  have : ((n : Rat).den : Int) = 1 := by rw [Rat.den_intCast]; rfl
  simp at e2
  omega
theorem qi_mul (a b : Int) : Sp.qi a * Sp.qi b = Sp.qi (a * b) := by rw [qi_eq, qi_eq, qi_eq, Rat.intCast_mul]
theorem qi_sub (a b : Int) : Sp.qi a - Sp.qi b = Sp.qi (a - b) := by rw [qi_eq, qi_eq, qi_eq, Rat.intCast_sub]
theorem qi_neg (a : Int) : -Sp.qi a = Sp.qi (-a) := by rw [qi_eq, qi_eq, Rat.intCast_neg]
theorem qi_num (a : Int) : (Sp.qi a).num = a /\ ((Sp.qi a).den : Int) = 1 := by rw [qi_eq, Rat.num_intCast, Rat.den_intCast]; exact ⟨rfl, rfl⟩
theorem qi_ne {a : Int} (h : a ≠ 0) : Sp.qi a ≠ 0 := fun e => h (by have := (qi_num a).1; rw [e] at this; exact this.symm)
theorem rad_ne {b : Int} (h : b ≠ 0) (c : Rat) : Sp.rad (Sp.qi b) c = c := if_neg (qi_ne h)
theorem sgR_int (a : Int) : Sp.sgR (Sp.qi a) = Sp.sgnI a := by unfold Sp.sgR; rw [(qi_num a).1]
theorem sgO_int (a b c : Int) : Sp.sgO (Sp.qi a) (Sp.qi b) (Sp.qi c) = if Sp.sgnI b = 0 \/ Sp.sgnI a = Sp.sgnI b then Sp.sgnI a else if Sp.sgnI a = 0 then Sp.sgnI b else Sp.sgnI a * Sp.sgnI (a * a - b * b * c) := by
 unfold Sp.sgO
 rw [qi_mul, qi_mul, qi_mul, qi_sub, sgR_int, sgR_int, sgR_int]
theorem fl_int {a b c : Int} (hb : b ≠ 0) : Sp.fl (Sp.qi a) (Sp.qi b) (Sp.qi c) = Sp.flo (a * 1 + (if b < 0 then -(Sp.sq (1 * 1 * (b * b * c * 1)) + 1) else Sp.sq (1 * 1 * (b * b * c * 1)))) (1 * 1) := by
 unfold Sp.fl Sp.flW
 rw [if_neg (qi_ne hb), qi_mul, qi_mul]
 simp only [qi_num]
theorem nn94 : Sp.isNN (Sp.qf 9 4) := nn_qf (by omega) (by omega)
theorem rsq94 : Sp.rsq (Sp.qf 9 4) := rsq_of (s := Rat.divInt 3 2) (by rw [qf_eq, Rat.divInt_mul_divInt]; rfl)
theorem rt94 : Sp.rt (Sp.qf 9 4) = Rat.divInt 3 2 := by
 have e : (Sp.qf 9 4).num = 9 /\ ((Sp.qf 9 4).den : Int) = 4 := by rw [qf_eq]; decide
 unfold Sp.rt
 rw [e.1, e.2]
 have h9 : Sp.sq 9 = 3 := sq_of (a := 9) (r := 3) (by decide) (by decide)
 have h4 : Sp.sq 4 = 2 := sq_of (a := 4) (r := 2) (by decide) (by decide)
 rw [h9, h4]
theorem mk94 : Sp.mkA (Sp.qi 1) (Sp.qi 2) (Sp.qf 9 4) = Sp.qi 4 /\ Sp.mkB (Sp.qi 2) (Sp.qf 9 4) = Sp.qi 0 /\ Sp.mkC (Sp.qi 2) (Sp.qf 9 4) = Sp.qi 0 := by
 refine ⟨?_, if_pos rsq94, if_pos rsq94⟩
 unfold Sp.mkA
 have d : (Rat.divInt 3 2).num = 3 /\ ((Rat.divInt 3 2).den : Int) = 2 := by decide
 have d2 : (Rat.divInt (2 * 3) (1 * 2)).num = 3 /\ ((Rat.divInt (2 * 3) (1 * 2)).den : Int) = 1 := by decide
 rw [if_pos rsq94, rt94, <- rat_mul, d.1, d.2, (qi_num 2).1, (qi_num 2).2, <- rat_add, d2.1, d2.2, (qi_num 1).1, (qi_num 1).2, qi_eq]
 decide
theorem okO_int {a b c : Int} (ha : Sp.inI a) (hb : Sp.inI b) (hc : Sp.inI c) : Sp.okO (Sp.qi a) (Sp.qi b) (Sp.qi c) := okT_O (okT_int ha) (okT_int hb) (okT_int hc) (by omega)
theorem ivn_int : Sp.ivn (Sp.qi 1) (Sp.qi 1) (Sp.qi 2) = Sp.qi (-1) := by
 unfold Sp.ivn
 rw [qi_mul, qi_mul, qi_sub, <- rat_div, (qi_num 1).1, (qi_num 1).2, (qi_num _).1, (qi_num _).2, qi_eq]
 decide
theorem okO_of94 : Sp.okO (Sp.qi 1) (Sp.qi 2) (Sp.qf 9 4) := okT_O (okT_int (by unfold Sp.inI; omega)) (okT_int (by unfold Sp.inI; omega)) (okT_qf (by unfold Sp.okF Sp.inI; omega)) (by omega)
end Go.Av

namespace Go.Av
open Go.Proofs
theorem inI_small {n : Int} (h : -100 <= n /\ n <= 100) : Sp.inI n := by unfold Sp.inI; omega
theorem ev9 : Ev M1 (.pure 9 []) (.bool true) [] := by
 have n2 : ¬Sp.rsq (Sp.qi 2) := nsq_int (n := 2) (r := 1) (by decide) (by decide)
 have n8 : ¬Sp.rsq (Sp.qi 8) := nsq_int (n := 8) (r := 2) (by decide) (by decide)
 have s2 : Sp.sq 2 = 1 := sq_of (a := 2) (r := 1) (by decide) (by decide)
 have a2 : ∀ a b, Sp.mkA a b (Sp.qi 2) = a := fun a b => (mk_ns n2 a b).1
 have b2 : ∀ b, Sp.mkB b (Sp.qi 2) = b := fun b => (mk_ns n2 b b).2.1
 have c2 : ∀ b, Sp.mkC b (Sp.qi 2) = Sp.rad b (Sp.qi 2) := fun b => (mk_ns n2 b b).2.2
 have a8 : ∀ a b, Sp.mkA a b (Sp.qi 8) = a := fun a b => (mk_ns n8 a b).1
 have b8 : ∀ b, Sp.mkB b (Sp.qi 8) = b := fun b => (mk_ns n8 b b).2.1
 have c8 : ∀ b, Sp.mkC b (Sp.qi 8) = Sp.rad b (Sp.qi 8) := fun b => (mk_ns n8 b b).2.2
 have r1 : ∀ c, Sp.rad (Sp.qi 1) c = c := rad_ne (by decide)
 have r2 : ∀ c, Sp.rad (Sp.qi (-1)) c = c := rad_ne (by decide)
 have r3 : ∀ c, Sp.rad (Sp.qi (-2)) c = c := rad_ne (by decide)
 have r4 : ∀ c, Sp.rad (Sp.qi (-3)) c = c := rad_ne (by decide)
 have m1 : Sp.qi 1 * Sp.qi (-1) = Sp.qi (-1) := qi_mul 1 (-1)
 have m2 : -Sp.qi 1 * Sp.qi (-1) = Sp.qi 1 := by rw [qi_neg, qi_mul]; rfl
 have g1 : Sp.sgO (Sp.qi 1) (Sp.qi 1) (Sp.qi 2) = 1 := by rw [sgO_int]; decide
 have g2 : Sp.sgO (Sp.qi 3) (Sp.qi (-2)) (Sp.qi 2) = 1 := by rw [sgO_int]; decide
 have g3 : Sp.sgO (Sp.qi 4) (Sp.qi (-3)) (Sp.qi 2) = -1 := by rw [sgO_int]; decide
 have f1 : Sp.fl (Sp.qi 1) (Sp.qi 1) (Sp.qi 2) = 2 := by
  rw [fl_int (by decide), show (1 : Int) * 1 * (1 * 1 * 2 * 1) = 2 from rfl, s2]; decide
 have f2 : Sp.fl (Sp.qi 1) (Sp.qi (-1)) (Sp.qi 2) = -1 := by
  rw [fl_int (by decide), show (1 : Int) * 1 * (-1 * -1 * 2 * 1) = 2 from rfl, s2]; decide
 have nm : Sp.nrm (Sp.qi 1) (Sp.qi 1) (Sp.qi 2) := by
  unfold Sp.nrm
  rw [qi_mul, qi_mul, qi_sub]
  exact qi_ne (by decide)
 refine call9 (lAwake _ ?_)
 simp only [mk94.1, mk94.2.1, mk94.2.2, qf_one, a2, b2, c2, a8, b8, c8, r1, r2, r3, r4, ivn_int, m1, m2, g1, g2, g3, f1, f2]
 have i (n : Int) (h : -100 <= n /\ n <= 100 := by decide) : Sp.inI n := inI_small h
 have o (a b c : Int) (h : (-100 <= a /\ a <= 100) /\ (-100 <= b /\ b <= 100) /\ (-100 <= c /\ c <= 100) := by decide) : Sp.okO (Sp.qi a) (Sp.qi b) (Sp.qi c) := okO_int (inI_small h.1) (inI_small h.2.1) (inI_small h.2.2)
 have m (a b c : Int) (h : (-100 <= a /\ a <= 100) /\ (-100 <= b /\ b <= 100) /\ (0 <= c /\ c <= 100) := by decide) : Sp.okM a b c := ⟨inI_small h.1, inI_small h.2.1, inI_small (by omega), h.2.2.1⟩
 have ok (a : Int) (h : -100 <= a /\ a <= 100 := by decide) : Sp.ok a := ok_inI (inI_small h)
 have d (a b c : Int) (h : (-100 <= a /\ a <= 100) /\ (-100 <= b /\ b <= 100) /\ (0 <= c /\ c <= 100) := by decide) : Sp.okSd a b c 0 0 0 := by unfold Sp.okSd; omega
 have okf : Sp.okF 9 4 := ⟨inI_small (by decide), inI_small (by decide), by decide⟩
 refine ⟨i 1, i 2, okf, fun _ => ⟨okO_of94, m 0 1 8, m 1 1 2, m 1 (-1) 2, fun _ => i 4, ⟨o 4 0 0, o 4 0 0⟩, fun _ => d 0 1 8, fun _ => ⟨o 0 1 8, o 0 1 8⟩, fun k => ?_, fun _ => ⟨fun k => ?_, fun _ => ⟨⟨o 1 1 2, nm⟩, m 3 (-2) 2, m 4 (-3) 2, fun _ => d (-1) 1 2, ⟨o (-1) 1 2, o (-1) 1 2⟩, fun _ => o 1 1 2, fun _ => ⟨ok 2, i 2⟩, fun _ => o 1 (-1) 2, fun _ => ⟨ok (-1), i (-1)⟩, fun _ => o 3 (-2) 2, fun _ => o 4 (-3) 2, ?_⟩⟩⟩, fun k => absurd nn94 k⟩
 ·exfalso
  rcases k with k | k
  ·exact k (by simp)
  ·exact k (by simp)
 ·exact absurd k (by decide)
 ·simp
end Go.Av

namespace Go.Av
open Go.Proofs
set_option maxRecDepth 100000
def fi21 : Fi := ⟨28, [.tmp 2]⟩
def kp21 : List (Nat × List Nat) := [(0, [1]), (1, [1, 3, 4]), (2, [1, 3, 4, 17]), (3, [2]), (4, [1, 3, 4, 20]), (5, [2]), (6, [3, 4, 25]), (7, [2]), (8, [2])]
def fi47 : Fi := ⟨25, [.tmp 4]⟩
def kp47 : List (Nat × List Nat) := [(0, [1, 2]), (1, [4])]
def pSign_at (f1 f2 f3 f4 f5 f6 : Bool) (a b c : Rat) (Q : AV -> Heap -> Prop) : Prop := Wp M1 (.run fi21 (atC (cd Tryz.f21) []) [(0, .agg [.bool (Sp.isNeg a.num), .vec f1 1 ((Sp.limI a.num).map (.int .u32)), .bool (Sp.isNeg (a.den : Int)), .vec f2 1 ((Sp.limI (a.den : Int)).map (.int .u32)), .bool (Sp.isNeg b.num), .vec f3 1 ((Sp.limI b.num).map (.int .u32)), .bool (Sp.isNeg (b.den : Int)), .vec f4 1 ((Sp.limI (b.den : Int)).map (.int .u32)), .bool (Sp.isNeg c.num), .vec f5 1 ((Sp.limI c.num).map (.int .u32)), .bool (Sp.isNeg (c.den : Int)), .vec f6 1 ((Sp.limI (c.den : Int)).map (.int .u32))])] []) Q
def pSmall_at (f1 f2 f3 f4 f5 f6 : Bool) (a b c : Rat) (n : Int) (Q : AV -> Heap -> Prop) : Prop := Wp M1 (.run fi47 (atC (cd Tryz.f47) []) [(0, .agg [.bool (Sp.isNeg a.num), .vec f1 1 ((Sp.limI a.num).map (.int .u32)), .bool (Sp.isNeg (a.den : Int)), .vec f2 1 ((Sp.limI (a.den : Int)).map (.int .u32)), .bool (Sp.isNeg b.num), .vec f3 1 ((Sp.limI b.num).map (.int .u32)), .bool (Sp.isNeg (b.den : Int)), .vec f4 1 ((Sp.limI (b.den : Int)).map (.int .u32)), .bool (Sp.isNeg c.num), .vec f5 1 ((Sp.limI c.num).map (.int .u32)), .bool (Sp.isNeg (c.den : Int)), .vec f6 1 ((Sp.limI (c.den : Int)).map (.int .u32))]), (1, .int .i64 n)] []) Q
def pSmallR_at (s1 s2 s3 t1 t2 t3 f1 f2 f3 g1 g2 g3 : Bool) (x1 x2 x3 y1 y2 y3 : List Int) (n : Int) (Q : AV -> Heap -> Prop) : Prop := Wp M1 (.run fi47 (atC (cd Tryz.f47) []) [(0, .agg [.bool s1, .vec f1 1 (x1.map (.int .u32)), .bool t1, .vec g1 1 (y1.map (.int .u32)), .bool s2, .vec f2 1 (x2.map (.int .u32)), .bool t2, .vec g2 1 (y2.map (.int .u32)), .bool s3, .vec f3 1 (x3.map (.int .u32)), .bool t3, .vec g3 1 (y3.map (.int .u32))]), (1, .int .i64 n)] []) Q
theorem call21 {args : List AV} {d : AV} (h : wc M1 fi21 Tryz.f21 args d) : Ev M1 (.pure 21 args) d [] := pcl _ _ (by kernel_rfl) h
theorem call47 {args : List AV} {d : AV} (h : wc M1 fi47 Tryz.f47 args d) : Ev M1 (.pure 47 args) d [] := pcl _ _ (by kernel_rfl) h
theorem pSign (f1 f2 f3 f4 f5 f6 : Bool) (a b c : Rat)  (dq : AV) (H :
  (((Sp.sgnI a.num = Sp.sgnI b.num) \/ (Sp.sgnI b.num = 0)) -> vi (Sp.sgnI a.num) = dq) /\
  (¬((Sp.sgnI a.num = Sp.sgnI b.num) \/ (Sp.sgnI b.num = 0)) -> ((Sp.sgnI a.num = 0) -> vi (Sp.sgnI b.num) = dq) /\
   (¬(Sp.sgnI a.num = 0) -> (Sp.okO a b c) /\
    ((Sp.sgnI (a * a - b * b * c).num > 0) -> vi (Sp.sgnI a.num) = dq) /\
    (¬(Sp.sgnI (a * a - b * b * c).num > 0) -> vi (Sp.sgnI b.num) = dq)))) :
 pSign_at f1 f2 f3 f4 f5 f6 a b c (PureQ dq) := by
 unfold pSign_at
 refine path_wp (G := given kp21 [(1, 2, .call (vi (Sp.sgnI a.num)) none), (1, 5, .call (vi (Sp.sgnI b.num)) none)] []) 7 [] ⟨(atC (cd Tryz.f21) [1, 1, 0, 1]), [(1, AV.ptr 0 0 0 0), (3, vi (Sp.sgnI a.num)), (4, vi (Sp.sgnI b.num)), (17, vb (bif Sp.sgnI a.num == Sp.sgnI b.num then true else Sp.sgnI b.num == 0))], [⟨[rootA f1 f2 f3 f4 f5 f6 a b c], 12, 0, false, false⟩], _, [], _⟩ (by kernel_rfl) (bc rfl (bc rfl b0)) q0 (ce (@ev27 (f1) (f2) (a.num) ((↑a.den : Int))) (ce (@ev27 (f3) (f4) (b.num) ((↑b.den : Int))) c0)) ?_
 rcases xm ((Sp.sgnI a.num = Sp.sgnI b.num) \/ (Sp.sgnI b.num = 0)) with d2 | d2
 ·have H := H.1 d2
  exact path_re (G := given kp21 [] []) 1000 [true] (vi (Sp.sgnI a.num)) (by kernel_rfl) (bc (beq_t ((i_bor i_eq i_eq).2 d2)) b0) q0 c0 H
 ·have H := H.2 d2
  rcases xm (Sp.sgnI a.num = 0) with d4 | d4
  ·have H := H.1 d4
   exact path_re (G := given kp21 [] []) 1000 [false, true] (vi (Sp.sgnI b.num)) (by kernel_rfl) (bc (beq_f (fun h => d2 ((i_bor i_eq i_eq).1 h))) (bc (beq_t (i_eq.2 d4)) b0)) q0 c0 H
  ·have H := H.2 d4
   obtain ⟨k5, H⟩ := H
   refine path_wp (G := given kp21 [(6, 1, .call (ratA false false (a * a - b * b * c)) none), (6, 2, .call (vi (Sp.sgnI (a * a - b * b * c).num)) none)] []) 10 [false, false] ⟨(atC (cd Tryz.f21) [1, 1, 1, 1, 0, 1]), [(3, vi (Sp.sgnI a.num)), (4, vi (Sp.sgnI b.num)), (25, vb (decide (Sp.sgnI (a * a - b * b * c).num > 0)))], [⟨[rootA f1 f2 f3 f4 f5 f6 a b c], 12, 0, false, false⟩], _, [], _⟩ (by kernel_rfl) (bc (beq_f (fun h => d2 ((i_bor i_eq i_eq).1 h))) (bc (beq_f (fun h => d4 (i_eq.1 h))) (bc rfl b0))) q0 (ce (@ev73 (f1) (f2) (f3) (f4) (f5) (f6) (a) (b) (c) k5) (ce (@ev27 (false) (false) ((a * a - b * b * c).num) ((↑(a * a - b * b * c).den : Int))) c0)) ?_
   rcases xm (Sp.sgnI (a * a - b * b * c).num > 0) with d7 | d7
   ·have H := H.1 d7
    exact path_re (G := given kp21 [] []) 1000 [true] (vi (Sp.sgnI a.num)) (by kernel_rfl) (bc (beq_t (i_dec.2 d7)) b0) q0 c0 H
   ·have H := H.2 d7
    exact path_re (G := given kp21 [] []) 1000 [false] (vi (Sp.sgnI b.num)) (by kernel_rfl) (bc (beq_f (fun h => d7 (i_dec.1 h))) b0) q0 c0 H
noncomputable abbrev zNyA3 (n : Int) (a : Rat) (b : Rat) (c : Rat) := bif bif Sp.smallB n (Sp.isNeg a.num) (Sp.limI a.num) (Sp.isNeg (↑a.den : Int)) (Sp.limI (↑a.den : Int)) then Sp.smallB n (Sp.isNeg b.num) (Sp.limI b.num) (Sp.isNeg (↑b.den : Int)) (Sp.limI (↑b.den : Int)) else false then Sp.smallB n (Sp.isNeg c.num) (Sp.limI c.num) (Sp.isNeg (↑c.den : Int)) (Sp.limI (↑c.den : Int)) else false
noncomputable abbrev zNyA4 (n : Int) (a : Rat) (b : Rat) := bif Sp.smallB n (Sp.isNeg a.num) (Sp.limI a.num) (Sp.isNeg (↑a.den : Int)) (Sp.limI (↑a.den : Int)) then Sp.smallB n (Sp.isNeg b.num) (Sp.limI b.num) (Sp.isNeg (↑b.den : Int)) (Sp.limI (↑b.den : Int)) else false
noncomputable abbrev zNyA5 (n : Int) (b : Rat) := Sp.smallB n (Sp.isNeg b.num) (Sp.limI b.num) (Sp.isNeg (↑b.den : Int)) (Sp.limI (↑b.den : Int))
noncomputable abbrev zNyA6 (n : Int) (c : Rat) := Sp.smallB n (Sp.isNeg c.num) (Sp.limI c.num) (Sp.isNeg (↑c.den : Int)) (Sp.limI (↑c.den : Int))
theorem pSmall (f1 f2 f3 f4 f5 f6 : Bool) (a b c : Rat) (n : Int)  (dq : AV) (H :
  (Sp.okU n (Sp.limI a.num) (Sp.limI (↑a.den : Int))) /\
  ((Sp.smallB n (Sp.isNeg a.num) (Sp.limI a.num) (Sp.isNeg (↑a.den : Int)) (Sp.limI (↑a.den : Int)) = true) -> (Sp.okU n (Sp.limI b.num) (Sp.limI (↑b.den : Int)))) /\
  (((Sp.smallB n (Sp.isNeg a.num) (Sp.limI a.num) (Sp.isNeg (↑a.den : Int)) (Sp.limI (↑a.den : Int)) = true) /\ (Sp.smallB n (Sp.isNeg b.num) (Sp.limI b.num) (Sp.isNeg (↑b.den : Int)) (Sp.limI (↑b.den : Int)) = true)) -> (Sp.okU n (Sp.limI c.num) (Sp.limI (↑c.den : Int)))) /\
  ((((Sp.smallB n (Sp.isNeg a.num) (Sp.limI a.num) (Sp.isNeg (↑a.den : Int)) (Sp.limI (↑a.den : Int)) = true) /\ (Sp.smallB n (Sp.isNeg b.num) (Sp.limI b.num) (Sp.isNeg (↑b.den : Int)) (Sp.limI (↑b.den : Int)) = true)) /\ (Sp.smallB n (Sp.isNeg c.num) (Sp.limI c.num) (Sp.isNeg (↑c.den : Int)) (Sp.limI (↑c.den : Int)) = true)) -> (Sp.okO a b c)) /\
  vb (bif bif bif Sp.smallB n (Sp.isNeg a.num) (Sp.limI a.num) (Sp.isNeg (↑a.den : Int)) (Sp.limI (↑a.den : Int)) then Sp.smallB n (Sp.isNeg b.num) (Sp.limI b.num) (Sp.isNeg (↑b.den : Int)) (Sp.limI (↑b.den : Int)) else false then Sp.smallB n (Sp.isNeg c.num) (Sp.limI c.num) (Sp.isNeg (↑c.den : Int)) (Sp.limI (↑c.den : Int)) else false then Sp.vroot b c else false) = dq) :
 pSmall_at f1 f2 f3 f4 f5 f6 a b c n (PureQ dq) := by
 unfold pSmall_at
 obtain ⟨k1, H⟩ := H
 obtain ⟨k3, H⟩ := H
 obtain ⟨k5, H⟩ := H
 obtain ⟨k7, H⟩ := H
 exact path_re (G := given kp47 [(1, 3, .call (vb (Sp.smallB n (Sp.isNeg a.num) (Sp.limI a.num) (Sp.isNeg (↑a.den : Int)) (Sp.limI (↑a.den : Int)))) none), (1, 8, .call (vb (zNyA5 n b)) none), (1, 14, .call (vb (zNyA6 n c)) none), (1, 18, .call (vb (Sp.vroot b c)) none)] []) 1000 [] (asm := [true, !(Sp.smallB n (Sp.isNeg a.num) (Sp.limI a.num) (Sp.isNeg (↑a.den : Int)) (Sp.limI (↑a.den : Int)) == true && true) || true, !((zNyA4 n a b) == true && true) || true, !((zNyA3 n a b c) == true && true) || true]) (calls := [⟨true, false, 19, [ratA f1 f2 a, vi n], [], vb (Sp.smallB n (Sp.isNeg a.num) (Sp.limI a.num) (Sp.isNeg (↑a.den : Int)) (Sp.limI (↑a.den : Int))), []⟩, ⟨Sp.smallB n (Sp.isNeg a.num) (Sp.limI a.num) (Sp.isNeg (↑a.den : Int)) (Sp.limI (↑a.den : Int)) == true && true && true, false, 19, [ratA f3 f4 b, vi n], [], vb (zNyA5 n b), []⟩, ⟨(zNyA4 n a b) == true && true && true, false, 19, [ratA f5 f6 c, vi n], [], vb (zNyA6 n c), []⟩, ⟨(zNyA3 n a b c) == true && true && true, false, 93, [rootA f1 f2 f3 f4 f5 f6 a b c], [], vb (Sp.vroot b c), []⟩]) (vb (bif bif bif Sp.smallB n (Sp.isNeg a.num) (Sp.limI a.num) (Sp.isNeg (↑a.den : Int)) (Sp.limI (↑a.den : Int)) then Sp.smallB n (Sp.isNeg b.num) (Sp.limI b.num) (Sp.isNeg (↑b.den : Int)) (Sp.limI (↑b.den : Int)) else false then Sp.smallB n (Sp.isNeg c.num) (Sp.limI c.num) (Sp.isNeg (↑c.den : Int)) (Sp.limI (↑c.den : Int)) else false then Sp.vroot b c else false)) (by kernel_rfl) (bc rfl (bc (Bool.or_true _) (bc (Bool.or_true _) (bc (Bool.or_true _) b0)))) q0 (cc (fun _ => (@ev19 (Sp.isNeg a.num) (f1) (Sp.isNeg (↑a.den : Int)) (f2) (Sp.limI a.num) (Sp.limI (↑a.den : Int)) (n) k1)) (cc (fun hc => ((@ev19 (Sp.isNeg b.num) (f3) (Sp.isNeg (↑b.den : Int)) (f4) (Sp.limI b.num) (Sp.limI (↑b.den : Int)) (n) (k3 ((i_at (i_at (i_bt (i_var _)))).1 hc))) : Ev M1 (Conf.pure 19 [ratA f3 f4 b, vi n]) (vb (zNyA5 n b)) [])) (cc (fun hc => ((@ev19 (Sp.isNeg c.num) (f5) (Sp.isNeg (↑c.den : Int)) (f6) (Sp.limI c.num) (Sp.limI (↑c.den : Int)) (n) (k5 ((i_at (i_at (i_bt (i_band (i_var _) (i_var _))))).1 hc))) : Ev M1 (Conf.pure 19 [ratA f5 f6 c, vi n]) (vb (zNyA6 n c)) [])) (cc (fun hc => ((@ev93 (f1) (f2) (f3) (f4) (f5) (f6) (a) (b) (c) (k7 ((i_at (i_at (i_bt (i_band (i_band (i_var _) (i_var _)) (i_var _))))).1 hc))) : Ev M1 (Conf.pure 93 [rootA f1 f2 f3 f4 f5 f6 a b c]) (vb (Sp.vroot b c)) [])) c0)))) H
theorem pSmallR (s1 s2 s3 t1 t2 t3 f1 f2 f3 g1 g2 g3 : Bool) (x1 x2 x3 y1 y2 y3 : List Int) (n : Int)  (dq : AV) (H :
  (Sp.okU n x1 y1) /\
  ((Sp.smallB n s1 x1 t1 y1 = true) -> (Sp.okU n x2 y2)) /\
  (((Sp.smallB n s1 x1 t1 y1 = true) /\ (Sp.smallB n s2 x2 t2 y2 = true)) -> (Sp.okU n x3 y3)) /\
  ∃ (b1 : Bool),
  ((((Sp.smallB n s1 x1 t1 y1 = true) /\ (Sp.smallB n s2 x2 t2 y2 = true)) /\ (Sp.smallB n s3 x3 t3 y3 = true)) -> (Ev M1 (Conf.pure 93 [ag [vb s1, AV.vec f1 1 (us x1), vb t1, AV.vec g1 1 (us y1), vb s2, AV.vec f2 1 (us x2), vb t2, AV.vec g2 1 (us y2), vb s3, AV.vec f3 1 (us x3), vb t3, AV.vec g3 1 (us y3)]]) (vb b1) [])) /\
  vb (bif bif bif Sp.smallB n s1 x1 t1 y1 then Sp.smallB n s2 x2 t2 y2 else false then Sp.smallB n s3 x3 t3 y3 else false then b1 else false) = dq) :
 pSmallR_at s1 s2 s3 t1 t2 t3 f1 f2 f3 g1 g2 g3 x1 x2 x3 y1 y2 y3 n (PureQ dq) := by
 unfold pSmallR_at
 obtain ⟨k1, H⟩ := H
 obtain ⟨k3, H⟩ := H
 obtain ⟨k5, H⟩ := H
 obtain ⟨b1, H⟩ := H
 obtain ⟨k7, H⟩ := H
 exact path_re (G := given kp47 [(1, 3, .call (vb (Sp.smallB n s1 x1 t1 y1)) none), (1, 8, .call (vb (Sp.smallB n s2 x2 t2 y2)) none), (1, 14, .call (vb (Sp.smallB n s3 x3 t3 y3)) none), (1, 18, .call (vb b1) none)] []) 1000 [] (asm := [true, !(Sp.smallB n s1 x1 t1 y1 == true && true) || true, !((bif Sp.smallB n s1 x1 t1 y1 then Sp.smallB n s2 x2 t2 y2 else false) == true && true) || true, !((bif bif Sp.smallB n s1 x1 t1 y1 then Sp.smallB n s2 x2 t2 y2 else false then Sp.smallB n s3 x3 t3 y3 else false) == true && true) || true]) (calls := [⟨true, false, 19, [ag [vb s1, AV.vec f1 1 (us x1), vb t1, AV.vec g1 1 (us y1)], vi n], [], vb (Sp.smallB n s1 x1 t1 y1), []⟩, ⟨Sp.smallB n s1 x1 t1 y1 == true && true && true, false, 19, [ag [vb s2, AV.vec f2 1 (us x2), vb t2, AV.vec g2 1 (us y2)], vi n], [], vb (Sp.smallB n s2 x2 t2 y2), []⟩, ⟨(bif Sp.smallB n s1 x1 t1 y1 then Sp.smallB n s2 x2 t2 y2 else false) == true && true && true, false, 19, [ag [vb s3, AV.vec f3 1 (us x3), vb t3, AV.vec g3 1 (us y3)], vi n], [], vb (Sp.smallB n s3 x3 t3 y3), []⟩, ⟨(bif bif Sp.smallB n s1 x1 t1 y1 then Sp.smallB n s2 x2 t2 y2 else false then Sp.smallB n s3 x3 t3 y3 else false) == true && true && true, false, 93, [ag [vb s1, AV.vec f1 1 (us x1), vb t1, AV.vec g1 1 (us y1), vb s2, AV.vec f2 1 (us x2), vb t2, AV.vec g2 1 (us y2), vb s3, AV.vec f3 1 (us x3), vb t3, AV.vec g3 1 (us y3)]], [], vb b1, []⟩]) (vb (bif bif bif Sp.smallB n s1 x1 t1 y1 then Sp.smallB n s2 x2 t2 y2 else false then Sp.smallB n s3 x3 t3 y3 else false then b1 else false)) (by kernel_rfl) (bc rfl (bc (Bool.or_true _) (bc (Bool.or_true _) (bc (Bool.or_true _) b0)))) q0 (cc (fun _ => (@ev19 (s1) (f1) (t1) (g1) (x1) (y1) (n) k1)) (cc (fun hc => ((@ev19 (s2) (f2) (t2) (g2) (x2) (y2) (n) (k3 ((i_at (i_at (i_bt (i_var _)))).1 hc))) : Ev M1 (Conf.pure 19 [ag [vb s2, AV.vec f2 1 (us x2), vb t2, AV.vec g2 1 (us y2)], vi n]) (vb (Sp.smallB n s2 x2 t2 y2)) [])) (cc (fun hc => ((@ev19 (s3) (f3) (t3) (g3) (x3) (y3) (n) (k5 ((i_at (i_at (i_bt (i_band (i_var _) (i_var _))))).1 hc))) : Ev M1 (Conf.pure 19 [ag [vb s3, AV.vec f3 1 (us x3), vb t3, AV.vec g3 1 (us y3)], vi n]) (vb (Sp.smallB n s3 x3 t3 y3)) [])) (cc (fun hc => ((k7 ((i_at (i_at (i_bt (i_band (i_band (i_var _) (i_var _)) (i_var _))))).1 hc)) : Ev M1 (Conf.pure 93 [ag [vb s1, AV.vec f1 1 (us x1), vb t1, AV.vec g1 1 (us y1), vb s2, AV.vec f2 1 (us x2), vb t2, AV.vec g2 1 (us y2), vb s3, AV.vec f3 1 (us x3), vb t3, AV.vec g3 1 (us y3)]]) (vb b1) [])) c0)))) H
end Go.Av

namespace Go.Av
open Go.Proofs
theorem okT_q0 : Sp.okT 1 (Sp.qi 0) := by rw [qi_zero]; exact okT_zero
theorem okT_rad {k : Nat} {b c : Rat} (hc : Sp.okT k c) : Sp.okT (k + 1) (Sp.rad b c) := by
 unfold Sp.rad
 split
 ·exact okT_le okT_q0 (by omega)
 ·exact okT_le hc (by omega)
end Go.Av

namespace Go.Av
open Go.Proofs
noncomputable def Sp.sgP (a b c : Rat) : Int := if Sp.sgR a = Sp.sgR b \/ Sp.sgR b = 0 then Sp.sgR a else if Sp.sgR a = 0 then Sp.sgR b else if Sp.sgR (a * a - b * b * c) > 0 then Sp.sgR a else Sp.sgR b
theorem ev21 (f1 f2 f3 f4 f5 f6 : Bool) (a b c : Rat) (h : Sp.okO a b c) : Ev M1 (.pure 21 [rootA f1 f2 f3 f4 f5 f6 a b c]) (.int .i64 (Sp.sgP a b c)) [] := by
 refine call21 (pSign _ _ _ _ _ _ _ _ _ _ ⟨fun k => ?_, fun k => ⟨fun k2 => ?_, fun k2 => ⟨h, fun k3 => ?_, fun k3 => ?_⟩⟩⟩)
 ·unfold Sp.sgP Sp.sgR; rw [if_pos k]
 ·unfold Sp.sgP Sp.sgR; rw [if_neg k, if_pos k2]
 ·unfold Sp.sgP Sp.sgR; rw [if_neg k, if_neg k2, if_pos k3]
 ·unfold Sp.sgP Sp.sgR; rw [if_neg k, if_neg k2, if_neg k3]
def Sp.smO (n : Int) (s1 : Bool) (x1 : List Int) (t1 : Bool) (y1 : List Int) (s2 : Bool) (x2 : List Int) (t2 : Bool) (y2 : List Int) (s3 : Bool) (x3 : List Int) (t3 : Bool) (y3 : List Int) : Prop :=
 Sp.smallB n s1 x1 t1 y1 = true /\ Sp.smallB n s2 x2 t2 y2 = true /\ Sp.smallB n s3 x3 t3 y3 = true /\ ∀ b c : Rat, Sp.isNeg b.num = s2 -> Sp.limI b.num = x2 -> Sp.isNeg (b.den : Int) = t2 -> Sp.limI (b.den : Int) = y2 -> Sp.isNeg c.num = s3 -> Sp.limI c.num = x3 -> Sp.isNeg (c.den : Int) = t3 -> Sp.limI (c.den : Int) = y3 -> Sp.vroot b c = true
open Classical in
noncomputable def Sp.smOB (n : Int) (s1 : Bool) (x1 : List Int) (t1 : Bool) (y1 : List Int) (s2 : Bool) (x2 : List Int) (t2 : Bool) (y2 : List Int) (s3 : Bool) (x3 : List Int) (t3 : Bool) (y3 : List Int) : Bool := decide (Sp.smO n s1 x1 t1 y1 s2 x2 t2 y2 s3 x3 t3 y3)
theorem rat_inj {r s : Rat} (h1 : Sp.isNeg r.num = Sp.isNeg s.num) (h2 : Sp.limI r.num = Sp.limI s.num) (h3 : Sp.isNeg (r.den : Int) = Sp.isNeg (s.den : Int)) (h4 : Sp.limI (r.den : Int) = Sp.limI (s.den : Int)) : r = s := by
 have e1 := big_inj h2 h1
 have e2 := big_inj h4 h3
 exact Rat.ext e1 (by omega)
theorem small_ratN {n : Int} {s t : Bool} {x y : List Int} (h : Sp.smallB n s x t y = true) : ∃ r : Rat, Sp.okT n.toNat r /\ s = Sp.isNeg r.num /\ x = Sp.limI r.num /\ t = Sp.isNeg (r.den : Int) /\ y = Sp.limI (r.den : Int) := by
 obtain ⟨h1, h2, r, rfl, rfl, rfl, rfl⟩ := smallB_iff.1 h
 rw [limI_len] at h1 h2
 rw [Int.natAbs_natCast] at h2
 exact ⟨r, ⟨by omega, by omega⟩, rfl, rfl, rfl, rfl⟩
def Sp.okN (n : Int) : Prop := 0 <= n /\ n <= 9000
def Sp.okU3 (n : Int) (x1 y1 x2 y2 x3 y3 : List Int) : Prop := Sp.okN n /\ ((∀ v ∈ x1, 0 <= v) /\ ∀ v ∈ y1, 0 <= v) /\ ((∀ v ∈ x2, 0 <= v) /\ ∀ v ∈ y2, 0 <= v) /\ ((∀ v ∈ x3, 0 <= v) /\ ∀ v ∈ y3, 0 <= v)
theorem ev47 (s1 s2 s3 t1 t2 t3 f1 f2 f3 g1 g2 g3 : Bool) (x1 x2 x3 y1 y2 y3 : List Int) (n : Int) (h : Sp.okU3 n x1 y1 x2 y2 x3 y3) : Ev M1 (.pure 47 [.agg [.bool s1, .vec f1 1 (x1.map (.int .u32)), .bool t1, .vec g1 1 (y1.map (.int .u32)), .bool s2, .vec f2 1 (x2.map (.int .u32)), .bool t2, .vec g2 1 (y2.map (.int .u32)), .bool s3, .vec f3 1 (x3.map (.int .u32)), .bool t3, .vec g3 1 (y3.map (.int .u32))], .int .i64 n]) (.bool (Sp.smOB n s1 x1 t1 y1 s2 x2 t2 y2 s3 x3 t3 y3)) [] := by
 obtain ⟨⟨hn0, hn⟩, p1, p2, p3⟩ := h
 have u1 : Sp.okU n x1 y1 := ⟨by omega, p1⟩
 have u2 : Sp.okU n x2 y2 := ⟨by omega, p2⟩
 have u3 : Sp.okU n x3 y3 := ⟨by omega, p3⟩
 by_cases k : Sp.smallB n s1 x1 t1 y1 = true /\ Sp.smallB n s2 x2 t2 y2 = true /\ Sp.smallB n s3 x3 t3 y3 = true
 ·obtain ⟨k1, k2, k3⟩ := k
  obtain ⟨a, ha, rfl, rfl, rfl, rfl⟩ := small_ratN k1
  obtain ⟨b, hb, rfl, rfl, rfl, rfl⟩ := small_ratN k2
  obtain ⟨c, hc, rfl, rfl, rfl, rfl⟩ := small_ratN k3
  refine call47 (pSmall _ _ _ _ _ _ _ _ _ _ _ ⟨u1, fun _ => u2, fun _ => u3, fun _ => okT_O ha hb hc (by omega), ?_⟩)
  rw [k1, k2, k3]
  simp only [cond_true]
  congr 1
  have : Sp.smOB n (Sp.isNeg a.num) (Sp.limI a.num) (Sp.isNeg (a.den : Int)) (Sp.limI (a.den : Int)) (Sp.isNeg b.num) (Sp.limI b.num) (Sp.isNeg (b.den : Int)) (Sp.limI (b.den : Int)) (Sp.isNeg c.num) (Sp.limI c.num) (Sp.isNeg (c.den : Int)) (Sp.limI (c.den : Int)) = true ↔ Sp.vroot b c = true := by
   unfold Sp.smOB
   simp only [decide_eq_true_eq]
   constructor
   ·intro h; exact h.2.2.2 b c rfl rfl rfl rfl rfl rfl rfl rfl
   ·intro h
    refine ⟨k1, k2, k3, fun b' c' e1 e2 e3 e4 e5 e6 e7 e8 => ?_⟩
    rw [rat_inj e1 e2 e3 e4, rat_inj e5 e6 e7 e8]; exact h
  exact Bool.eq_iff_iff.2 this.symm
 ·have hf : Sp.smOB n s1 x1 t1 y1 s2 x2 t2 y2 s3 x3 t3 y3 = false := by
   unfold Sp.smOB
   simp only [decide_eq_false_iff_not]
   exact fun h => k ⟨h.1, h.2.1, h.2.2.1⟩
  rw [hf]
  refine call47 (pSmallR _ _ _ _ _ _ _ _ _ _ _ _ _ _ _ _ _ _ _ _ ⟨u1, fun _ => u2, fun _ => u3, false, fun h => absurd ⟨h.1.1, h.1.2, h.2⟩ k, ?_⟩)
  cases Sp.smallB n s1 x1 t1 y1 <;> cases Sp.smallB n s2 x2 t2 y2 <;> cases Sp.smallB n s3 x3 t3 y3 <;> rfl
theorem smOB_rat {n : Int} {s1 s2 s3 t1 t2 t3 : Bool} {x1 x2 x3 y1 y2 y3 : List Int} (h : Sp.smOB n s1 x1 t1 y1 s2 x2 t2 y2 s3 x3 t3 y3 = true) : ∃ a b c : Rat, (Sp.okT n.toNat a /\ Sp.okT n.toNat b /\ Sp.okT n.toNat c) /\ Sp.vroot b c = true /\ (s1 = Sp.isNeg a.num /\ x1 = Sp.limI a.num /\ t1 = Sp.isNeg (a.den : Int) /\ y1 = Sp.limI (a.den : Int)) /\ (s2 = Sp.isNeg b.num /\ x2 = Sp.limI b.num /\ t2 = Sp.isNeg (b.den : Int) /\ y2 = Sp.limI (b.den : Int)) /\ s3 = Sp.isNeg c.num /\ x3 = Sp.limI c.num /\ t3 = Sp.isNeg (c.den : Int) /\ y3 = Sp.limI (c.den : Int) := by
 unfold Sp.smOB at h
 simp only [decide_eq_true_eq] at h
 obtain ⟨k1, k2, k3, k⟩ := h
 obtain ⟨a, ha, rfl, rfl, rfl, rfl⟩ := small_ratN k1
 obtain ⟨b, hb, rfl, rfl, rfl, rfl⟩ := small_ratN k2
 obtain ⟨c, hc, rfl, rfl, rfl, rfl⟩ := small_ratN k3
 exact ⟨a, b, c, ⟨ha, hb, hc⟩, k b c rfl rfl rfl rfl rfl rfl rfl rfl, ⟨rfl, rfl, rfl, rfl⟩, ⟨rfl, rfl, rfl, rfl⟩, rfl, rfl, rfl, rfl⟩
end Go.Av

namespace Go.Av
open Go.Proofs
set_option maxRecDepth 100000
def fi10 : Fi := ⟨15, [.tmp 2]⟩
def kp10 : List (Nat × List Nat) := [(0, [0]), (1, [5, 6, 7]), (2, [5, 6, 7, 8]), (3, [4, 5, 6, 7]), (4, [5, 6, 7, 13]), (5, [2]), (6, [5, 6, 7]), (7, [2])]
def lSm1_at (h : Bool) (s1 t1 f1 g1 s2 t2 f2 g2 s3 t3 f3 g3 : Bool) (x1 y1 x2 y2 x3 y3 : List Int) (Q : AV -> Heap -> Prop) : Prop := Wp M1 (.run fi10 (atC (cd Tryz.f10) []) [(0, .vec h 12 [.agg [.bool s1, .vec f1 1 (x1.map (.int .u32)), .bool t1, .vec g1 1 (y1.map (.int .u32)), .bool s2, .vec f2 1 (x2.map (.int .u32)), .bool t2, .vec g2 1 (y2.map (.int .u32)), .bool s3, .vec f3 1 (x3.map (.int .u32)), .bool t3, .vec g3 1 (y3.map (.int .u32))]])] []) Q
def lSm1a_at (h : Bool) (s1 t1 f1 g1 s2 t2 f2 g2 s3 t3 f3 g3 : Bool) (x1 y1 x2 y2 x3 y3 : List Int) (Q : AV -> Heap -> Prop) : Prop := Wp M1 (.run fi10 (atC (cd Tryz.f10) [1, 0, 1, 0, 0]) [(5, .vec h 12 [.agg [.bool s1, .vec f1 1 (x1.map (.int .u32)), .bool t1, .vec g1 1 (y1.map (.int .u32)), .bool s2, .vec f2 1 (x2.map (.int .u32)), .bool t2, .vec g2 1 (y2.map (.int .u32)), .bool s3, .vec f3 1 (x3.map (.int .u32)), .bool t3, .vec g3 1 (y3.map (.int .u32))]]), (6, .int .i64 1), (7, .int .i64 0)] []) Q
def lSm1b_at (h : Bool) (s1 t1 f1 g1 s2 t2 f2 g2 s3 t3 f3 g3 : Bool) (x1 y1 x2 y2 x3 y3 : List Int) (Q : AV -> Heap -> Prop) : Prop := Wp M1 (.run fi10 (atC (cd Tryz.f10) [1, 0, 1, 0, 0]) [(5, .vec h 12 [.agg [.bool s1, .vec f1 1 (x1.map (.int .u32)), .bool t1, .vec g1 1 (y1.map (.int .u32)), .bool s2, .vec f2 1 (x2.map (.int .u32)), .bool t2, .vec g2 1 (y2.map (.int .u32)), .bool s3, .vec f3 1 (x3.map (.int .u32)), .bool t3, .vec g3 1 (y3.map (.int .u32))]]), (6, .int .i64 1), (7, .int .i64 1)] []) Q
theorem call10 {args : List AV} {d : AV} (h : wc M1 fi10 Tryz.f10 args d) : Ev M1 (.pure 10 args) d [] := pcl _ _ (by kernel_rfl) h
theorem lSm1 (h : Bool) (s1 t1 f1 g1 s2 t2 f2 g2 s3 t3 f3 g3 : Bool) (x1 y1 x2 y2 x3 y3 : List Int)  (dq : AV) (H :
  lSm1a_at (h) (s1) (t1) (f1) (g1) (s2) (t2) (f2) (g2) (s3) (t3) (f3) (g3) (x1) (y1) (x2) (y2) (x3) (y3) (PureQ dq)) :
 lSm1_at h s1 t1 f1 g1 s2 t2 f2 g2 s3 t3 f3 g3 x1 y1 x2 y2 x3 y3 (PureQ dq) := by
 unfold lSm1_at
 exact path_wp (G := given kp10 [] []) 1000 [] ⟨(atC (cd Tryz.f10) [1, 0, 1, 0, 0]), [(5, AV.vec h 12 [ag [vb s1, AV.vec f1 1 (us x1), vb t1, AV.vec g1 1 (us y1), vb s2, AV.vec f2 1 (us x2), vb t2, AV.vec g2 1 (us y2), vb s3, AV.vec f3 1 (us x3), vb t3, AV.vec g3 1 (us y3)]]), (6, vi 1), (7, vi 0)], [], _, [], _⟩ (by kernel_rfl) b0 q0 c0 (H)
noncomputable abbrev zNyB1 (s1 : Bool) (f1 : Bool) (x1 : List Int) (t1 : Bool) (g1 : Bool) (y1 : List Int) (s2 : Bool) (f2 : Bool) (x2 : List Int) (t2 : Bool) (g2 : Bool) (y2 : List Int) (s3 : Bool) (f3 : Bool) (x3 : List Int) (t3 : Bool) (g3 : Bool) (y3 : List Int) := ag [vb s1, AV.vec f1 1 (us x1), vb t1, AV.vec g1 1 (us y1), vb s2, AV.vec f2 1 (us x2), vb t2, AV.vec g2 1 (us y2), vb s3, AV.vec f3 1 (us x3), vb t3, AV.vec g3 1 (us y3)]
theorem lSm1a (h : Bool) (s1 t1 f1 g1 s2 t2 f2 g2 s3 t3 f3 g3 : Bool) (x1 y1 x2 y2 x3 y3 : List Int)  (dq : AV) (H :
  (Sp.okU3 4 x1 y1 x2 y2 x3 y3) /\
  ((¬(Sp.smOB 4 s1 x1 t1 y1 s2 x2 t2 y2 s3 x3 t3 y3 = true)) -> vb false = dq) /\
  (¬(¬(Sp.smOB 4 s1 x1 t1 y1 s2 x2 t2 y2 s3 x3 t3 y3 = true)) -> lSm1b_at (h) (s1) (t1) (f1) (g1) (s2) (t2) (f2) (g2) (s3) (t3) (f3) (g3) (x1) (y1) (x2) (y2) (x3) (y3) (PureQ dq))) :
 lSm1a_at h s1 t1 f1 g1 s2 t2 f2 g2 s3 t3 f3 g3 x1 y1 x2 y2 x3 y3 (PureQ dq) := by
 unfold lSm1a_at
 obtain ⟨k1, H⟩ := H
 refine path_wp (G := given kp10 [(4, 1, .call (vb (Sp.smOB 4 s1 x1 t1 y1 s2 x2 t2 y2 s3 x3 t3 y3)) none)] []) 11 [true] ⟨(atC (cd Tryz.f10) [1, 0, 1, 0, 0, 1, 1, 0, 0, 1, 1]), [(5, AV.vec h 12 [(zNyB1 s1 f1 x1 t1 g1 y1 s2 f2 x2 t2 g2 y2 s3 f3 x3 t3 g3 y3)]), (6, vi 1), (7, vi 0), (13, vb !Sp.smOB 4 s1 x1 t1 y1 s2 x2 t2 y2 s3 x3 t3 y3)], [⟨[(zNyB1 s1 f1 x1 t1 g1 y1 s2 f2 x2 t2 g2 y2 s3 f3 x3 t3 g3 y3)], 12, 0, false, false⟩], _, [], _⟩ (by kernel_rfl) (bc rfl (bc rfl (bc rfl (bc rfl (bc rfl b0))))) q0 (ce (@ev47 (s1) (s2) (s3) (t1) (t2) (t3) (f1) (f2) (f3) (g1) (g2) (g3) (x1) (x2) (x3) (y1) (y2) (y3) (4) k1) c0) ?_
 rcases xm (¬(Sp.smOB 4 s1 x1 t1 y1 s2 x2 t2 y2 s3 x3 t3 y3 = true)) with d3 | d3
 ·have H := H.1 d3
  exact path_re (G := given kp10 [] []) 1000 [true] (asm := [(!Sp.smOB 4 s1 x1 t1 y1 s2 x2 t2 y2 s3 x3 t3 y3) == true]) (vb false) (by kernel_rfl) (bc (beq_t ((i_not (i_var _)).2 d3)) b0) q0 c0 H
 ·have H := H.2 d3
  exact path_wp (G := given kp10 [] []) 1000 [false] ⟨(atC (cd Tryz.f10) [1, 0, 1, 0, 0]), [(5, AV.vec h 12 [(zNyB1 s1 f1 x1 t1 g1 y1 s2 f2 x2 t2 g2 y2 s3 f3 x3 t3 g3 y3)]), (6, vi 1), (7, vi 1)], [⟨[(zNyB1 s1 f1 x1 t1 g1 y1 s2 f2 x2 t2 g2 y2 s3 f3 x3 t3 g3 y3)], 12, 0, false, false⟩], [(!Sp.smOB 4 s1 x1 t1 y1 s2 x2 t2 y2 s3 x3 t3 y3) == false], [], _⟩ (by kernel_rfl) (bc (beq_f (fun h => d3 ((i_not (i_var _)).1 h))) b0) q0 c0 (wp_narrow [] (by kernel_rfl) H)
theorem lSm1b (h : Bool) (s1 t1 f1 g1 s2 t2 f2 g2 s3 t3 f3 g3 : Bool) (x1 y1 x2 y2 x3 y3 : List Int)  (dq : AV) (H :
  vb true = dq) :
 lSm1b_at h s1 t1 f1 g1 s2 t2 f2 g2 s3 t3 f3 g3 x1 y1 x2 y2 x3 y3 (PureQ dq) := by
 unfold lSm1b_at
 exact path_re (G := given kp10 [] []) 1000 [false] (vb true) (by kernel_rfl) (bc rfl b0) q0 c0 H
end Go.Av

namespace Go.Av
open Go.Proofs
theorem ev10_r (h : Bool) (s1 t1 f1 g1 s2 t2 f2 g2 s3 t3 f3 g3 : Bool) (x1 y1 x2 y2 x3 y3 : List Int) (k : Sp.okU3 4 x1 y1 x2 y2 x3 y3) : Ev M1 (.pure 10 [.vec h 12 [.agg [.bool s1, .vec f1 1 (x1.map (.int .u32)), .bool t1, .vec g1 1 (y1.map (.int .u32)), .bool s2, .vec f2 1 (x2.map (.int .u32)), .bool t2, .vec g2 1 (y2.map (.int .u32)), .bool s3, .vec f3 1 (x3.map (.int .u32)), .bool t3, .vec g3 1 (y3.map (.int .u32))]]]) (.bool (Sp.smOB 4 s1 x1 t1 y1 s2 x2 t2 y2 s3 x3 t3 y3)) [] := by
 refine call10 (lSm1 _ _ _ _ _ _ _ _ _ _ _ _ _ _ _ _ _ _ _ _ (lSm1a _ _ _ _ _ _ _ _ _ _ _ _ _ _ _ _ _ _ _ _ ⟨k, fun c => ?_, fun c => lSm1b _ _ _ _ _ _ _ _ _ _ _ _ _ _ _ _ _ _ _ _ ?_⟩))
 ·rw [Bool.eq_false_iff.2 c]
 ·rw [Classical.not_not.1 c]
theorem okU3_rat (a b c : Rat) : Sp.okU3 4 (Sp.limI a.num) (Sp.limI (a.den : Int)) (Sp.limI b.num) (Sp.limI (b.den : Int)) (Sp.limI c.num) (Sp.limI (c.den : Int)) :=
 ⟨by unfold Sp.okN; omega, ⟨fun v hv => (lim_ok _ v hv).1, fun v hv => (lim_ok _ v hv).1⟩, ⟨fun v hv => (lim_ok _ v hv).1, fun v hv => (lim_ok _ v hv).1⟩, fun v hv => (lim_ok _ v hv).1, fun v hv => (lim_ok _ v hv).1⟩
noncomputable def Sp.smR (a b c : Rat) : Bool := Sp.smOB 4 (Sp.isNeg a.num) (Sp.limI a.num) (Sp.isNeg (a.den : Int)) (Sp.limI (a.den : Int)) (Sp.isNeg b.num) (Sp.limI b.num) (Sp.isNeg (b.den : Int)) (Sp.limI (b.den : Int)) (Sp.isNeg c.num) (Sp.limI c.num) (Sp.isNeg (c.den : Int)) (Sp.limI (c.den : Int))
theorem ev10 (h : Bool) (f1 f2 f3 f4 f5 f6 : Bool) (a b c : Rat) : Ev M1 (.pure 10 [.vec h 12 [rootA f1 f2 f3 f4 f5 f6 a b c]]) (.bool (Sp.smR a b c)) [] :=
 ev10_r _ _ _ _ _ _ _ _ _ _ _ _ _ _ _ _ _ _ _ (okU3_rat a b c)
end Go.Av

namespace Go.Av
open Go.Proofs
set_option maxRecDepth 100000
end Go.Av

namespace Go.Av
open Go.Proofs
theorem num_lt {r : Rat} : r.num < 0 ↔ r < 0 := by
 have h := @Rat.num_nonneg r
 constructor
 ·intro k
  apply Classical.byContradiction
  intro n
  have : 0 <= r := by grind
  have := h.2 this
  omega
 ·intro k
  apply Classical.byContradiction
  intro n
  have : 0 <= r := h.1 (by omega)
  grind
theorem num_gt {r : Rat} : 0 < r.num ↔ 0 < r := by
 have h := @num_lt r
 have h0 := @Rat.num_eq_zero r
 constructor
 ·intro k
  have h1 : ¬r < 0 := fun x => by have := h.2 x; omega
  have h2 : r ≠ 0 := fun x => by have := h0.2 x; omega
  grind
 ·intro k
  have h1 : ¬r.num < 0 := fun x => by have := h.1 x; grind
  have h2 : r.num ≠ 0 := fun x => by have := h0.1 x; grind
  omega
theorem sgR_pos {r : Rat} (h : 0 < r) : Sp.sgR r = 1 := by
 have := num_gt.2 h
 unfold Sp.sgR Sp.sgnI; rw [if_neg (by omega), if_pos this]
theorem sgR_neg {r : Rat} (h : r < 0) : Sp.sgR r = -1 := by
 have := num_lt.2 h
 unfold Sp.sgR Sp.sgnI; rw [if_pos this]
theorem sgR_zero : Sp.sgR 0 = 0 := rfl
theorem tri (r : Rat) : r < 0 \/ r = 0 \/ 0 < r := by grind
theorem sgR_iff {r : Rat} : (Sp.sgR r = 1 ↔ 0 < r) /\ (Sp.sgR r = 0 ↔ r = 0) /\ (Sp.sgR r = -1 ↔ r < 0) := by
 rcases tri r with h | h | h
 ·rw [sgR_neg h]
  exact ⟨⟨fun x => absurd x (by decide), fun x => by grind⟩, ⟨fun x => absurd x (by decide), fun x => by grind⟩, ⟨fun _ => h, fun _ => rfl⟩⟩
 ·subst h
  exact ⟨⟨fun x => absurd x (by decide), fun x => by grind⟩, ⟨fun _ => rfl, fun _ => rfl⟩, ⟨fun x => absurd x (by decide), fun x => by grind⟩⟩
 ·rw [sgR_pos h]
  exact ⟨⟨fun _ => h, fun _ => rfl⟩, ⟨fun x => absurd x (by decide), fun x => by grind⟩, ⟨fun x => absurd x (by decide), fun x => by grind⟩⟩
theorem mul_pp {p q : Rat} (h1 : 0 < p) (h2 : 0 < q) : 0 < p * q := Rat.mul_pos h1 h2
theorem mul_nn {p q : Rat} (h1 : p < 0) (h2 : q < 0) : 0 < p * q := by
 have := Rat.mul_pos (show 0 < -p by grind) (show 0 < -q by grind)
 grind
theorem sq_nn (a : Rat) : 0 <= a * a := by
 rcases tri a with h | h | h
 ·have := mul_nn h h; grind
 ·subst h; grind
 ·have := mul_pp h h; grind
theorem sq_pos {a : Rat} (h : a ≠ 0) : 0 < a * a := by
 rcases tri a with k | k | k
 ·exact mul_nn k k
 ·exact absurd k h
 ·exact mul_pp k k
theorem mul_ge {p q : Rat} (h1 : 0 <= p) (h2 : 0 <= q) : 0 <= p * q := Rat.mul_nonneg h1 h2
def Sp.okC (c : Rat) : Prop := 0 < c /\ ¬Sp.rsq c
theorem norm_ne {a b c : Rat} (hc : Sp.okC c) (h : ¬(a = 0 /\ b = 0)) : a * a - b * b * c ≠ 0 := by
 intro e
 by_cases hb : b = 0
 ·subst hb
  have ha : a ≠ 0 := fun x => h ⟨x, rfl⟩
  have := sq_pos ha
  grind
 ·apply hc.2
  have hi : b * b⁻¹ = 1 := Rat.mul_inv_cancel b hb
  refine rsq_of (s := a * b⁻¹) ?_
  have e2 : a * a = b * b * c := by grind
  have : a * b⁻¹ * (a * b⁻¹) = (a * a) * (b⁻¹ * b⁻¹) := by grind
  rw [this, e2]
  have : b * b * c * (b⁻¹ * b⁻¹) = (b * b⁻¹) * (b * b⁻¹) * c := by grind
  rw [this, hi]; grind
noncomputable def Sp.sgP0 (a b c : Rat) : Int := if Sp.sgR a = Sp.sgR b \/ Sp.sgR b = 0 then Sp.sgR a else if Sp.sgR a = 0 then Sp.sgR b else if Sp.sgR (a * a - b * b * c) > 0 then Sp.sgR a else Sp.sgR b
theorem sgO_pos {a b c : Rat} (hc : 0 < c) (h : 0 < a * a - b * b * c) : Sp.sgO a b c = Sp.sgR a := by
 unfold Sp.sgO
 rw [sgR_pos h]
 split
 ·rfl
 ·split
  ·rename_i h0
   have ha := sgR_iff.2.1.1 h0
   subst ha
   have := mul_ge (sq_nn b) (show 0 <= c by grind)
   grind
  ·rw [Int.mul_one]
theorem sgO_neg {a b c : Rat} (h : a * a - b * b * c < 0) : Sp.sgO a b c = Sp.sgR b := by
 have hb : b ≠ 0 := by
  intro e; subst e
  have := sq_nn a
  grind
 unfold Sp.sgO
 rw [sgR_neg h]
 rcases tri a with ha | ha | ha
 ·rcases tri b with kb | kb | kb
  ·rw [sgR_neg ha, sgR_neg kb]; rfl
  ·exact absurd kb hb
  ·rw [sgR_neg ha, sgR_pos kb]; rfl
 ·subst ha
  rcases tri b with kb | kb | kb
  ·rw [sgR_neg kb, sgR_zero]; rfl
  ·exact absurd kb hb
  ·rw [sgR_pos kb, sgR_zero]; rfl
 ·rcases tri b with kb | kb | kb
  ·rw [sgR_pos ha, sgR_neg kb]; rfl
  ·exact absurd kb hb
  ·rw [sgR_pos ha, sgR_pos kb]; rfl
theorem sgO_00 (c : Rat) : Sp.sgO 0 0 c = 0 := by
 unfold Sp.sgO
 rw [sgR_zero]; rfl
theorem sgP_eq {a b c : Rat} (hc : Sp.okC c) : Sp.sgP0 a b c = Sp.sgO a b c := by
 by_cases h : a = 0 /\ b = 0
 ·obtain ⟨rfl, rfl⟩ := h
  rw [sgO_00]; unfold Sp.sgP0; rw [sgR_zero]; rfl
 ·have hn := norm_ne hc h
  unfold Sp.sgP0
  rcases tri (a * a - b * b * c) with k | k | k
  ·rw [sgO_neg k]
   split
   ·rename_i e
    rcases e with e | e
    ·exact e
    ·have hb := sgR_iff.2.1.1 e
     subst hb
     have := sq_nn a
     grind
   ·split
    ·rfl
    ·rw [sgR_neg k, if_neg (by decide)]
  ·exact absurd k hn
  ·rw [sgO_pos hc.1 k]
   split
   ·rfl
   ·split
    ·rename_i e
     have ha := sgR_iff.2.1.1 e
     subst ha
     have := mul_ge (sq_nn b) (show 0 <= c by have := hc.1; grind)
     grind
    ·rw [sgR_pos k, if_pos (by decide)]
end Go.Av

namespace Go.Av
open Go.Proofs
set_option maxRecDepth 100000
def fi40 : Fi := ⟨29, [.cell 2 28, .tmp 3]⟩
def kp40 : List (Nat × List Nat) := [(0, [1, 2]), (1, [1, 2, 8]), (2, [2, 3]), (3, [1, 2, 4]), (4, [2, 3])]
def pInv_at (f1 f2 f3 f4 f5 f6 : Bool) (a b c : Rat) (Q : AV -> Heap -> Prop) : Prop := Wp M1 (.run fi40 (atC (cd Tryz.f40) []) [(0, .agg [.bool (Sp.isNeg a.num), .vec f1 1 ((Sp.limI a.num).map (.int .u32)), .bool (Sp.isNeg (a.den : Int)), .vec f2 1 ((Sp.limI (a.den : Int)).map (.int .u32)), .bool (Sp.isNeg b.num), .vec f3 1 ((Sp.limI b.num).map (.int .u32)), .bool (Sp.isNeg (b.den : Int)), .vec f4 1 ((Sp.limI (b.den : Int)).map (.int .u32)), .bool (Sp.isNeg c.num), .vec f5 1 ((Sp.limI c.num).map (.int .u32)), .bool (Sp.isNeg (c.den : Int)), .vec f6 1 ((Sp.limI (c.den : Int)).map (.int .u32))])] []) Q
theorem call40 {args : List AV} {d : AV} (h : wc M1 fi40 Tryz.f40 args d) : Ev M1 (.pure 40 args) d [] := pcl _ _ (by kernel_rfl) h
noncomputable abbrev zNyD1 := ag [vb false, AV.vnil, vb false, AV.vnil, vb false, AV.vnil, vb false, AV.vnil, vb false, AV.vnil, vb false, AV.vnil]
theorem pInv (f1 f2 f3 f4 f5 f6 : Bool) (a b c : Rat)  (dq : AV) (H :
  (Sp.okO a b c) /\
  ((Sp.sgP a b c = 0) -> Weak (tu [ag [vb false, AV.vnil, vb false, AV.vnil, vb false, AV.vnil, vb false, AV.vnil, vb false, AV.vnil, vb false, AV.vnil], vi 6]) dq) /\
  (¬(Sp.sgP a b c = 0) -> (Sp.okR (Sp.qi 1) /\ Sp.okR (a * a - b * b * c) /\ (a * a - b * b * c).num ≠ 0) /\
   (Sp.okR a /\ Sp.okR (Sp.qi 1 / (a * a - b * b * c))) /\
   (Sp.okR b /\ Sp.okR (Sp.qi 1 / (a * a - b * b * c))) /\
   (Sp.ok (b * (Sp.qi 1 / (a * a - b * b * c))).num) /\
   Weak (tu [rootF (a * (Sp.qi 1 / (a * a - b * b * c))) (Sp.prB (-(b * (Sp.qi 1 / (a * a - b * b * c)))) c) (Sp.prC (-(b * (Sp.qi 1 / (a * a - b * b * c)))) c), vi 0]) dq)) :
 pInv_at f1 f2 f3 f4 f5 f6 a b c (PureQ dq) := by
 unfold pInv_at
 obtain ⟨k1, H⟩ := H
 refine path_wp (G := given kp40 [(1, 1, .call (vi (Sp.sgP a b c)) none)] []) 5 [] ⟨(atC (cd Tryz.f40) [1, 0, 1]), [(1, AV.ptr 0 0 0 0), (2, AV.ptr 1 0 0 0), (8, vb (Sp.sgP a b c == 0))], [⟨[rootA f1 f2 f3 f4 f5 f6 a b c], 12, 0, false, false⟩, ⟨[zNyD1], 12, 0, false, false⟩], _, [], _⟩ (by kernel_rfl) (bc rfl b0) q0 (ce (@ev21 (f1) (f2) (f3) (f4) (f5) (f6) (a) (b) (c) k1) c0) ?_
 rcases xm (Sp.sgP a b c = 0) with d3 | d3
 ·have H := H.1 d3
  exact path_rq (G := given kp40 [] []) 1000 [true] (tu [zNyD1, vi 6]) (by kernel_rfl) (bc (beq_t (i_eq.2 d3)) (bc rfl b0)) q0 c0 H
 ·have H := H.2 d3
  obtain ⟨k4, H⟩ := H
  obtain ⟨k5, H⟩ := H
  obtain ⟨k6, H⟩ := H
  obtain ⟨k7, H⟩ := H
  exact path_rq (G := given kp40 [(3, 0, .call (ratA false false (Sp.qi 1)) none), (3, 2, .call (ratA false false (a * a - b * b * c)) none), (3, 3, .call (tu [ratA false false (Sp.qi 1 / (a * a - b * b * c)), vi 0]) none), (4, 3, .call (ratA false false (a * (Sp.qi 1 / (a * a - b * b * c)))) none), (4, 7, .call (ratA false false (b * (Sp.qi 1 / (a * a - b * b * c)))) none), (4, 8, .call (ratA false false (-(b * (Sp.qi 1 / (a * a - b * b * c))))) none), (4, 11, .call (rootF (a * (Sp.qi 1 / (a * a - b * b * c))) (Sp.prB (-(b * (Sp.qi 1 / (a * a - b * b * c)))) c) (Sp.prC (-(b * (Sp.qi 1 / (a * a - b * b * c)))) c)) none)] []) 1000 [false] (tu [rootF (a * (Sp.qi 1 / (a * a - b * b * c))) (Sp.prB (-(b * (Sp.qi 1 / (a * a - b * b * c)))) c) (Sp.prC (-(b * (Sp.qi 1 / (a * a - b * b * c)))) c), vi 0]) (by kernel_rfl) (bc (beq_f (fun h => d3 (i_eq.1 h))) (bc rfl (bc rfl (bc rfl (bc rfl (bc rfl (bc rfl (bc rfl (bc rfl b0))))))))) q0 (ce (@ev82 ) (ce (@ev73 (f1) (f2) (f3) (f4) (f5) (f6) (a) (b) (c) k1) (ce (@ev88 (false) (false) (false) (false) (Sp.qi 1) (a * a - b * b * c) k4) (ce (@ev32 (f1) (f2) (false) (false) (a) (Sp.qi 1 / (a * a - b * b * c)) k5) (ce (@ev32 (f3) (f4) (false) (false) (b) (Sp.qi 1 / (a * a - b * b * c)) k6) (ce (@ev70 (false) (false) (b * (Sp.qi 1 / (a * a - b * b * c))) k7) (ce (@ev77 (false) (false) (false) (false) (f5) (f6) (a * (Sp.qi 1 / (a * a - b * b * c))) (-(b * (Sp.qi 1 / (a * a - b * b * c)))) (c)) c0))))))) H
end Go.Av

namespace Go.Av
open Go.Proofs
theorem hi_ex (n : Int) : ∃ m : Int, m = n := ⟨n, rfl⟩
noncomputable def Sp.hi (n : Int) : Int := Classical.choose (hi_ex n)
theorem ev40_y (f1 f2 f3 f4 f5 f6 : Bool) (a b c : Rat) (h : Sp.okO a b c) (k : Sp.sgP a b c = 0) : Ev M1 (.pure 40 [rootA f1 f2 f3 f4 f5 f6 a b c]) (.tup [noO, .int .i64 6]) [] :=
 call40 (pInv _ _ _ _ _ _ _ _ _ _ ⟨h, fun _ => weak_two weak_no (.refl _), fun x => absurd k x⟩)
theorem ev40_n (f1 f2 f3 f4 f5 f6 : Bool) (a b c : Rat) (h : Sp.okO a b c /\ Sp.nrm a b c) (k : ¬(Sp.sgP a b c = 0)) : Ev M1 (.pure 40 [rootA f1 f2 f3 f4 f5 f6 a b c]) (.tup [rootF (a * Sp.ivn a b c) (Sp.prB (-(b * Sp.ivn a b c)) c) (Sp.prC (-(b * Sp.ivn a b c)) c), .int .i64 0]) [] := by
 obtain ⟨h, hn⟩ := h
 have hh := h
 obtain ⟨ha, hb, hc⟩ := h
 have t1 := okT_norm ha hb hc
 have t2 := okT_ivn ha hb hc hn
 have t3 := (okT_mul hb t2).1
 have r2 := okT_R t2 (by omega)
 exact call40 (pInv _ _ _ _ _ _ _ _ _ _ ⟨hh, fun x => absurd x k, fun _ => ⟨⟨okT_R (okT_int (by unfold Sp.inI; omega)) (by omega), okT_R t1 (by omega), fun e => hn (Rat.num_eq_zero.1 e)⟩, ⟨okT_R ha (by omega), r2⟩, ⟨okT_R hb (by omega), r2⟩, by unfold Sp.ok; unfold Sp.ivn at t3; omega, .refl _⟩⟩)
end Go.Av

namespace Go.Av
open Go.Proofs
set_option maxRecDepth 100000
def fi8 : Fi := ⟨74, [.tmp 2]⟩
def kp8 : List (Nat × List Nat) := [(0, [1]), (1, [1, 18]), (2, [2]), (3, [1, 3, 4]), (4, [1, 3, 4, 5, 6]), (5, [1, 3, 4, 6, 39]), (6, [2]), (7, [1, 3, 7, 8]), (8, [1, 7, 8, 9, 10]), (9, [2])]
def lwInv_at (f1 f2 f3 f4 f5 f6 : Bool) (a b c : Rat) (Q : AV -> Heap -> Prop) : Prop := Wp M1 (.run fi8 (atC (cd Tryz.f8) []) [(0, .agg [.bool (Sp.isNeg a.num), .vec f1 1 ((Sp.limI a.num).map (.int .u32)), .bool (Sp.isNeg (a.den : Int)), .vec f2 1 ((Sp.limI (a.den : Int)).map (.int .u32)), .bool (Sp.isNeg b.num), .vec f3 1 ((Sp.limI b.num).map (.int .u32)), .bool (Sp.isNeg (b.den : Int)), .vec f4 1 ((Sp.limI (b.den : Int)).map (.int .u32)), .bool (Sp.isNeg c.num), .vec f5 1 ((Sp.limI c.num).map (.int .u32)), .bool (Sp.isNeg (c.den : Int)), .vec f6 1 ((Sp.limI (c.den : Int)).map (.int .u32))])] []) Q
def lwInvR_at (s1 t1 f1 g1 s2 t2 f2 g2 s3 t3 f3 g3 : Bool) (x1 y1 x2 y2 x3 y3 : List Int) (Q : AV -> Heap -> Prop) : Prop := Wp M1 (.run fi8 (atC (cd Tryz.f8) []) [(0, .agg [.bool s1, .vec f1 1 (x1.map (.int .u32)), .bool t1, .vec g1 1 (y1.map (.int .u32)), .bool s2, .vec f2 1 (x2.map (.int .u32)), .bool t2, .vec g2 1 (y2.map (.int .u32)), .bool s3, .vec f3 1 (x3.map (.int .u32)), .bool t3, .vec g3 1 (y3.map (.int .u32))])] []) Q
theorem call8 {args : List AV} {d : AV} (h : wc M1 fi8 Tryz.f8 args d) : Ev M1 (.pure 8 args) d [] := pcl _ _ (by kernel_rfl) h
noncomputable abbrev zNyE2 (b : Rat) (a : Rat) (c : Rat) := Sp.rad (-(-b * Sp.ivn a b c) * Sp.ivn (a * Sp.ivn a b c) (-b * Sp.ivn a b c) (Sp.rad (-b * Sp.ivn a b c) c)) (Sp.rad (-b * Sp.ivn a b c) c)
noncomputable abbrev zNyE3 (a : Rat) (b : Rat) (c : Rat) := vb (decide (a * Sp.ivn a b c * Sp.ivn (a * Sp.ivn a b c) (-b * Sp.ivn a b c) (Sp.rad (-b * Sp.ivn a b c) c) = a /\ -(-b * Sp.ivn a b c) * Sp.ivn (a * Sp.ivn a b c) (-b * Sp.ivn a b c) (Sp.rad (-b * Sp.ivn a b c) c) = b /\ Sp.rad (-(-b * Sp.ivn a b c) * Sp.ivn (a * Sp.ivn a b c) (-b * Sp.ivn a b c) (Sp.rad (-b * Sp.ivn a b c) c)) (Sp.rad (-b * Sp.ivn a b c) c) = c))
noncomputable abbrev zNyE4 (a : Rat) (b : Rat) (c : Rat) := bif !decide (a * Sp.ivn a b c = a * Sp.ivn a b c /\ -b * Sp.ivn a b c = Sp.prB (-(b * Sp.ivn a b c)) c /\ Sp.rad (-b * Sp.ivn a b c) c = Sp.prC (-(b * Sp.ivn a b c)) c) then true else false
noncomputable abbrev zNyE5 := tu [ag [vb false, vf [], vb false, vf [], vb false, vf [], vb false, vf [], vb false, vf [], vb false, vf []], vi 6]
noncomputable abbrev zNyE6 (a : Rat) (b : Rat) (c : Rat) := Sp.rad (a * (-b * Sp.ivn a b c) + b * (a * Sp.ivn a b c)) (Sp.com b c (Sp.rad (-b * Sp.ivn a b c) c))
theorem lwInv (f1 f2 f3 f4 f5 f6 : Bool) (a b c : Rat)  (dq : AV) (H :
  ((¬(Sp.smR a b c = true)) -> vb true = dq) /\
  (¬(¬(Sp.smR a b c = true)) -> ((Sp.sgO a b c = 0) -> (Sp.okO a b c) /\
    ((Sp.sgP a b c = 0) -> vb true = dq) /\
    (¬(Sp.sgP a b c = 0) -> False)) /\
   (¬(Sp.sgO a b c = 0) -> (Sp.okO a b c /\ Sp.nrm a b c) /\
    ((Sp.sgP a b c = 0) -> False) /\
    (¬(Sp.sgP a b c = 0) -> (Sp.okO (a * Sp.ivn a b c) (-b * Sp.ivn a b c) (Sp.rad (-b * Sp.ivn a b c) c) /\ Sp.okO (a * Sp.ivn a b c) (Sp.prB (-(b * Sp.ivn a b c)) c) (Sp.prC (-(b * Sp.ivn a b c)) c)) /\
     (((¬(a * Sp.ivn a b c = a * Sp.ivn a b c /\ -b * Sp.ivn a b c = Sp.prB (-(b * Sp.ivn a b c)) c /\ Sp.rad (-b * Sp.ivn a b c) c = Sp.prC (-(b * Sp.ivn a b c)) c)) \/ (false = true)) -> vb false = dq) /\
     (¬((¬(a * Sp.ivn a b c = a * Sp.ivn a b c /\ -b * Sp.ivn a b c = Sp.prB (-(b * Sp.ivn a b c)) c /\ Sp.rad (-b * Sp.ivn a b c) c = Sp.prC (-(b * Sp.ivn a b c)) c)) \/ (false = true)) -> ((Sp.isCom b c (-b * Sp.ivn a b c) (Sp.rad (-b * Sp.ivn a b c) c)) -> (Sp.okO a b c /\ Sp.okO (a * Sp.ivn a b c) (-b * Sp.ivn a b c) (Sp.rad (-b * Sp.ivn a b c) c)) /\
       ((Sp.sgO (a * Sp.ivn a b c) (-b * Sp.ivn a b c) (Sp.rad (-b * Sp.ivn a b c) c) = 0) -> False) /\
       (¬(Sp.sgO (a * Sp.ivn a b c) (-b * Sp.ivn a b c) (Sp.rad (-b * Sp.ivn a b c) c) = 0) -> (Sp.okO (a * Sp.ivn a b c) (-b * Sp.ivn a b c) (Sp.rad (-b * Sp.ivn a b c) c) /\ Sp.nrm (a * Sp.ivn a b c) (-b * Sp.ivn a b c) (Sp.rad (-b * Sp.ivn a b c) c)) /\
        ((true = true) -> (Sp.inI 1)) /\
        (Sp.okO (a * (a * Sp.ivn a b c) + b * (-b * Sp.ivn a b c) * Sp.com b c (Sp.rad (-b * Sp.ivn a b c) c)) (a * (-b * Sp.ivn a b c) + b * (a * Sp.ivn a b c)) (Sp.rad (a * (-b * Sp.ivn a b c) + b * (a * Sp.ivn a b c)) (Sp.com b c (Sp.rad (-b * Sp.ivn a b c) c))) /\ Sp.okO (Sp.qi 1) (Sp.qi 0) (Sp.qi 0)) /\
        ((a * (a * Sp.ivn a b c) + b * (-b * Sp.ivn a b c) * Sp.com b c (Sp.rad (-b * Sp.ivn a b c) c) = Sp.qi 1 /\ a * (-b * Sp.ivn a b c) + b * (a * Sp.ivn a b c) = Sp.qi 0 /\ Sp.rad (a * (-b * Sp.ivn a b c) + b * (a * Sp.ivn a b c)) (Sp.com b c (Sp.rad (-b * Sp.ivn a b c) c)) = Sp.qi 0) -> (Sp.okO (a * Sp.ivn a b c * Sp.ivn (a * Sp.ivn a b c) (-b * Sp.ivn a b c) (Sp.rad (-b * Sp.ivn a b c) c)) (-(-b * Sp.ivn a b c) * Sp.ivn (a * Sp.ivn a b c) (-b * Sp.ivn a b c) (Sp.rad (-b * Sp.ivn a b c) c)) (Sp.rad (-(-b * Sp.ivn a b c) * Sp.ivn (a * Sp.ivn a b c) (-b * Sp.ivn a b c) (Sp.rad (-b * Sp.ivn a b c) c)) (Sp.rad (-b * Sp.ivn a b c) c)) /\ Sp.okO a b c)) /\
        vb (bif decide (a * (a * Sp.ivn a b c) + b * (-b * Sp.ivn a b c) * Sp.com b c (Sp.rad (-b * Sp.ivn a b c) c) = Sp.qi 1 /\ a * (-b * Sp.ivn a b c) + b * (a * Sp.ivn a b c) = Sp.qi 0 /\ Sp.rad (a * (-b * Sp.ivn a b c) + b * (a * Sp.ivn a b c)) (Sp.com b c (Sp.rad (-b * Sp.ivn a b c) c)) = Sp.qi 0) then decide (a * Sp.ivn a b c * Sp.ivn (a * Sp.ivn a b c) (-b * Sp.ivn a b c) (Sp.rad (-b * Sp.ivn a b c) c) = a /\ -(-b * Sp.ivn a b c) * Sp.ivn (a * Sp.ivn a b c) (-b * Sp.ivn a b c) (Sp.rad (-b * Sp.ivn a b c) c) = b /\ Sp.rad (-(-b * Sp.ivn a b c) * Sp.ivn (a * Sp.ivn a b c) (-b * Sp.ivn a b c) (Sp.rad (-b * Sp.ivn a b c) c)) (Sp.rad (-b * Sp.ivn a b c) c) = c) else false) = dq)) /\
      (¬(Sp.isCom b c (-b * Sp.ivn a b c) (Sp.rad (-b * Sp.ivn a b c) c)) -> (Sp.okO a b c /\ Sp.okO (a * Sp.ivn a b c) (-b * Sp.ivn a b c) (Sp.rad (-b * Sp.ivn a b c) c)) /\
       ((Sp.sgO (a * Sp.ivn a b c) (-b * Sp.ivn a b c) (Sp.rad (-b * Sp.ivn a b c) c) = 0) -> False) /\
       (¬(Sp.sgO (a * Sp.ivn a b c) (-b * Sp.ivn a b c) (Sp.rad (-b * Sp.ivn a b c) c) = 0) -> False))))))) :
 lwInv_at f1 f2 f3 f4 f5 f6 a b c (PureQ dq) := by
 unfold lwInv_at
 refine path_wp (G := given kp8 [(1, 0, .call (vb true) none), (1, 5, .call (vb (Sp.smR a b c)) none)] []) 5 [] ⟨(atC (cd Tryz.f8) [1, 0, 1]), [(1, AV.ptr 0 0 0 0), (18, vb !Sp.smR a b c)], [⟨[rootA f1 f2 f3 f4 f5 f6 a b c], 12, 0, false, false⟩], _, [], _⟩ (by kernel_rfl) (bc rfl b0) q0 (ce (@ev9 ) (ce (@ev10 (true) (f1) (f2) (f3) (f4) (f5) (f6) (a) (b) (c)) c0)) ?_
 rcases xm (¬(Sp.smR a b c = true)) with d2 | d2
 ·have H := H.1 d2
  exact path_re (G := given kp8 [(2, 0, .call (vb true) none)] []) 1000 [true] (asm := [(!Sp.smR a b c) == true]) (vb true) (by kernel_rfl) (bc (beq_t ((i_not (i_var _)).2 d2)) b0) q0 (ce (@ev9 ) c0) H
 ·have H := H.2 d2
  rcases xm (Sp.sgO a b c = 0) with d3 | d3
  ·have H := H.1 d3
   obtain ⟨k4, H⟩ := H
   rcases xm (Sp.sgP a b c = 0) with d5 | d5
   ·have H := H.1 d5
    exact path_re (G := given kp8 [(3, 1, .call zNyE5 none), (4, 1, .call zNyE5 none), (5, 4, .call (vb true) none)] []) 1000 [false, true] (asm := [(!Sp.smR a b c) == false, true, true, true, true, true, true, true == true]) (vb true) (by kernel_rfl) (bc (beq_f (fun h => d2 ((i_not (i_var _)).1 h))) (bc rfl (bc rfl (bc rfl (bc rfl (bc rfl (bc rfl (bc rfl b0)))))))) q0 (ce (@ev39_y (f1) (f2) (f3) (f4) (f5) (f6) (a) (b) (c) k4 d3) (ce (@ev40_y (f1) (f2) (f3) (f4) (f5) (f6) (a) (b) (c) k4 d5) (ce (@ev36_a (6) (6)) c0))) H
   ·have H := H.2 d5
    exact False.elim H
  ·have H := H.2 d3
   obtain ⟨k7, H⟩ := H
   rcases xm (Sp.sgP a b c = 0) with d8 | d8
   ·have H := H.1 d8
    exact False.elim H
   ·have H := H.2 d8
    obtain ⟨k10, H⟩ := H
    refine path_wp (G := given kp8 [(3, 1, .call (tu [rootF (a * Sp.ivn a b c) (-b * Sp.ivn a b c) (Sp.rad (-b * Sp.ivn a b c) c), vi 0]) none), (4, 1, .call (tu [rootF (a * Sp.ivn a b c) (Sp.prB (-(b * Sp.ivn a b c)) c) (Sp.prC (-(b * Sp.ivn a b c)) c), vi 0]) none), (5, 4, .call (vb (decide (a * Sp.ivn a b c = a * Sp.ivn a b c /\ -b * Sp.ivn a b c = Sp.prB (-(b * Sp.ivn a b c)) c /\ Sp.rad (-b * Sp.ivn a b c) c = Sp.prC (-(b * Sp.ivn a b c)) c))) none)] []) 9 [false] ⟨(atC (cd Tryz.f8) [1, 1, 1, 1, 0, 1]), [(1, AV.ptr 0 0 0 0), (3, AV.ptr 1 0 0 0), (4, vi 0), (6, vi 0), (39, vb (zNyE4 a b c))], [⟨[rootA f1 f2 f3 f4 f5 f6 a b c], 12, 0, false, false⟩, ⟨[rootF (a * Sp.ivn a b c) (-b * Sp.ivn a b c) (Sp.rad (-b * Sp.ivn a b c) c)], 12, 0, false, false⟩, ⟨[rootF (a * Sp.ivn a b c) (Sp.prB (-(b * Sp.ivn a b c)) c) (Sp.prC (-(b * Sp.ivn a b c)) c)], 12, 0, false, false⟩], [(!Sp.smR a b c) == false, true, true, true, true, true, true], [], _⟩ (by kernel_rfl) (bc (beq_f (fun h => d2 ((i_not (i_var _)).1 h))) (bc rfl (bc rfl (bc rfl (bc rfl (bc rfl (bc rfl b0))))))) q0 (ce (@ev39_n (f1) (f2) (f3) (f4) (f5) (f6) (a) (b) (c) k7 d3) (ce (@ev40_n (f1) (f2) (f3) (f4) (f5) (f6) (a) (b) (c) k7 d8) (ce (@ev36 (false) (false) (false) (false) (false) (false) (false) (false) (false) (false) (false) (false) (a * Sp.ivn a b c) (-b * Sp.ivn a b c) (Sp.rad (-b * Sp.ivn a b c) c) (a * Sp.ivn a b c) (Sp.prB (-(b * Sp.ivn a b c)) c) (Sp.prC (-(b * Sp.ivn a b c)) c) (0) (0) k10) c0))) ?_
    rcases xm ((¬(a * Sp.ivn a b c = a * Sp.ivn a b c /\ -b * Sp.ivn a b c = Sp.prB (-(b * Sp.ivn a b c)) c /\ Sp.rad (-b * Sp.ivn a b c) c = Sp.prC (-(b * Sp.ivn a b c)) c)) \/ (false = true)) with d12 | d12
    ·have H := H.1 d12
     exact path_re (G := given kp8 [] []) 1000 [true] (asm := [(zNyE4 a b c) == true]) (vb false) (by kernel_rfl) (bc (beq_t ((i_bor (i_not i_dec) (i_var _)).2 d12)) b0) q0 c0 H
    ·have H := H.2 d12
     rcases xm (Sp.isCom b c (-b * Sp.ivn a b c) (Sp.rad (-b * Sp.ivn a b c) c)) with d13 | d13
     ·have H := H.1 d13
      obtain ⟨k14, H⟩ := H
      rcases xm (Sp.sgO (a * Sp.ivn a b c) (-b * Sp.ivn a b c) (Sp.rad (-b * Sp.ivn a b c) c) = 0) with d15 | d15
      ·have H := H.1 d15
       exact False.elim H
      ·have H := H.2 d15
       obtain ⟨k21, H⟩ := H
       obtain ⟨k23, H⟩ := H
       obtain ⟨k24, H⟩ := H
       obtain ⟨k26, H⟩ := H
       exact path_re (G := given kp8 [(7, 2, .call (tu [rootF (a * (a * Sp.ivn a b c) + b * (-b * Sp.ivn a b c) * Sp.com b c (Sp.rad (-b * Sp.ivn a b c) c)) (a * (-b * Sp.ivn a b c) + b * (a * Sp.ivn a b c)) (zNyE6 a b c), vi 0]) none), (8, 1, .call (tu [rootF (a * Sp.ivn a b c * Sp.ivn (a * Sp.ivn a b c) (-b * Sp.ivn a b c) (Sp.rad (-b * Sp.ivn a b c) c)) (-(-b * Sp.ivn a b c) * Sp.ivn (a * Sp.ivn a b c) (-b * Sp.ivn a b c) (Sp.rad (-b * Sp.ivn a b c) c)) (zNyE2 b a c), vi 0]) none), (9, 8, .call (rootF (Sp.qi 1) (Sp.qi 0) (Sp.qi 0)) none), (9, 9, .call (vb (decide (a * (a * Sp.ivn a b c) + b * (-b * Sp.ivn a b c) * Sp.com b c (Sp.rad (-b * Sp.ivn a b c) c) = Sp.qi 1 /\ a * (-b * Sp.ivn a b c) + b * (a * Sp.ivn a b c) = Sp.qi 0 /\ Sp.rad (a * (-b * Sp.ivn a b c) + b * (a * Sp.ivn a b c)) (Sp.com b c (Sp.rad (-b * Sp.ivn a b c) c)) = Sp.qi 0))) none), (9, 14, .call (zNyE3 a b c) none)] []) 1000 [false] (asm := [(zNyE4 a b c) == false, true, true, true, true, true, true, !(decide (a * (a * Sp.ivn a b c) + b * (-b * Sp.ivn a b c) * Sp.com b c (Sp.rad (-b * Sp.ivn a b c) c) = Sp.qi 1 /\ a * (-b * Sp.ivn a b c) + b * (a * Sp.ivn a b c) = Sp.qi 0 /\ Sp.rad (a * (-b * Sp.ivn a b c) + b * (a * Sp.ivn a b c)) (Sp.com b c (Sp.rad (-b * Sp.ivn a b c) c)) = Sp.qi 0) == true && true) || true, !(decide (a * (a * Sp.ivn a b c) + b * (-b * Sp.ivn a b c) * Sp.com b c (Sp.rad (-b * Sp.ivn a b c) c) = Sp.qi 1 /\ a * (-b * Sp.ivn a b c) + b * (a * Sp.ivn a b c) = Sp.qi 0 /\ Sp.rad (a * (-b * Sp.ivn a b c) + b * (a * Sp.ivn a b c)) (Sp.com b c (Sp.rad (-b * Sp.ivn a b c) c)) = Sp.qi 0) == true && true) || true]) (calls := [⟨true, false, 37, [rootA f1 f2 f3 f4 f5 f6 a b c, rootF (a * Sp.ivn a b c) (-b * Sp.ivn a b c) (Sp.rad (-b * Sp.ivn a b c) c)], [], tu [rootF (a * (a * Sp.ivn a b c) + b * (-b * Sp.ivn a b c) * Sp.com b c (Sp.rad (-b * Sp.ivn a b c) c)) (a * (-b * Sp.ivn a b c) + b * (a * Sp.ivn a b c)) (zNyE6 a b c), vi 0], []⟩, ⟨true, false, 39, [rootF (a * Sp.ivn a b c) (-b * Sp.ivn a b c) (Sp.rad (-b * Sp.ivn a b c) c)], [], tu [rootF (a * Sp.ivn a b c * Sp.ivn (a * Sp.ivn a b c) (-b * Sp.ivn a b c) (Sp.rad (-b * Sp.ivn a b c) c)) (-(-b * Sp.ivn a b c) * Sp.ivn (a * Sp.ivn a b c) (-b * Sp.ivn a b c) (Sp.rad (-b * Sp.ivn a b c) c)) (zNyE2 b a c), vi 0], []⟩, ⟨true == true && true && true, false, 41, [vi 1], [], rootF (Sp.qi 1) (Sp.qi 0) (Sp.qi 0), []⟩, ⟨true, false, 22, [rootF (a * (a * Sp.ivn a b c) + b * (-b * Sp.ivn a b c) * Sp.com b c (Sp.rad (-b * Sp.ivn a b c) c)) (a * (-b * Sp.ivn a b c) + b * (a * Sp.ivn a b c)) (zNyE6 a b c), rootF (Sp.qi 1) (Sp.qi 0) (Sp.qi 0)], [], vb (decide (a * (a * Sp.ivn a b c) + b * (-b * Sp.ivn a b c) * Sp.com b c (Sp.rad (-b * Sp.ivn a b c) c) = Sp.qi 1 /\ a * (-b * Sp.ivn a b c) + b * (a * Sp.ivn a b c) = Sp.qi 0 /\ Sp.rad (a * (-b * Sp.ivn a b c) + b * (a * Sp.ivn a b c)) (Sp.com b c (Sp.rad (-b * Sp.ivn a b c) c)) = Sp.qi 0)), []⟩, ⟨decide (a * (a * Sp.ivn a b c) + b * (-b * Sp.ivn a b c) * Sp.com b c (Sp.rad (-b * Sp.ivn a b c) c) = Sp.qi 1 /\ a * (-b * Sp.ivn a b c) + b * (a * Sp.ivn a b c) = Sp.qi 0 /\ Sp.rad (a * (-b * Sp.ivn a b c) + b * (a * Sp.ivn a b c)) (Sp.com b c (Sp.rad (-b * Sp.ivn a b c) c)) = Sp.qi 0) == true && true && true, false, 22, [rootF (a * Sp.ivn a b c * Sp.ivn (a * Sp.ivn a b c) (-b * Sp.ivn a b c) (Sp.rad (-b * Sp.ivn a b c) c)) (-(-b * Sp.ivn a b c) * Sp.ivn (a * Sp.ivn a b c) (-b * Sp.ivn a b c) (Sp.rad (-b * Sp.ivn a b c) c)) (zNyE2 b a c), rootA f1 f2 f3 f4 f5 f6 a b c], [], vb (decide (a * Sp.ivn a b c * Sp.ivn (a * Sp.ivn a b c) (-b * Sp.ivn a b c) (Sp.rad (-b * Sp.ivn a b c) c) = a /\ -(-b * Sp.ivn a b c) * Sp.ivn (a * Sp.ivn a b c) (-b * Sp.ivn a b c) (Sp.rad (-b * Sp.ivn a b c) c) = b /\ Sp.rad (-(-b * Sp.ivn a b c) * Sp.ivn (a * Sp.ivn a b c) (-b * Sp.ivn a b c) (Sp.rad (-b * Sp.ivn a b c) c)) (Sp.rad (-b * Sp.ivn a b c) c) = c)), []⟩]) (vb (bif decide (a * (a * Sp.ivn a b c) + b * (-b * Sp.ivn a b c) * Sp.com b c (Sp.rad (-b * Sp.ivn a b c) c) = Sp.qi 1 /\ a * (-b * Sp.ivn a b c) + b * (a * Sp.ivn a b c) = Sp.qi 0 /\ Sp.rad (a * (-b * Sp.ivn a b c) + b * (a * Sp.ivn a b c)) (Sp.com b c (Sp.rad (-b * Sp.ivn a b c) c)) = Sp.qi 0) then decide (a * Sp.ivn a b c * Sp.ivn (a * Sp.ivn a b c) (-b * Sp.ivn a b c) (Sp.rad (-b * Sp.ivn a b c) c) = a /\ -(-b * Sp.ivn a b c) * Sp.ivn (a * Sp.ivn a b c) (-b * Sp.ivn a b c) (Sp.rad (-b * Sp.ivn a b c) c) = b /\ Sp.rad (-(-b * Sp.ivn a b c) * Sp.ivn (a * Sp.ivn a b c) (-b * Sp.ivn a b c) (Sp.rad (-b * Sp.ivn a b c) c)) (Sp.rad (-b * Sp.ivn a b c) c) = c) else false)) (by kernel_rfl) (bc (beq_f (fun h => d12 ((i_bor (i_not i_dec) (i_var _)).1 h))) (bc rfl (bc rfl (bc rfl (bc rfl (bc rfl (bc rfl (bc (Bool.or_true _) (bc (Bool.or_true _) b0))))))))) q0 (cc (fun _ => (@ev37_y (f1) (f2) (f3) (f4) (f5) (f6) (false) (false) (false) (false) (false) (false) (a) (b) (c) (a * Sp.ivn a b c) (-b * Sp.ivn a b c) (Sp.rad (-b * Sp.ivn a b c) c) k14 d13)) (cc (fun _ => (@ev39_n (false) (false) (false) (false) (false) (false) (a * Sp.ivn a b c) (-b * Sp.ivn a b c) (Sp.rad (-b * Sp.ivn a b c) c) k21 d15)) (cc (fun hc => ((@ev41 (1) (k23 ((i_at (i_at (i_bt (i_var _)))).1 hc))) : Ev M1 (Conf.pure 41 [vi 1]) (rootF (Sp.qi 1) (Sp.qi 0) (Sp.qi 0)) [])) (cc (fun _ => (@ev22 (false) (false) (false) (false) (false) (false) (false) (false) (false) (false) (false) (false) (a * (a * Sp.ivn a b c) + b * (-b * Sp.ivn a b c) * Sp.com b c (Sp.rad (-b * Sp.ivn a b c) c)) (a * (-b * Sp.ivn a b c) + b * (a * Sp.ivn a b c)) (zNyE6 a b c) (Sp.qi 1) (Sp.qi 0) (Sp.qi 0) k24)) (cc (fun hc => ((@ev22 (false) (false) (false) (false) (false) (false) (f1) (f2) (f3) (f4) (f5) (f6) (a * Sp.ivn a b c * Sp.ivn (a * Sp.ivn a b c) (-b * Sp.ivn a b c) (Sp.rad (-b * Sp.ivn a b c) c)) (-(-b * Sp.ivn a b c) * Sp.ivn (a * Sp.ivn a b c) (-b * Sp.ivn a b c) (Sp.rad (-b * Sp.ivn a b c) c)) (zNyE2 b a c) (a) (b) (c) (k26 ((i_at (i_at (i_bt i_dec))).1 hc))) : Ev M1 (Conf.pure 22 [rootF (a * Sp.ivn a b c * Sp.ivn (a * Sp.ivn a b c) (-b * Sp.ivn a b c) (Sp.rad (-b * Sp.ivn a b c) c)) (-(-b * Sp.ivn a b c) * Sp.ivn (a * Sp.ivn a b c) (-b * Sp.ivn a b c) (Sp.rad (-b * Sp.ivn a b c) c)) (zNyE2 b a c), rootA f1 f2 f3 f4 f5 f6 a b c]) (zNyE3 a b c) [])) c0))))) H
     ·have H := H.2 d13
      obtain ⟨k27, H⟩ := H
      rcases xm (Sp.sgO (a * Sp.ivn a b c) (-b * Sp.ivn a b c) (Sp.rad (-b * Sp.ivn a b c) c) = 0) with d28 | d28
      ·have H := H.1 d28
       exact False.elim H
      ·have H := H.2 d28
       exact False.elim H
theorem lwInvR (s1 t1 f1 g1 s2 t2 f2 g2 s3 t3 f3 g3 : Bool) (x1 y1 x2 y2 x3 y3 : List Int)  (dq : AV) (H :
  (Sp.okU3 4 x1 y1 x2 y2 x3 y3) /\
  ((¬(Sp.smOB 4 s1 x1 t1 y1 s2 x2 t2 y2 s3 x3 t3 y3 = true)) -> vb true = dq) /\
  (¬(¬(Sp.smOB 4 s1 x1 t1 y1 s2 x2 t2 y2 s3 x3 t3 y3 = true)) -> False)) :
 lwInvR_at s1 t1 f1 g1 s2 t2 f2 g2 s3 t3 f3 g3 x1 y1 x2 y2 x3 y3 (PureQ dq) := by
 unfold lwInvR_at
 obtain ⟨k1, H⟩ := H
 refine path_wp (G := given kp8 [(1, 0, .call (vb true) none), (1, 5, .call (vb (Sp.smOB 4 s1 x1 t1 y1 s2 x2 t2 y2 s3 x3 t3 y3)) none)] []) 5 [] ⟨(atC (cd Tryz.f8) [1, 0, 1]), [(1, AV.ptr 0 0 0 0), (18, vb !Sp.smOB 4 s1 x1 t1 y1 s2 x2 t2 y2 s3 x3 t3 y3)], [⟨[ag [vb s1, AV.vec f1 1 (us x1), vb t1, AV.vec g1 1 (us y1), vb s2, AV.vec f2 1 (us x2), vb t2, AV.vec g2 1 (us y2), vb s3, AV.vec f3 1 (us x3), vb t3, AV.vec g3 1 (us y3)]], 12, 0, false, false⟩], _, [], _⟩ (by kernel_rfl) (bc rfl b0) q0 (ce (@ev9 ) (ce (@ev10_r (true) (s1) (t1) (f1) (g1) (s2) (t2) (f2) (g2) (s3) (t3) (f3) (g3) (x1) (y1) (x2) (y2) (x3) (y3) k1) c0)) ?_
 rcases xm (¬(Sp.smOB 4 s1 x1 t1 y1 s2 x2 t2 y2 s3 x3 t3 y3 = true)) with d3 | d3
 ·have H := H.1 d3
  exact path_re (G := given kp8 [(2, 0, .call (vb true) none)] []) 1000 [true] (asm := [(!Sp.smOB 4 s1 x1 t1 y1 s2 x2 t2 y2 s3 x3 t3 y3) == true]) (vb true) (by kernel_rfl) (bc (beq_t ((i_not (i_var _)).2 d3)) b0) q0 (ce (@ev9 ) c0) H
 ·have H := H.2 d3
  exact False.elim H
end Go.Av

namespace Go.Av
open Go.Proofs
end Go.Av

namespace Go.Av
open Go.Proofs
theorem okC_two : Sp.okC (Sp.qi 2) := by
 refine ⟨?_, nsq_int (n := 2) (r := 1) (by decide) (by decide)⟩
 have := (qi_num 2).1
 exact num_gt.1 (by omega)
theorem rad_zero (c : Rat) : Sp.rad 0 c = 0 := by unfold Sp.rad; rw [if_pos rfl, qi_zero]
theorem vroot_zero {b c : Rat} (h : Sp.vroot b c = true) (hb : b = 0) : c = 0 := by
 unfold Sp.vroot at h
 rw [if_pos hb] at h
 exact of_decide_eq_true h
theorem vroot_pos {b c : Rat} (h : Sp.vroot b c = true) (hb : b ≠ 0) : Sp.okC c := by
 unfold Sp.vroot at h
 rw [if_neg hb] at h
 simp only [decide_eq_true_eq] at h
 exact ⟨num_gt.1 h.1, h.2⟩
theorem vroot_ok {b c : Rat} (h : Sp.vroot b c = true) : ∃ C, Sp.okC C /\ c = Sp.rad b C := by
 by_cases hb : b = 0
 ·refine ⟨_, okC_two, ?_⟩
  rw [vroot_zero h hb, hb, rad_zero]
 ·exact ⟨c, vroot_pos h hb, (if_neg hb).symm⟩
theorem okC_ne {c : Rat} (h : Sp.okC c) : c ≠ 0 := by have := h.1; grind
theorem sq_rad (b c : Rat) : b * b * Sp.rad b c = b * b * c := by
 by_cases h : b = 0
 ·subst h; grind
 ·rw [show Sp.rad b c = c from if_neg h]
theorem sgO_rad (a b c : Rat) : Sp.sgO a b (Sp.rad b c) = Sp.sgO a b c := by
 unfold Sp.sgO; rw [sq_rad]
theorem sgP_rad {a b c : Rat} (h : Sp.okC c) : Sp.sgP a b (Sp.rad b c) = Sp.sgO a b c := by
 rw [<- sgP_eq h]
 unfold Sp.sgP Sp.sgP0; rw [sq_rad]
theorem pr_eq {b k : Rat} (h : k = 0 -> b = 0) : b = Sp.prB b k /\ Sp.rad b k = Sp.prC b k := by
 unfold Sp.prB Sp.prC Sp.rad
 by_cases hb : b = 0
 ·rw [if_pos (.inl hb), if_pos hb, if_pos (.inl hb), qi_zero]; exact ⟨hb, rfl⟩
 ·have hk : ¬(b = 0 \/ k = 0) := fun x => x.elim hb fun e => hb (h e)
  rw [if_neg hk, if_neg hb, if_neg hk]; exact ⟨rfl, rfl⟩
theorem okT_prB {k : Nat} {b c : Rat} (h : Sp.okT k b) : Sp.okT (k + 1) (Sp.prB b c) := by
 unfold Sp.prB; split
 ·exact okT_le okT_q0 (by omega)
 ·exact okT_le h (by omega)
theorem okT_prC {k : Nat} {b c : Rat} (h : Sp.okT k c) : Sp.okT (k + 1) (Sp.prC b c) := by
 unfold Sp.prC; split
 ·exact okT_le okT_q0 (by omega)
 ·exact okT_le h (by omega)
theorem okO_r {k : Nat} {a b c : Rat} (ha : Sp.okT k a) (hb : Sp.okT k b) (hc : Sp.okT k c) (hk : k <= 8000) : Sp.okO a b (Sp.rad b c) /\ Sp.okO a (Sp.prB b c) (Sp.prC b c) :=
 ⟨⟨okT_le ha (by omega), okT_le hb (by omega), okT_le (okT_rad hc) (by omega)⟩, ⟨okT_le ha (by omega), okT_le (okT_prB hb) (by omega), okT_le (okT_prC hc) (by omega)⟩⟩
end Go.Av

namespace Go.Av
open Go.Proofs
end Go.Av

namespace Go.Av
open Go.Proofs
theorem sgO_ne {a b c : Rat} (hc : Sp.okC c) (h : ¬(a = 0 /\ b = 0)) : Sp.sgO a b c ≠ 0 := by
 rcases tri (a * a - b * b * c) with k | k | k
 ·rw [sgO_neg k]
  intro e
  have hb := sgR_iff.2.1.1 e
  subst hb
  have := sq_nn a
  grind
 ·exact absurd k (norm_ne hc h)
 ·rw [sgO_pos hc.1 k]
  intro e
  have ha := sgR_iff.2.1.1 e
  subst ha
  have := mul_ge (sq_nn b) (show 0 <= c by have := hc.1; grind)
  grind
theorem qi_one : Sp.qi 1 = 1 := by rw [qi_eq]; rfl
theorem ivn_mul {a b c : Rat} (h : Sp.nrm a b c) : Sp.ivn a b c * (a * a - b * b * c) = 1 := by
 unfold Sp.ivn
 rw [Rat.div_def, qi_one, Rat.one_mul, Rat.mul_comm]
 exact Rat.mul_inv_cancel _ h
theorem inv_ok {a b c : Rat} (ha : Sp.okT 4 a /\ Sp.okT 4 b /\ Sp.okT 4 c) (hv : Sp.vroot b c = true) (f1 f2 f3 f4 f5 f6 : Bool) :
  Ev M1 (.pure 8 [rootA f1 f2 f3 f4 f5 f6 a b c]) (.bool true) [] := by
 obtain ⟨ha, hb, hc⟩ := ha
 have o1 := okT_O ha hb hc (by omega)
 obtain ⟨C, hC, hcC⟩ := vroot_ok hv
 have eP : Sp.sgP a b c = Sp.sgO a b c := by rw [hcC, sgP_rad hC, sgO_rad]
 refine call8 (lwInv _ _ _ _ _ _ _ _ _ _ ⟨fun _ => rfl, fun _ => ⟨fun k => ⟨o1, fun _ => rfl, fun n => n (eP.trans k)⟩, fun k => ?_⟩⟩)
 have hab : ¬(a = 0 /\ b = 0) := by
  rintro ⟨rfl, rfl⟩
  exact k (sgO_00 c)
 have hn : Sp.nrm a b c := by
  unfold Sp.nrm
  rw [hcC, sq_rad]
  exact norm_ne hC hab
 have ht := ivn_mul hn
 have oT := okT_ivn ha hb hc hn
 have ey : -(b * Sp.ivn a b c) = -b * Sp.ivn a b c := by grind
 rw [ey]
 have ht0 : Sp.ivn a b c ≠ 0 := by intro e; rw [e] at ht; grind
 generalize Sp.ivn a b c = t at *
 have hy0 : -b * t = 0 -> b = 0 := by
  intro e
  apply Classical.byContradiction
  intro hb0
  have h1 := sq_pos hb0
  have h2 := sq_pos ht0
  have h3 := mul_pp h1 h2
  have : (-b * t) * (-b * t) = b * b * (t * t) := by grind
  rw [e] at this
  grind
 have hKb : c = 0 -> b = 0 := by
  intro e
  apply Classical.byContradiction
  intro hb0
  rw [hcC] at e
  unfold Sp.rad at e
  rw [if_neg hb0] at e
  exact okC_ne hC e
 have hbK : b = 0 -> c = 0 := fun e => by rw [hcC, e, rad_zero]
 have ox : Sp.okT 28 (a * t) := okT_le (okT_mul ha oT) (by omega)
 have oy : Sp.okT 28 (-b * t) := okT_le (okT_mul (okT_neg hb) oT) (by omega)
 have k1 := okO_r (c := c) ox oy (okT_le hc (by omega)) (by omega)
 have oz : Sp.okT 29 (Sp.rad (-b * t) c) := okT_le (okT_rad hc) (by omega)
 have ez : Sp.rad (-b * t) c = c := by
  unfold Sp.rad
  by_cases h : -b * t = 0
  ·rw [if_pos h, qi_zero, hbK (hy0 h)]
  ·rw [if_neg h]
 have hcom : Sp.isCom b c (-b * t) (Sp.rad (-b * t) c) := .inr (.inr ez.symm)
 have eC2 : b * (-b * t) * Sp.com b c (Sp.rad (-b * t) c) = b * (-b * t) * c := by
  rw [ez]; unfold Sp.com; split <;> rfl
 have hne2 : ¬(a * t = 0 /\ -b * t = 0) := by
  rintro ⟨h1, h2⟩
  have hb0 := hy0 h2
  apply hab
  refine ⟨?_, hb0⟩
  apply Classical.byContradiction
  intro ha0
  have := mul_pp (sq_pos ha0) (sq_pos ht0)
  have e : (a * t) * (a * t) = a * a * (t * t) := by grind
  rw [h1] at e
  grind
 have hs2 : Sp.sgO (a * t) (-b * t) (Sp.rad (-b * t) c) ≠ 0 := by
  rw [sgO_rad]
  have : ∀ A, Sp.sgO A (-b * t) c = Sp.sgO A (-b * t) C := by
   intro A
   have h1 := sq_rad b C
   have : -b * t * (-b * t) * c = -b * t * (-b * t) * C := by rw [hcC]; grind
   unfold Sp.sgO; rw [this]
  rw [this]
  exact sgO_ne hC hne2
 have hn2 : Sp.nrm (a * t) (-b * t) (Sp.rad (-b * t) c) := by
  unfold Sp.nrm
  rw [ez]
  have e : a * t * (a * t) - -b * t * (-b * t) * c = t * (t * (a * a - b * b * c)) := by grind
  rw [e, ht, Rat.mul_one]; exact ht0
 have ht2 := ivn_mul hn2
 have oT2 := okT_ivn (k := 29) (okT_le ox (by omega)) (okT_le oy (by omega)) oz hn2
 generalize Sp.ivn (a * t) (-b * t) (Sp.rad (-b * t) c) = t2 at *
 rw [ez] at ht2
 have e2 : a * t * (a * t) - -b * t * (-b * t) * c = t := by
  have e : a * t * (a * t) - -b * t * (-b * t) * c = t * (t * (a * a - b * b * c)) := by grind
  rw [e, ht, Rat.mul_one]
 rw [e2] at ht2
 have q1 : Sp.okT 3 (Sp.qi 1) := okT_int (by unfold Sp.inI; omega)
 have q0 := okT_q0
 have oc : Sp.okT 29 (Sp.com b c (Sp.rad (-b * t) c)) := okT_com (okT_le hc (by omega)) oz
 have p1 := okT_add (okT_mul ha ox) (okT_mul (okT_mul hb oy) oc)
 have p2 := okT_add (okT_mul ha oy) (okT_mul hb ox)
 have p3 := okT_rad (b := a * (-b * t) + b * (a * t)) oc
 have r1 : a * (a * t) + b * (-b * t) * Sp.com b c (Sp.rad (-b * t) c) = Sp.qi 1 := by
  rw [eC2, qi_one, <- ht]; grind
 have r2 : a * (-b * t) + b * (a * t) = Sp.qi 0 := by rw [qi_zero]; grind
 have r3 : Sp.rad (a * (-b * t) + b * (a * t)) (Sp.com b c (Sp.rad (-b * t) c)) = Sp.qi 0 := by
  rw [r2]; unfold Sp.rad; rw [if_pos qi_zero]
 have e := pr_eq (b := -b * t) (k := c) fun h => by rw [hKb h]; grind
 have u1 : a * t * t2 = a := by
  have : a * t * t2 = a * (t2 * t) := by grind
  rw [this, ht2, Rat.mul_one]
 have u2 : -(-b * t) * t2 = b := by
  have : -(-b * t) * t2 = b * (t2 * t) := by grind
  rw [this, ht2, Rat.mul_one]
 have u3 : Sp.rad (-(-b * t) * t2) (Sp.rad (-b * t) c) = c := by
  rw [u2, ez]
  unfold Sp.rad
  by_cases h : b = 0
  ·rw [if_pos h, qi_zero, hbK h]
  ·rw [if_neg h]
 have v1 := okT_mul ox oT2
 have v2 := okT_mul (okT_neg oy) oT2
 have v3 := okT_rad (b := -(-b * t) * t2) oz
 refine ⟨⟨o1, hn⟩, fun n => k (eP.symm.trans n), fun _ => ⟨k1, fun x => ?_, fun _ => ⟨fun _ => ⟨⟨o1, k1.1⟩, fun n => hs2 n, fun _ => ⟨⟨k1.1, hn2⟩, fun _ => by unfold Sp.inI; omega, ⟨⟨okT_le p1 (by omega), okT_le p2 (by omega), okT_le p3 (by omega)⟩, ⟨okT_le q1 (by omega), okT_le q0 (by omega), okT_le q0 (by omega)⟩⟩, fun _ => ⟨⟨okT_le v1 (by omega), okT_le v2 (by omega), okT_le v3 (by omega)⟩, o1⟩, ?_⟩⟩, fun n => absurd hcom n⟩⟩⟩
 ·rcases x with x | x
  ·exact absurd ⟨rfl, e.1, e.2⟩ x
  ·exact absurd x (by decide)
 ·rw [decide_eq_true ⟨r1, r2, r3⟩, decide_eq_true ⟨u1, u2, u3⟩]; rfl
end Go.Av

namespace Go.Av
open Go.Proofs
theorem ev8 (s1 t1 f1 g1 s2 t2 f2 g2 s3 t3 f3 g3 : Bool) (x1 y1 x2 y2 x3 y3 : List Int) (h : Sp.okU3 4 x1 y1 x2 y2 x3 y3) : Ev M1 (.pure 8 [.agg [.bool s1, .vec f1 1 (x1.map (.int .u32)), .bool t1, .vec g1 1 (y1.map (.int .u32)), .bool s2, .vec f2 1 (x2.map (.int .u32)), .bool t2, .vec g2 1 (y2.map (.int .u32)), .bool s3, .vec f3 1 (x3.map (.int .u32)), .bool t3, .vec g3 1 (y3.map (.int .u32))]]) (.bool true) [] := by
 by_cases k1 : Sp.smOB 4 s1 x1 t1 y1 s2 x2 t2 y2 s3 x3 t3 y3 = true
 ·obtain ⟨a, b, c, ha, va, ⟨rfl, rfl, rfl, rfl⟩, ⟨rfl, rfl, rfl, rfl⟩, rfl, rfl, rfl, rfl⟩ := smOB_rat k1
  exact inv_ok ha va _ _ _ _ _ _
 ·exact call8 (lwInvR _ _ _ _ _ _ _ _ _ _ _ _ _ _ _ _ _ _ _ ⟨h, fun _ => rfl, fun k => absurd k1 k⟩)
end Go.Av
