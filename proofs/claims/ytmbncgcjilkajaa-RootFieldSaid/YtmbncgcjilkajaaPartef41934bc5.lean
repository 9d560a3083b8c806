/- PART 6 of the texts of a claim, joined by a program: what each part shows stands at its head. -/
import Derived.Test.YtmbncgcjilkajaaPartc3103ca4c3

namespace Go.Av
open Go.Proofs
theorem ev12 (f1 f2 : Bool) (a : Rat) : Ev M1 (.pure 12 [ratA f1 f2 a]) (rootF a (Sp.qi 0) (Sp.qi 0)) [] :=
  call12 (oFrom _ _ _ _ (weak_root a (Sp.qi 0) (Sp.qi 0)))
theorem ev13 (f1 f2 : Bool) (a : Rat) : Ev M1 (.pure 13 [ratA f1 f2 a]) (rootF a (Sp.qi 0) (Sp.qi 0)) [] :=
  call13 (pFrom _ _ _ _ (weak_root a (Sp.qi 0) (Sp.qi 0)))
noncomputable def Sp.rad (b c : Rat) : Rat := if b = 0 then Sp.qi 0 else c
theorem ev35 (f1 f2 f3 f4 f5 f6 : Bool) (a b c : Rat) : Ev M1 (.pure 35 [ratA f1 f2 a, ratA f3 f4 b, ratA f5 f6 c]) (rootF a b (Sp.rad b c)) [] := by
  refine call35 (oRed _ _ _ _ _ _ _ _ _ _ ⟨fun k => ?_, fun k => ?_⟩)
  · rw [show Sp.rad b c = Sp.qi 0 from if_pos (sgn_num.1 k)]; exact weak_root a b (Sp.qi 0)
  · rw [show Sp.rad b c = c from if_neg fun e => k (sgn_num.2 e)]; exact weak_root a b c
def Sp.sgR (r : Rat) : Int := Sp.sgnI r.num
noncomputable def Sp.sgO (a b c : Rat) : Int := if Sp.sgR b = 0 ∨ Sp.sgR a = Sp.sgR b then Sp.sgR a else if Sp.sgR a = 0 then Sp.sgR b else Sp.sgR a * Sp.sgR (a * a - b * b * c)
theorem sgnI_le (n : Int) : -1 ≤ Sp.sgnI n ∧ Sp.sgnI n ≤ 1 := by
  unfold Sp.sgnI
  (repeat' split) <;> omega
theorem sgn_bound {x y : Int} (hx : -1 ≤ x ∧ x ≤ 1) (hy : -1 ≤ y ∧ y ≤ 1) : -1 ≤ x * y ∧ x * y ≤ 1 := by
  obtain ⟨x1, x2⟩ := hx
  rcases (by omega : x = -1 ∨ x = 0 ∨ x = 1) with e | e | e <;> subst e <;> omega
theorem ev29 (f1 f2 f3 f4 f5 f6 : Bool) (a b c : Rat) (h : Sp.okO a b c) : Ev M1 (.pure 29 [rootA f1 f2 f3 f4 f5 f6 a b c]) (.int .i64 (Sp.sgO a b c)) [] := by
  refine call29 (oSign _ _ _ _ _ _ _ _ _ _ ⟨fun k => ?_, fun k => ⟨fun k2 => ?_, fun k2 => ⟨h, ?_, ?_⟩⟩⟩)
  · unfold Sp.sgO Sp.sgR; rw [if_pos k]
  · unfold Sp.sgO Sp.sgR; rw [if_neg k, if_pos k2]
  · have := sgn_bound (sgnI_le a.num) (sgnI_le (a * a - b * b * c).num)
    omega
  · unfold Sp.sgO Sp.sgR; rw [if_neg k, if_neg k2]
end Go.Av

namespace Go.Av
open Go.Proofs
set_option maxRecDepth 100000
def fi8 : Fi := ⟨30, [.cell 6 30, .tmp 7]⟩
def kp8 : List (Nat × List Nat) := [(0, [3, 4, 5, 6]), (1, [3, 4, 5, 6, 12]), (2, [6, 7]), (3, [3, 4, 5, 6, 8, 9]), (4, [3, 4, 5, 6, 8, 19]), (5, [6, 7]), (6, [6, 7])]
def fi20 : Fi := ⟨29, [.cell 4 30, .tmp 5]⟩
def kp20 : List (Nat × List Nat) := [(0, [2, 3, 4]), (1, [2, 3, 4, 6, 7]), (2, [2, 3, 4, 6, 15]), (3, [4, 5]), (4, [4, 5])]
def fi21 : Fi := ⟨47, [.cell 4 30, .tmp 5]⟩
def kp21 : List (Nat × List Nat) := [(0, [2, 3, 4]), (1, [2, 3, 4, 6, 7]), (2, [2, 3, 4, 6, 17]), (3, [4, 5]), (4, [2, 3, 4, 6, 8]), (5, [4, 6, 8, 9]), (6, [4, 5])]
def fi25 : Fi := ⟨6, [.cell 2 30]⟩
def kp25 : List (Nat × List Nat) := [(0, [0, 2]), (1, [2])]
def fi28 : Fi := ⟨69, [.cell 2 24]⟩
def kp28 : List (Nat × List Nat) := [(0, [1, 2]), (1, [1, 2, 15]), (2, [2]), (3, [1, 2, 3]), (4, [1, 2, 3, 4, 5]), (5, [1, 2, 4, 5, 6]), (6, [1, 2, 4, 5, 7]), (7, [1, 2, 4, 5, 7, 48]), (8, [1, 2, 4, 5, 7]), (9, [2, 9]), (10, [2])]
def fi40 : Fi := ⟨21, [.cell 6 30]⟩
def kp40 : List (Nat × List Nat) := [(0, [3, 4, 5, 6]), (1, [3, 4, 5, 6, 14]), (2, [6]), (3, [6])]
def fi52 : Fi := ⟨16, [.cell 4 30]⟩
def kp52 : List (Nat × List Nat) := [(0, [2, 3, 4]), (1, [4])]
def pRed_at (f1 f2 f3 f4 f5 f6 : Bool) (a b c : Rat) (Q : AV → Heap → Prop) : Prop := Wp M1 (.run fi40 (atC (cd Try.f40) []) [(0, .agg [.bool (Sp.isNeg a.num), .vec f1 1 ((Sp.limI a.num).map (.int .u32)), .bool (Sp.isNeg (a.den : Int)), .vec f2 1 ((Sp.limI (a.den : Int)).map (.int .u32))]), (1, .agg [.bool (Sp.isNeg b.num), .vec f3 1 ((Sp.limI b.num).map (.int .u32)), .bool (Sp.isNeg (b.den : Int)), .vec f4 1 ((Sp.limI (b.den : Int)).map (.int .u32))]), (2, .agg [.bool (Sp.isNeg c.num), .vec f5 1 ((Sp.limI c.num).map (.int .u32)), .bool (Sp.isNeg (c.den : Int)), .vec f6 1 ((Sp.limI (c.den : Int)).map (.int .u32))])] []) Q
def pInt_at (n : Int) (Q : AV → Heap → Prop) : Prop := Wp M1 (.run fi25 (atC (cd Try.f25) []) [(0, .int .i64 n)] []) Q
def oMake_at (f1 f2 f3 f4 f5 f6 : Bool) (a b c : Rat) (Q : AV → Heap → Prop) : Prop := Wp M1 (.run fi8 (atC (cd Try.f8) []) [(0, .agg [.bool (Sp.isNeg a.num), .vec f1 1 ((Sp.limI a.num).map (.int .u32)), .bool (Sp.isNeg (a.den : Int)), .vec f2 1 ((Sp.limI (a.den : Int)).map (.int .u32))]), (1, .agg [.bool (Sp.isNeg b.num), .vec f3 1 ((Sp.limI b.num).map (.int .u32)), .bool (Sp.isNeg (b.den : Int)), .vec f4 1 ((Sp.limI (b.den : Int)).map (.int .u32))]), (2, .agg [.bool (Sp.isNeg c.num), .vec f5 1 ((Sp.limI c.num).map (.int .u32)), .bool (Sp.isNeg (c.den : Int)), .vec f6 1 ((Sp.limI (c.den : Int)).map (.int .u32))])] []) Q
def oAdd_at (f1 f2 f3 f4 f5 f6 g1 g2 g3 g4 g5 g6 : Bool) (a b c x y z : Rat) (Q : AV → Heap → Prop) : Prop := Wp M1 (.run fi20 (atC (cd Try.f20) []) [(0, .agg [.bool (Sp.isNeg a.num), .vec f1 1 ((Sp.limI a.num).map (.int .u32)), .bool (Sp.isNeg (a.den : Int)), .vec f2 1 ((Sp.limI (a.den : Int)).map (.int .u32)), .bool (Sp.isNeg b.num), .vec f3 1 ((Sp.limI b.num).map (.int .u32)), .bool (Sp.isNeg (b.den : Int)), .vec f4 1 ((Sp.limI (b.den : Int)).map (.int .u32)), .bool (Sp.isNeg c.num), .vec f5 1 ((Sp.limI c.num).map (.int .u32)), .bool (Sp.isNeg (c.den : Int)), .vec f6 1 ((Sp.limI (c.den : Int)).map (.int .u32))]), (1, .agg [.bool (Sp.isNeg x.num), .vec g1 1 ((Sp.limI x.num).map (.int .u32)), .bool (Sp.isNeg (x.den : Int)), .vec g2 1 ((Sp.limI (x.den : Int)).map (.int .u32)), .bool (Sp.isNeg y.num), .vec g3 1 ((Sp.limI y.num).map (.int .u32)), .bool (Sp.isNeg (y.den : Int)), .vec g4 1 ((Sp.limI (y.den : Int)).map (.int .u32)), .bool (Sp.isNeg z.num), .vec g5 1 ((Sp.limI z.num).map (.int .u32)), .bool (Sp.isNeg (z.den : Int)), .vec g6 1 ((Sp.limI (z.den : Int)).map (.int .u32))])] []) Q
def oMul_at (f1 f2 f3 f4 f5 f6 g1 g2 g3 g4 g5 g6 : Bool) (a b c x y z : Rat) (Q : AV → Heap → Prop) : Prop := Wp M1 (.run fi21 (atC (cd Try.f21) []) [(0, .agg [.bool (Sp.isNeg a.num), .vec f1 1 ((Sp.limI a.num).map (.int .u32)), .bool (Sp.isNeg (a.den : Int)), .vec f2 1 ((Sp.limI (a.den : Int)).map (.int .u32)), .bool (Sp.isNeg b.num), .vec f3 1 ((Sp.limI b.num).map (.int .u32)), .bool (Sp.isNeg (b.den : Int)), .vec f4 1 ((Sp.limI (b.den : Int)).map (.int .u32)), .bool (Sp.isNeg c.num), .vec f5 1 ((Sp.limI c.num).map (.int .u32)), .bool (Sp.isNeg (c.den : Int)), .vec f6 1 ((Sp.limI (c.den : Int)).map (.int .u32))]), (1, .agg [.bool (Sp.isNeg x.num), .vec g1 1 ((Sp.limI x.num).map (.int .u32)), .bool (Sp.isNeg (x.den : Int)), .vec g2 1 ((Sp.limI (x.den : Int)).map (.int .u32)), .bool (Sp.isNeg y.num), .vec g3 1 ((Sp.limI y.num).map (.int .u32)), .bool (Sp.isNeg (y.den : Int)), .vec g4 1 ((Sp.limI (y.den : Int)).map (.int .u32)), .bool (Sp.isNeg z.num), .vec g5 1 ((Sp.limI z.num).map (.int .u32)), .bool (Sp.isNeg (z.den : Int)), .vec g6 1 ((Sp.limI (z.den : Int)).map (.int .u32))])] []) Q
def oScale_at (f1 f2 f3 f4 f5 f6 : Bool) (k l : Bool) (a b c r : Rat) (Q : AV → Heap → Prop) : Prop := Wp M1 (.run fi52 (atC (cd Try.f52) []) [(0, .agg [.bool (Sp.isNeg a.num), .vec f1 1 ((Sp.limI a.num).map (.int .u32)), .bool (Sp.isNeg (a.den : Int)), .vec f2 1 ((Sp.limI (a.den : Int)).map (.int .u32)), .bool (Sp.isNeg b.num), .vec f3 1 ((Sp.limI b.num).map (.int .u32)), .bool (Sp.isNeg (b.den : Int)), .vec f4 1 ((Sp.limI (b.den : Int)).map (.int .u32)), .bool (Sp.isNeg c.num), .vec f5 1 ((Sp.limI c.num).map (.int .u32)), .bool (Sp.isNeg (c.den : Int)), .vec f6 1 ((Sp.limI (c.den : Int)).map (.int .u32))]), (1, .agg [.bool (Sp.isNeg r.num), .vec k 1 ((Sp.limI r.num).map (.int .u32)), .bool (Sp.isNeg (r.den : Int)), .vec l 1 ((Sp.limI (r.den : Int)).map (.int .u32))])] []) Q
def oFloor_at (f1 f2 f3 f4 f5 f6 : Bool) (a b c : Rat) (Q : AV → Heap → Prop) : Prop := Wp M1 (.run fi28 (atC (cd Try.f28) []) [(0, .agg [.bool (Sp.isNeg a.num), .vec f1 1 ((Sp.limI a.num).map (.int .u32)), .bool (Sp.isNeg (a.den : Int)), .vec f2 1 ((Sp.limI (a.den : Int)).map (.int .u32)), .bool (Sp.isNeg b.num), .vec f3 1 ((Sp.limI b.num).map (.int .u32)), .bool (Sp.isNeg (b.den : Int)), .vec f4 1 ((Sp.limI (b.den : Int)).map (.int .u32)), .bool (Sp.isNeg c.num), .vec f5 1 ((Sp.limI c.num).map (.int .u32)), .bool (Sp.isNeg (c.den : Int)), .vec f6 1 ((Sp.limI (c.den : Int)).map (.int .u32))])] []) Q
theorem call8 {args : List AV} {d : AV} (h : Wp M1 (.run fi8 [.code (cd Try.f8)] (argVars 0 args) []) (PureQ d)) : Ev M1 (.pure 8 args) d [] :=
  pure_pq Try.f8 fi8 (by kernel_rfl) (by kernel_rfl) (by kernel_rfl) (by kernel_rfl) h
theorem call20 {args : List AV} {d : AV} (h : Wp M1 (.run fi20 [.code (cd Try.f20)] (argVars 0 args) []) (PureQ d)) : Ev M1 (.pure 20 args) d [] :=
  pure_pq Try.f20 fi20 (by kernel_rfl) (by kernel_rfl) (by kernel_rfl) (by kernel_rfl) h
theorem call21 {args : List AV} {d : AV} (h : Wp M1 (.run fi21 [.code (cd Try.f21)] (argVars 0 args) []) (PureQ d)) : Ev M1 (.pure 21 args) d [] :=
  pure_pq Try.f21 fi21 (by kernel_rfl) (by kernel_rfl) (by kernel_rfl) (by kernel_rfl) h
theorem call25 {args : List AV} {d : AV} (h : Wp M1 (.run fi25 [.code (cd Try.f25)] (argVars 0 args) []) (PureQ d)) : Ev M1 (.pure 25 args) d [] :=
  pure_pq Try.f25 fi25 (by kernel_rfl) (by kernel_rfl) (by kernel_rfl) (by kernel_rfl) h
theorem call28 {args : List AV} {d : AV} (h : Wp M1 (.run fi28 [.code (cd Try.f28)] (argVars 0 args) []) (PureQ d)) : Ev M1 (.pure 28 args) d [] :=
  pure_pq Try.f28 fi28 (by kernel_rfl) (by kernel_rfl) (by kernel_rfl) (by kernel_rfl) h
theorem call40 {args : List AV} {d : AV} (h : Wp M1 (.run fi40 [.code (cd Try.f40)] (argVars 0 args) []) (PureQ d)) : Ev M1 (.pure 40 args) d [] :=
  pure_pq Try.f40 fi40 (by kernel_rfl) (by kernel_rfl) (by kernel_rfl) (by kernel_rfl) h
theorem call52 {args : List AV} {d : AV} (h : Wp M1 (.run fi52 [.code (cd Try.f52)] (argVars 0 args) []) (PureQ d)) : Ev M1 (.pure 52 args) d [] :=
  pure_pq Try.f52 fi52 (by kernel_rfl) (by kernel_rfl) (by kernel_rfl) (by kernel_rfl) h
theorem pRed (f1 f2 f3 f4 f5 f6 : Bool) (a b c : Rat)  (dq : AV) (H :
    (((Sp.sgnI b.num = 0) ∨ (Sp.sgnI c.num = 0)) -> Weak (rootF a (Sp.qi 0) (Sp.qi 0)) dq) /\
    (¬((Sp.sgnI b.num = 0) ∨ (Sp.sgnI c.num = 0)) -> Weak (rootA f1 f2 f3 f4 f5 f6 a b c) dq)) :
  pRed_at f1 f2 f3 f4 f5 f6 a b c (PureQ dq) := by
  unfold pRed_at
  refine path_wp (G := given kp40 [(1, 1, .call (vi (Sp.sgnI b.num)) none), (1, 5, .call (vi (Sp.sgnI c.num)) none)] []) 5 [] ⟨(atC (cd Try.f40) [1, 0, 1]), [(3, AV.ptr 0 0 0 0), (4, AV.ptr 1 0 0 0), (5, AV.ptr 2 0 0 0), (6, AV.ptr 3 0 0 0), (14, vb (bif Sp.sgnI b.num == 0 then true else Sp.sgnI c.num == 0))], [⟨[ratA f1 f2 a], 4, 0, false, false⟩, ⟨[ratA f3 f4 b], 4, 0, false, false⟩, ⟨[ratA f5 f6 c], 4, 0, false, false⟩, ⟨[ag [vb false, AV.vnil, vb false, AV.vnil, vb false, AV.vnil, vb false, AV.vnil, vb false, AV.vnil, vb false, AV.vnil]], 12, 0, false, false⟩], [true, !((Sp.sgnI b.num == 0) == false && true) || true], [], [⟨true, false, 36, [ratA f3 f4 b], [], vi (Sp.sgnI b.num), []⟩, ⟨(Sp.sgnI b.num == 0) == false && true && true, false, 36, [ratA f5 f6 c], [], vi (Sp.sgnI c.num), []⟩]⟩ (by kernel_rfl) (bc rfl (bc (Bool.or_true _) b0)) q0 (cc (fun _ => (@ev36 (f3) (f4) (b.num) ((↑b.den : Int)))) (cc (fun hc => ((@ev36 (f5) (f6) (c.num) ((↑c.den : Int))) : Ev M1 (Conf.pure 36 [ratA f5 f6 c]) (vi (Sp.sgnI c.num)) [])) c0)) ?_
  rcases xm ((Sp.sgnI b.num = 0) ∨ (Sp.sgnI c.num = 0)) with d3 | d3
  · have H := H.1 d3
    exact path_rq (G := given kp40 [(2, 1, .call (rootF a (Sp.qi 0) (Sp.qi 0)) none)] []) 1000 [true] (rootF a (Sp.qi 0) (Sp.qi 0)) (by kernel_rfl) (bc (beq_t ((i_bor i_eq i_eq).2 d3)) (bc rfl (bc rfl b0))) q0 (ce (@ev13 (f1) (f2) (a)) c0) H
  · have H := H.2 d3
    exact path_rq (G := given kp40 [] []) 1000 [false] (rootA f1 f2 f3 f4 f5 f6 a b c) (by kernel_rfl) (bc (beq_f (fun h => d3 ((i_bor i_eq i_eq).1 h))) (bc rfl (bc rfl (bc rfl (bc rfl b0))))) q0 c0 H
theorem pInt (n : Int)  (dq : AV) (H :
    (Sp.inI n) /\
    Weak (rootF (Sp.qi n) (Sp.qi 0) (Sp.qi 0)) dq) :
  pInt_at n (PureQ dq) := by
  unfold pInt_at
  obtain ⟨k1, H⟩ := H
  exact path_rq (G := given kp25 [(1, 1, .call (ratA false false (Sp.qi n)) none), (1, 2, .call (rootF (Sp.qi n) (Sp.qi 0) (Sp.qi 0)) none)] []) 1000 [] (rootF (Sp.qi n) (Sp.qi 0) (Sp.qi 0)) (by kernel_rfl) (bc rfl b0) q0 (ce (@ev22 (n) k1) (ce (@ev13 (false) (false) (Sp.qi n)) c0)) H
noncomputable abbrev zNxC1 := ag [vb false, AV.vnil, vb false, AV.vnil, vb false, AV.vnil, vb false, AV.vnil, vb false, AV.vnil, vb false, AV.vnil]
theorem oMake (f1 f2 f3 f4 f5 f6 : Bool) (a b c : Rat)  (dq : AV) (H :
    ((Sp.sgnI c.num < 0) -> Weak (tu [ag [vb false, AV.vnil, vb false, AV.vnil, vb false, AV.vnil, vb false, AV.vnil, vb false, AV.vnil, vb false, AV.vnil], vi 7]) dq) /\
    (¬(Sp.sgnI c.num < 0) -> ((Sp.rsq c) -> (Sp.okR c) /\
        (Sp.okR b /\ Sp.okR (Sp.rt c)) /\
        (Sp.okR a /\ Sp.okR (b * Sp.rt c)) /\
        Weak (tu [rootF (a + b * Sp.rt c) (Sp.qi 0) (Sp.qi 0), vi 0]) dq) /\
      (¬(Sp.rsq c) -> (Sp.okR c) /\
        Weak (tu [rootF a b (Sp.rad b c), vi 0]) dq))) :
  oMake_at f1 f2 f3 f4 f5 f6 a b c (PureQ dq) := by
  unfold oMake_at
  refine path_wp (G := given kp8 [(1, 1, .call (vi (Sp.sgnI c.num)) none)] []) 5 [] ⟨(atC (cd Try.f8) [1, 0, 1]), [(3, AV.ptr 0 0 0 0), (4, AV.ptr 1 0 0 0), (5, AV.ptr 2 0 0 0), (6, AV.ptr 3 0 0 0), (12, vb (decide (Sp.sgnI c.num < 0)))], [⟨[ratA f1 f2 a], 4, 0, false, false⟩, ⟨[ratA f3 f4 b], 4, 0, false, false⟩, ⟨[ratA f5 f6 c], 4, 0, false, false⟩, ⟨[zNxC1], 12, 0, false, false⟩], _, [], _⟩ (by kernel_rfl) (bc rfl b0) q0 (ce (@ev31 (f5) (f6) (c.num) ((↑c.den : Int))) c0) ?_
  rcases xm (Sp.sgnI c.num < 0) with d2 | d2
  · have H := H.1 d2
    exact path_rq (G := given kp8 [] []) 1000 [true] (tu [zNxC1, vi 7]) (by kernel_rfl) (bc (beq_t (i_dec.2 d2)) (bc rfl b0)) q0 c0 H
  · have H := H.2 d2
    rcases xm (Sp.rsq c) with d3 | d3
    · have H := H.1 d3
      obtain ⟨k4, H⟩ := H
      obtain ⟨k5, H⟩ := H
      obtain ⟨k6, H⟩ := H
      exact path_rq (G := given kp8 [(3, 1, .call (tu [ratA false false (Sp.rt c), vb true]) none), (5, 3, .call (ratA false false (b * Sp.rt c)) none), (5, 4, .call (ratA false false (a + b * Sp.rt c)) none), (5, 5, .call (rootF (a + b * Sp.rt c) (Sp.qi 0) (Sp.qi 0)) none)] []) 1000 [false, true] (tu [rootF (a + b * Sp.rt c) (Sp.qi 0) (Sp.qi 0), vi 0]) (by kernel_rfl) (bc (beq_f (fun h => d2 (i_dec.1 h))) (bc rfl (bc rfl (bc rfl (bc rfl (bc rfl (bc rfl (bc rfl b0)))))))) q0 (ce (@ev32_y (f5) (f6) (c) k4 d3) (ce (@ev34 (f3) (f4) (false) (false) (b) (Sp.rt c) k5) (ce (@ev33 (f1) (f2) (false) (false) (a) (b * Sp.rt c) k6) (ce (@ev12 (false) (false) (a + b * Sp.rt c)) c0)))) H
    · have H := H.2 d3
      obtain ⟨k7, H⟩ := H
      exact path_rq (G := given kp8 [(3, 1, .call (tu [ag [vb false, vf [], vb false, vf []], vb false]) none), (6, 3, .call (rootF a b (Sp.rad b c)) none)] []) 1000 [false, false] (tu [rootF a b (Sp.rad b c), vi 0]) (by kernel_rfl) (bc (beq_f (fun h => d2 (i_dec.1 h))) (bc rfl (bc rfl (bc rfl (bc rfl (bc rfl (bc rfl (bc rfl b0)))))))) q0 (ce (@ev32_n (f5) (f6) (c) k7 d3) (ce (@ev35 (f1) (f2) (f3) (f4) (f5) (f6) (a) (b) (c)) c0)) H
noncomputable abbrev zNxC10 := ag [vb false, AV.vnil, vb false, AV.vnil, vb false, AV.vnil, vb false, AV.vnil, vb false, AV.vnil, vb false, AV.vnil]
theorem oAdd (f1 f2 f3 f4 f5 f6 g1 g2 g3 g4 g5 g6 : Bool) (a b c x y z : Rat)  (dq : AV) (H :
    (Sp.okP c z) /\
    ((¬(Sp.isCom b c y z)) -> Weak (tu [ag [vb false, AV.vnil, vb false, AV.vnil, vb false, AV.vnil, vb false, AV.vnil, vb false, AV.vnil, vb false, AV.vnil], vi 1]) dq) /\
    (¬(¬(Sp.isCom b c y z)) -> (Sp.okR a /\ Sp.okR x) /\
      (Sp.okR b /\ Sp.okR y) /\
      Weak (tu [rootF (a + x) (b + y) (Sp.rad (b + y) (Sp.com b c z)), vi 0]) dq)) :
  oAdd_at f1 f2 f3 f4 f5 f6 g1 g2 g3 g4 g5 g6 a b c x y z (PureQ dq) := by
  unfold oAdd_at
  obtain ⟨k1, H⟩ := H
  refine path_wp (G := given kp20 [(1, 2, .call (tu [ratA false false (Sp.com b c z), vb (decide (Sp.isCom b c y z))]) none)] []) 7 [] ⟨(atC (cd Try.f20) [1, 1, 0, 1]), [(2, AV.ptr 0 0 0 0), (3, AV.ptr 1 0 0 0), (4, AV.ptr 2 0 0 0), (6, AV.ptr 3 0 0 0), (15, vb !decide (Sp.isCom b c y z))], [⟨[rootA f1 f2 f3 f4 f5 f6 a b c], 12, 0, false, false⟩, ⟨[rootA g1 g2 g3 g4 g5 g6 x y z], 12, 0, false, false⟩, ⟨[zNxC10], 12, 0, false, false⟩, ⟨[ratA false false (Sp.com b c z)], 4, 0, false, false⟩], _, [], _⟩ (by kernel_rfl) (bc rfl (bc rfl (bc rfl b0))) q0 (ce (@ev45 (f1) (f2) (f3) (f4) (f5) (f6) (g1) (g2) (g3) (g4) (g5) (g6) (a) (b) (c) (x) (y) (z) k1) c0) ?_
  rcases xm (¬(Sp.isCom b c y z)) with d3 | d3
  · have H := H.1 d3
    exact path_rq (G := given kp20 [] []) 1000 [true] (tu [zNxC10, vi 1]) (by kernel_rfl) (bc (beq_t ((i_not i_dec).2 d3)) (bc rfl b0)) q0 c0 H
  · have H := H.2 d3
    obtain ⟨k4, H⟩ := H
    obtain ⟨k5, H⟩ := H
    exact path_rq (G := given kp20 [(4, 4, .call (ratA false false (a + x)) none), (4, 9, .call (ratA false false (b + y)) none), (4, 11, .call (rootF (a + x) (b + y) (Sp.rad (b + y) (Sp.com b c z))) none)] []) 1000 [false] (tu [rootF (a + x) (b + y) (Sp.rad (b + y) (Sp.com b c z)), vi 0]) (by kernel_rfl) (bc (beq_f (fun h => d3 ((i_not i_dec).1 h))) (bc rfl (bc rfl (bc rfl (bc rfl (bc rfl (bc rfl b0))))))) q0 (ce (@ev33 (f1) (f2) (g1) (g2) (a) (x) k4) (ce (@ev33 (f3) (f4) (g3) (g4) (b) (y) k5) (ce (@ev35 (false) (false) (false) (false) (false) (false) (a + x) (b + y) (Sp.com b c z)) c0))) H
noncomputable abbrev zNxC11 := ag [vb false, AV.vnil, vb false, AV.vnil, vb false, AV.vnil, vb false, AV.vnil, vb false, AV.vnil, vb false, AV.vnil]
theorem oMul (f1 f2 f3 f4 f5 f6 g1 g2 g3 g4 g5 g6 : Bool) (a b c x y z : Rat)  (dq : AV) (H :
    (Sp.okP c z) /\
    ((¬(Sp.isCom b c y z)) -> Weak (tu [ag [vb false, AV.vnil, vb false, AV.vnil, vb false, AV.vnil, vb false, AV.vnil, vb false, AV.vnil, vb false, AV.vnil], vi 1]) dq) /\
    (¬(¬(Sp.isCom b c y z)) -> (Sp.okR a /\ Sp.okR x) /\
      (Sp.okR b /\ Sp.okR y) /\
      (Sp.okR (b * y) /\ Sp.okR (Sp.com b c z)) /\
      (Sp.okR (a * x) /\ Sp.okR (b * y * Sp.com b c z)) /\
      (Sp.okR a /\ Sp.okR y) /\
      (Sp.okR b /\ Sp.okR x) /\
      (Sp.okR (a * y) /\ Sp.okR (b * x)) /\
      Weak (tu [rootF (a * x + b * y * Sp.com b c z) (a * y + b * x) (Sp.rad (a * y + b * x) (Sp.com b c z)), vi 0]) dq)) :
  oMul_at f1 f2 f3 f4 f5 f6 g1 g2 g3 g4 g5 g6 a b c x y z (PureQ dq) := by
  unfold oMul_at
  obtain ⟨k1, H⟩ := H
  refine path_wp (G := given kp21 [(1, 2, .call (tu [ratA false false (Sp.com b c z), vb (decide (Sp.isCom b c y z))]) none)] []) 7 [] ⟨(atC (cd Try.f21) [1, 1, 0, 1]), [(2, AV.ptr 0 0 0 0), (3, AV.ptr 1 0 0 0), (4, AV.ptr 2 0 0 0), (6, AV.ptr 3 0 0 0), (17, vb !decide (Sp.isCom b c y z))], [⟨[rootA f1 f2 f3 f4 f5 f6 a b c], 12, 0, false, false⟩, ⟨[rootA g1 g2 g3 g4 g5 g6 x y z], 12, 0, false, false⟩, ⟨[zNxC11], 12, 0, false, false⟩, ⟨[ratA false false (Sp.com b c z)], 4, 0, false, false⟩], _, [], _⟩ (by kernel_rfl) (bc rfl (bc rfl (bc rfl b0))) q0 (ce (@ev45 (f1) (f2) (f3) (f4) (f5) (f6) (g1) (g2) (g3) (g4) (g5) (g6) (a) (b) (c) (x) (y) (z) k1) c0) ?_
  rcases xm (¬(Sp.isCom b c y z)) with d3 | d3
  · have H := H.1 d3
    exact path_rq (G := given kp21 [] []) 1000 [true] (tu [zNxC11, vi 1]) (by kernel_rfl) (bc (beq_t ((i_not i_dec).2 d3)) (bc rfl b0)) q0 c0 H
  · have H := H.2 d3
    obtain ⟨k4, H⟩ := H
    obtain ⟨k5, H⟩ := H
    obtain ⟨k6, H⟩ := H
    obtain ⟨k7, H⟩ := H
    obtain ⟨k8, H⟩ := H
    obtain ⟨k9, H⟩ := H
    obtain ⟨k10, H⟩ := H
    exact path_rq (G := given kp21 [(4, 4, .call (ratA false false (a * x)) none), (4, 9, .call (ratA false false (b * y)) none), (4, 11, .call (ratA false false (b * y * Sp.com b c z)) none), (4, 12, .call (ratA false false (a * x + b * y * Sp.com b c z)) none), (5, 4, .call (ratA false false (a * y)) none), (5, 9, .call (ratA false false (b * x)) none), (5, 10, .call (ratA false false (a * y + b * x)) none), (6, 3, .call (rootF (a * x + b * y * Sp.com b c z) (a * y + b * x) (Sp.rad (a * y + b * x) (Sp.com b c z))) none)] []) 1000 [false] (tu [rootF (a * x + b * y * Sp.com b c z) (a * y + b * x) (Sp.rad (a * y + b * x) (Sp.com b c z)), vi 0]) (by kernel_rfl) (bc (beq_f (fun h => d3 ((i_not i_dec).1 h))) (bc rfl (bc rfl (bc rfl (bc rfl (bc rfl (bc rfl (bc rfl (bc rfl (bc rfl (bc rfl (bc rfl (bc rfl (bc rfl (bc rfl (bc rfl b0)))))))))))))))) q0 (ce (@ev34 (f1) (f2) (g1) (g2) (a) (x) k4) (ce (@ev34 (f3) (f4) (g3) (g4) (b) (y) k5) (ce (@ev34 (false) (false) (false) (false) (b * y) (Sp.com b c z) k6) (ce (@ev33 (false) (false) (false) (false) (a * x) (b * y * Sp.com b c z) k7) (ce (@ev34 (f1) (f2) (g3) (g4) (a) (y) k8) (ce (@ev34 (f3) (f4) (g1) (g2) (b) (x) k9) (ce (@ev33 (false) (false) (false) (false) (a * y) (b * x) k10) (ce (@ev35 (false) (false) (false) (false) (false) (false) (a * x + b * y * Sp.com b c z) (a * y + b * x) (Sp.com b c z)) c0)))))))) H
theorem oScale (f1 f2 f3 f4 f5 f6 : Bool) (k l : Bool) (a b c r : Rat)  (dq : AV) (H :
    (Sp.okR a /\ Sp.okR r) /\
    (Sp.okR b /\ Sp.okR r) /\
    Weak (rootF (a * r) (b * r) (Sp.rad (b * r) c)) dq) :
  oScale_at f1 f2 f3 f4 f5 f6 k l a b c r (PureQ dq) := by
  unfold oScale_at
  obtain ⟨k1, H⟩ := H
  obtain ⟨k2, H⟩ := H
  exact path_rq (G := given kp52 [(1, 3, .call (ratA false false (a * r)) none), (1, 7, .call (ratA false false (b * r)) none), (1, 10, .call (rootF (a * r) (b * r) (Sp.rad (b * r) c)) none)] []) 1000 [] (rootF (a * r) (b * r) (Sp.rad (b * r) c)) (by kernel_rfl) (bc rfl (bc rfl (bc rfl (bc rfl (bc rfl (bc rfl b0)))))) q0 (ce (@ev34 (f1) (f2) (k) (l) (a) (r) k1) (ce (@ev34 (f3) (f4) (k) (l) (b) (r) k2) (ce (@ev35 (false) (false) (false) (false) (f5) (f6) (a * r) (b * r) (c)) c0))) H
noncomputable abbrev zNxC12 (a : Rat) (b : Rat) (c : Rat) := (↑a.den : Int) * (↑a.den : Int) * ((b * b * c).num * (↑(b * b * c).den : Int))
noncomputable abbrev zNxC13 (a : Rat) (b : Rat) (c : Rat) := Sp.flo (a.num * (↑(b * b * c).den : Int) + Sp.sq (zNxC12 a b c)) ((↑a.den : Int) * (↑(b * b * c).den : Int))
noncomputable abbrev zNxC14 (a : Rat) (b : Rat) (c : Rat) := Sp.flr (a.num * (↑(b * b * c).den : Int) + Sp.sq (zNxC12 a b c)) ((↑a.den : Int) * (↑(b * b * c).den : Int))
noncomputable abbrev zNxC15 (b4 : Bool) (l4 : List (Int)) (b5 : Bool) (l5 : List (Int)) (n1 : Int) := tu [ag [vb b4, vf (us l4)], ag [vb b5, vf (us l5)], vi n1]
noncomputable abbrev zNxC16 (b2 : Bool) (l2 : List (Int)) := ag [vb b2, vf (us l2)]
noncomputable abbrev zNxC17 (b3 : Bool) (l3 : List (Int)) := ag [vb b3, vf (us l3)]
theorem oFloor (f1 f2 f3 f4 f5 f6 : Bool) (a b c : Rat)  (dq : AV) (H :
    ((Sp.sgnI b.num = 0) -> (Sp.okB a.num /\ Sp.okB (↑a.den : Int)) /\
      Weak (bigA false (Sp.flo a.num (↑a.den : Int))) dq) /\
    (¬(Sp.sgnI b.num = 0) -> (Sp.okR b /\ Sp.okR b) /\
      (Sp.okR (b * b) /\ Sp.okR c) /\
      (Sp.okB (↑a.den : Int) /\ Sp.okB (↑a.den : Int)) /\
      (Sp.okB (b * b * c).num /\ Sp.okB (↑(b * b * c).den : Int)) /\
      (Sp.okB ((↑a.den : Int) * (↑a.den : Int)) /\ Sp.okB ((b * b * c).num * (↑(b * b * c).den : Int))) /\
      (Sp.okS ((↑a.den : Int) * (↑a.den : Int) * ((b * b * c).num * (↑(b * b * c).den : Int)))) /\
      ((Sp.sgnI b.num < 0) -> (Sp.inI 1) /\
        ∃ (b1 : Bool) (l1 : List (Int)),
        (Ev M1 (Conf.pure 58 [bigA false (Sp.sq ((↑a.den : Int) * (↑a.den : Int) * ((b * b * c).num * (↑(b * b * c).den : Int)))), ag [vb false, vf (us (Sp.limI 1))]]) (ag [vb b1, vf (us l1)]) []) /\
        ∃ (b2 : Bool) (l2 : List (Int)),
        (Ev M1 (Conf.pure 57 [ag [vb b1, vf (us l1)]]) (ag [vb b2, vf (us l2)]) []) /\
        (Sp.okB a.num /\ Sp.okB (↑(b * b * c).den : Int)) /\
        ∃ (b3 : Bool) (l3 : List (Int)),
        (Ev M1 (Conf.pure 58 [bigA false (a.num * (↑(b * b * c).den : Int)), ag [vb b2, vf (us l2)]]) (ag [vb b3, vf (us l3)]) []) /\
        (Sp.okB (↑a.den : Int) /\ Sp.okB (↑(b * b * c).den : Int)) /\
        ∃ (b4 : Bool) (l4 : List (Int)) (b5 : Bool) (l5 : List (Int)) (n1 : Int),
        (Ev M1 (Conf.pure 60 [ag [vb b3, vf (us l3)], bigA false ((↑a.den : Int) * (↑(b * b * c).den : Int))]) (tu [ag [vb b4, vf (us l4)], ag [vb b5, vf (us l5)], vi n1]) []) /\
        Weak (ag [vb b4, vf (us l4)]) dq) /\
      (¬(Sp.sgnI b.num < 0) -> (Sp.okB a.num /\ Sp.okB (↑(b * b * c).den : Int)) /\
        (Sp.okB (a.num * (↑(b * b * c).den : Int)) /\ Sp.okB (Sp.sq ((↑a.den : Int) * (↑a.den : Int) * ((b * b * c).num * (↑(b * b * c).den : Int))))) /\
        (Sp.okB (↑a.den : Int) /\ Sp.okB (↑(b * b * c).den : Int)) /\
        (Sp.okB (a.num * (↑(b * b * c).den : Int) + Sp.sq ((↑a.den : Int) * (↑a.den : Int) * ((b * b * c).num * (↑(b * b * c).den : Int)))) /\ Sp.okB ((↑a.den : Int) * (↑(b * b * c).den : Int)) /\ (↑a.den : Int) * (↑(b * b * c).den : Int) ≠ 0) /\
        Weak (bigA false (Sp.flo (a.num * (↑(b * b * c).den : Int) + Sp.sq ((↑a.den : Int) * (↑a.den : Int) * ((b * b * c).num * (↑(b * b * c).den : Int)))) ((↑a.den : Int) * (↑(b * b * c).den : Int)))) dq))) :
  oFloor_at f1 f2 f3 f4 f5 f6 a b c (PureQ dq) := by
  unfold oFloor_at
  refine path_wp (G := given kp28 [(1, 2, .call (vi (Sp.sgnI b.num)) none)] []) 5 [] ⟨(atC (cd Try.f28) [1, 0, 1]), [(1, AV.ptr 0 0 0 0), (2, AV.ptr 1 0 0 0), (15, vb (Sp.sgnI b.num == 0))], [⟨[rootA f1 f2 f3 f4 f5 f6 a b c], 12, 0, false, false⟩, ⟨[ag [vb false, AV.vnil]], 2, 0, false, false⟩], _, [], _⟩ (by kernel_rfl) (bc rfl b0) q0 (ce (@ev31 (f3) (f4) (b.num) ((↑b.den : Int))) c0) ?_
  rcases xm (Sp.sgnI b.num = 0) with d2 | d2
  · have H := H.1 d2
    obtain ⟨k3, H⟩ := H
    exact path_rq (G := given kp28 [(2, 2, .call (bigA false (Sp.flo a.num (↑a.den : Int))) none)] []) 1000 [true] (bigA false (Sp.flo a.num (↑a.den : Int))) (by kernel_rfl) (bc (beq_t (i_eq.2 d2)) (bc rfl (bc rfl b0))) q0 (ce (@ev54 (f1) (f2) (a) k3) c0) H
  · have H := H.2 d2
    obtain ⟨k4, H⟩ := H
    obtain ⟨k5, H⟩ := H
    refine path_wp (G := given kp28 [(3, 4, .call (ratA false false (b * b)) none), (3, 7, .call (ratA false false (b * b * c)) none)] [(4, [6008, 5007, 6006, 5005, 4004, 2002])]) 5 [false] ⟨(atC (cd Try.f28) [1, 1, 1, 0]), [(1, AV.ptr 0 0 0 0), (2, AV.ptr 1 0 0 0), (3, AV.ptr 2 0 0 0)], [⟨[rootA f1 f2 f3 f4 f5 f6 a b c], 12, 0, false, false⟩, ⟨[ag [vb false, AV.vnil]], 2, 0, false, false⟩, ⟨[ratA false false (b * b * c)], 4, 0, false, false⟩], _, [], _⟩ (by kernel_rfl) (bc (beq_f (fun h => d2 (i_eq.1 h))) (bc rfl (bc rfl (bc rfl (bc rfl b0))))) q0 (ce (@ev34 (f3) (f4) (f3) (f4) (b) (b) k4) (ce (@ev34 (false) (false) (f5) (f6) (b * b) (c) k5) c0)) (wp_both (G := given kp28 [(3, 4, .call (ratA false false (b * b)) none), (3, 7, .call (ratA false false (b * b * c)) none)] [(4, [6008, 5007, 6006, 5005, 4004, 2002])]) [0, 1, 2, 4, 3] 5 (e1 := [(1, AV.ptr 0 0 0 0), (2, AV.ptr 1 0 0 0), (3, AV.ptr 2 0 0 0), (4, AV.ptr 3 0 0 0), (5, AV.ptr 4 0 0 0)]) (L1 := [⟨[rootA f1 f2 f3 f4 f5 f6 a b c], 12, 0, false, false⟩, ⟨[ag [vb false, AV.vnil]], 2, 0, false, false⟩, ⟨[ratA false false (b * b * c)], 4, 0, false, false⟩, ⟨[bigA f2 (↑a.den : Int)], 2, 0, false, false⟩, ⟨[bigA false (↑(b * b * c).den : Int)], 2, 0, false, false⟩]) (a := [true, true, true, true]) (q := []) (cs := []) (by kernel_rfl) (by kernel_rfl) (allB_cons rfl (allB_cons rfl (allB_cons rfl (allB_cons rfl allB_nil)))) allP_nil allC_nil ?_)
    obtain ⟨k6, H⟩ := H
    obtain ⟨k7, H⟩ := H
    obtain ⟨k8, H⟩ := H
    obtain ⟨k9, H⟩ := H
    refine path_wp (G := given kp28 [(5, 2, .call (bigA false ((↑a.den : Int) * (↑a.den : Int))) none), (5, 6, .call (bigA false ((b * b * c).num * (↑(b * b * c).den : Int))) none), (5, 7, .call (bigA false (zNxC12 a b c)) none), (6, 1, .call (tu [bigA false (Sp.sq (zNxC12 a b c)), vi (Sp.sqe (zNxC12 a b c))]) none), (7, 2, .call (vi (Sp.sgnI b.num)) none)] []) 7 [] ⟨(atC (cd Try.f28) [1, 1, 1, 1, 1, 1, 0, 1]), [(1, AV.ptr 0 0 0 0), (2, AV.ptr 1 0 0 0), (4, AV.ptr 3 0 0 0), (5, AV.ptr 4 0 0 0), (7, AV.ptr 6 0 0 0), (48, vb (decide (Sp.sgnI b.num < 0)))], [⟨[rootA f1 f2 f3 f4 f5 f6 a b c], 12, 0, false, false⟩, ⟨[ag [vb false, AV.vnil]], 2, 0, false, false⟩, ⟨[ratA false false (b * b * c)], 4, 0, false, false⟩, ⟨[bigA f2 (↑a.den : Int)], 2, 0, false, false⟩, ⟨[bigA false (↑(b * b * c).den : Int)], 2, 0, false, false⟩, ⟨[bigA false (zNxC12 a b c)], 2, 0, false, false⟩, ⟨[bigA false (Sp.sq (zNxC12 a b c))], 2, 0, false, false⟩], _, [], _⟩ (by kernel_rfl) (bc rfl (bc rfl (bc rfl (bc rfl (bc rfl (bc rfl (bc rfl (bc rfl b0)))))))) q0 (ce (@ev55 (f2) (f2) ((↑a.den : Int)) ((↑a.den : Int)) k6) (ce (@ev55 (false) (false) ((b * b * c).num) ((↑(b * b * c).den : Int)) k7) (ce (@ev55 (false) (false) ((↑a.den : Int) * (↑a.den : Int)) ((b * b * c).num * (↑(b * b * c).den : Int)) k8) (ce (@ev56 (false) (zNxC12 a b c) k9) (ce (@ev31 (f3) (f4) (b.num) ((↑b.den : Int))) c0))))) ?_
    rcases xm (Sp.sgnI b.num < 0) with d11 | d11
    · have H := H.1 d11
      obtain ⟨k12, H⟩ := H
      obtain ⟨b1, l1, H⟩ := H
      obtain ⟨k13, H⟩ := H
      obtain ⟨b2, l2, H⟩ := H
      obtain ⟨k14, H⟩ := H
      obtain ⟨k15, H⟩ := H
      obtain ⟨b3, l3, H⟩ := H
      obtain ⟨k16, H⟩ := H
      obtain ⟨k17, H⟩ := H
      obtain ⟨b4, l4, b5, l5, n1, H⟩ := H
      obtain ⟨k18, H⟩ := H
      refine path_wp (G := given kp28 [(8, 1, .call (ag [vb false, vf (us (Sp.limI 1))]) none), (8, 2, .call (ag [vb b1, vf (us l1)]) none), (8, 3, .call ((zNxC16 b2 l2)) none), (9, 4, .call (bigA false (a.num * (↑(b * b * c).den : Int))) none), (9, 6, .call ((zNxC17 b3 l3)) none), (9, 9, .call (bigA false ((↑a.den : Int) * (↑(b * b * c).den : Int))) none), (9, 10, .call ((zNxC15 b4 l4 b5 l5 n1)) none)] []) 3 [true] ⟨(atC (cd Try.f28) [1, 1, 1, 1, 1, 1, 1, 0]), [(1, AV.ptr 0 0 0 0), (2, AV.ptr 1 0 0 0), (4, AV.ptr 3 0 0 0), (5, AV.ptr 4 0 0 0), (7, AV.ptr 6 0 0 0)], [⟨[rootA f1 f2 f3 f4 f5 f6 a b c], 12, 0, false, false⟩, ⟨[ag [vb false, AV.vnil]], 2, 0, false, false⟩, ⟨[ratA false false (b * b * c)], 4, 0, false, false⟩, ⟨[bigA f2 (↑a.den : Int)], 2, 0, false, false⟩, ⟨[bigA false (↑(b * b * c).den : Int)], 2, 0, false, false⟩, ⟨[bigA false (zNxC12 a b c)], 2, 0, false, false⟩, ⟨[(zNxC16 b2 l2)], 2, 0, false, false⟩], _, [], _⟩ (by kernel_rfl) (bc (beq_t (i_dec.2 d11)) (bc rfl (bc rfl b0))) q0 (ce (@ev59 (1) k12) (ce k13 (ce k14 c0))) (wp_both (G := given kp28 [(8, 1, .call (ag [vb false, vf (us (Sp.limI 1))]) none), (8, 2, .call (ag [vb b1, vf (us l1)]) none), (8, 3, .call ((zNxC16 b2 l2)) none), (9, 4, .call (bigA false (a.num * (↑(b * b * c).den : Int))) none), (9, 6, .call ((zNxC17 b3 l3)) none), (9, 9, .call (bigA false ((↑a.den : Int) * (↑(b * b * c).den : Int))) none), (9, 10, .call ((zNxC15 b4 l4 b5 l5 n1)) none)] []) [0, 1, 2, 3, 4, 5, 6, 8, 7] 15 (e1 := [(2, AV.ptr 1 0 0 0), (9, AV.ptr 7 0 0 0)]) (L1 := [⟨[rootA f1 f2 f3 f4 f5 f6 a b c], 12, 0, false, false⟩, ⟨[ag [vb false, AV.vnil]], 2, 0, false, false⟩, ⟨[ratA false false (b * b * c)], 4, 0, false, false⟩, ⟨[bigA f2 (↑a.den : Int)], 2, 0, false, false⟩, ⟨[bigA false (↑(b * b * c).den : Int)], 2, 0, false, false⟩, ⟨[bigA false (zNxC12 a b c)], 2, 0, false, false⟩, ⟨[(zNxC16 b2 l2)], 2, 0, false, false⟩, ⟨[ag [vb b4, vf (us l4)]], 2, 0, false, false⟩, ⟨[ag [vb b5, vf (us l5)]], 2, 0, false, false⟩]) (a := [true, true, true, true, true, true, true]) (q := []) (cs := [⟨true, false, 55, [bigA f1 a.num, bigA false (↑(b * b * c).den : Int)], [], bigA false (a.num * (↑(b * b * c).den : Int)), []⟩, ⟨true, false, 58, [bigA false (a.num * (↑(b * b * c).den : Int)), (zNxC16 b2 l2)], [], (zNxC17 b3 l3), []⟩, ⟨true, false, 55, [bigA f2 (↑a.den : Int), bigA false (↑(b * b * c).den : Int)], [], bigA false ((↑a.den : Int) * (↑(b * b * c).den : Int)), []⟩, ⟨true, false, 60, [(zNxC17 b3 l3), bigA false ((↑a.den : Int) * (↑(b * b * c).den : Int))], [], (zNxC15 b4 l4 b5 l5 n1), []⟩]) (by kernel_rfl) (by kernel_rfl) (allB_cons rfl (allB_cons rfl (allB_cons rfl (allB_cons rfl (allB_cons rfl (allB_cons rfl (allB_cons rfl allB_nil))))))) allP_nil (allC_cons (fun _ => (@ev55 (f1) (false) (a.num) ((↑(b * b * c).den : Int)) k15)) (allC_cons (fun _ => k16) (allC_cons (fun _ => (@ev55 (f2) (false) ((↑a.den : Int)) ((↑(b * b * c).den : Int)) k17)) (allC_cons (fun _ => k18) allC_nil)))) ?_)
      exact path_rq (G := given kp28 [] []) 1000 [] (ag [vb b4, vf (us l4)]) (by kernel_rfl) (bc rfl (bc rfl b0)) q0 c0 H
    · have H := H.2 d11
      obtain ⟨k19, H⟩ := H
      obtain ⟨k20, H⟩ := H
      obtain ⟨k21, H⟩ := H
      obtain ⟨k22, H⟩ := H
      refine path_wp (G := given kp28 [(9, 4, .call (bigA false (a.num * (↑(b * b * c).den : Int))) none), (9, 6, .call (bigA false (a.num * (↑(b * b * c).den : Int) + Sp.sq (zNxC12 a b c))) none), (9, 9, .call (bigA false ((↑a.den : Int) * (↑(b * b * c).den : Int))) none), (9, 10, .call (tu [bigA false (zNxC13 a b c), bigA false (zNxC14 a b c), vi 0]) none)] []) 3 [false] ⟨(atC (cd Try.f28) [1, 1, 1, 1, 1, 1, 1, 0]), [(1, AV.ptr 0 0 0 0), (2, AV.ptr 1 0 0 0), (4, AV.ptr 3 0 0 0), (5, AV.ptr 4 0 0 0), (7, AV.ptr 6 0 0 0), (48, vb (decide (Sp.sgnI b.num < 0)))], [⟨[rootA f1 f2 f3 f4 f5 f6 a b c], 12, 0, false, false⟩, ⟨[ag [vb false, AV.vnil]], 2, 0, false, false⟩, ⟨[ratA false false (b * b * c)], 4, 0, false, false⟩, ⟨[bigA f2 (↑a.den : Int)], 2, 0, false, false⟩, ⟨[bigA false (↑(b * b * c).den : Int)], 2, 0, false, false⟩, ⟨[bigA false (zNxC12 a b c)], 2, 0, false, false⟩, ⟨[bigA false (Sp.sq (zNxC12 a b c))], 2, 0, false, false⟩], _, [], _⟩ (by kernel_rfl) (bc (beq_f (fun h => d11 (i_dec.1 h))) b0) q0 c0 (wp_both (G := given kp28 [(9, 4, .call (bigA false (a.num * (↑(b * b * c).den : Int))) none), (9, 6, .call (bigA false (a.num * (↑(b * b * c).den : Int) + Sp.sq (zNxC12 a b c))) none), (9, 9, .call (bigA false ((↑a.den : Int) * (↑(b * b * c).den : Int))) none), (9, 10, .call (tu [bigA false (zNxC13 a b c), bigA false (zNxC14 a b c), vi 0]) none)] []) [0, 1, 2, 3, 4, 5, 6, 8, 7] 15 (e1 := [(2, AV.ptr 1 0 0 0), (9, AV.ptr 7 0 0 0)]) (L1 := [⟨[rootA f1 f2 f3 f4 f5 f6 a b c], 12, 0, false, false⟩, ⟨[ag [vb false, AV.vnil]], 2, 0, false, false⟩, ⟨[ratA false false (b * b * c)], 4, 0, false, false⟩, ⟨[bigA f2 (↑a.den : Int)], 2, 0, false, false⟩, ⟨[bigA false (↑(b * b * c).den : Int)], 2, 0, false, false⟩, ⟨[bigA false (zNxC12 a b c)], 2, 0, false, false⟩, ⟨[bigA false (Sp.sq (zNxC12 a b c))], 2, 0, false, false⟩, ⟨[bigA false (zNxC13 a b c)], 2, 0, false, false⟩, ⟨[bigA false (zNxC14 a b c)], 2, 0, false, false⟩]) (a := [true, true, true, true, true, true, true]) (q := []) (cs := [⟨true, false, 55, [bigA f1 a.num, bigA false (↑(b * b * c).den : Int)], [], bigA false (a.num * (↑(b * b * c).den : Int)), []⟩, ⟨true, false, 58, [bigA false (a.num * (↑(b * b * c).den : Int)), bigA false (Sp.sq (zNxC12 a b c))], [], bigA false (a.num * (↑(b * b * c).den : Int) + Sp.sq (zNxC12 a b c)), []⟩, ⟨true, false, 55, [bigA f2 (↑a.den : Int), bigA false (↑(b * b * c).den : Int)], [], bigA false ((↑a.den : Int) * (↑(b * b * c).den : Int)), []⟩, ⟨true, false, 60, [bigA false (a.num * (↑(b * b * c).den : Int) + Sp.sq (zNxC12 a b c)), bigA false ((↑a.den : Int) * (↑(b * b * c).den : Int))], [], tu [bigA false (zNxC13 a b c), bigA false (zNxC14 a b c), vi 0], []⟩]) (by kernel_rfl) (by kernel_rfl) (allB_cons rfl (allB_cons rfl (allB_cons rfl (allB_cons rfl (allB_cons rfl (allB_cons rfl (allB_cons rfl allB_nil))))))) allP_nil (allC_cons (fun _ => (@ev55 (f1) (false) (a.num) ((↑(b * b * c).den : Int)) k19)) (allC_cons (fun _ => (@ev58 (false) (false) (a.num * (↑(b * b * c).den : Int)) (Sp.sq (zNxC12 a b c)) k20)) (allC_cons (fun _ => (@ev55 (f2) (false) ((↑a.den : Int)) ((↑(b * b * c).den : Int)) k21)) (allC_cons (fun _ => (@ev60 (false) (false) (a.num * (↑(b * b * c).den : Int) + Sp.sq (zNxC12 a b c)) ((↑a.den : Int) * (↑(b * b * c).den : Int)) k22)) allC_nil)))) ?_)
      exact path_rq (G := given kp28 [] []) 1000 [] (bigA false (zNxC13 a b c)) (by kernel_rfl) (bc rfl (bc rfl b0)) q0 c0 H
end Go.Av

namespace Go.Av
open Go.Proofs
abbrev noO : AV := .agg [.bool false, .vec false 1 [], .bool false, .vec false 1 [], .bool false, .vec false 1 [], .bool false, .vec false 1 [], .bool false, .vec false 1 [], .bool false, .vec false 1 []]
theorem weak_vnil1 : Weak .vnil (.vec false 1 []) := by
  have := weak_bnil false
  cases this with
  | agg xs ys hl h => exact h 1 _ _ rfl rfl
theorem weak_no : Weak (.agg [.bool false, .vnil, .bool false, .vnil, .bool false, .vnil, .bool false, .vnil, .bool false, .vnil, .bool false, .vnil]) noO := by
  refine .agg _ _ rfl fun i x y hx hy => ?_
  match i with
  | 0 => simp at hx hy; subst hx; subst hy; exact .refl _
  | 1 => simp at hx hy; subst hx; subst hy; exact weak_vnil1
  | 2 => simp at hx hy; subst hx; subst hy; exact .refl _
  | 3 => simp at hx hy; subst hx; subst hy; exact weak_vnil1
  | 4 => simp at hx hy; subst hx; subst hy; exact .refl _
  | 5 => simp at hx hy; subst hx; subst hy; exact weak_vnil1
  | 6 => simp at hx hy; subst hx; subst hy; exact .refl _
  | 7 => simp at hx hy; subst hx; subst hy; exact weak_vnil1
  | 8 => simp at hx hy; subst hx; subst hy; exact .refl _
  | 9 => simp at hx hy; subst hx; subst hy; exact weak_vnil1
  | 10 => simp at hx hy; subst hx; subst hy; exact .refl _
  | 11 => simp at hx hy; subst hx; subst hy; exact weak_vnil1
  | i + 12 => simp at hx
namespace Sp
def isNN (c : Rat) : Prop := 0 ≤ c.num
open Classical in
noncomputable def mkA (a b c : Rat) : Rat := if rsq c then a + b * rt c else a
open Classical in
noncomputable def mkB (b c : Rat) : Rat := if rsq c then qi 0 else b
open Classical in
noncomputable def mkC (b c : Rat) : Rat := if rsq c then qi 0 else rad b c
end Sp
theorem nn_sgn {c : Rat} : Sp.sgnI c.num < 0 ↔ ¬Sp.isNN c := by
  rw [sgnI_lt]; unfold Sp.isNN; omega
theorem ev8_y (f1 f2 f3 f4 f5 f6 : Bool) (a b c : Rat) (h : Sp.okO a b c) (k : Sp.isNN c) : Ev M1 (.pure 8 [ratA f1 f2 a, ratA f3 f4 b, ratA f5 f6 c]) (.tup [rootF (Sp.mkA a b c) (Sp.mkB b c) (Sp.mkC b c), .int .i64 0]) [] := by
  obtain ⟨ha, hb, hc⟩ := h
  refine call8 (oMake _ _ _ _ _ _ _ _ _ _ ⟨fun x => absurd k (nn_sgn.1 x), fun _ => ⟨fun s => ?_, fun s => ?_⟩⟩)
  · have hr := okT_rt s hc
    have hm := okT_mul hb hr
    refine ⟨okT_R hc (by omega), ⟨okT_R hb (by omega), okT_R hr (by omega)⟩, ⟨okT_R ha (by omega), okT_R hm (by omega)⟩, ?_⟩
    rw [show Sp.mkA a b c = a + b * Sp.rt c from if_pos s, show Sp.mkB b c = Sp.qi 0 from if_pos s, show Sp.mkC b c = Sp.qi 0 from if_pos s]
    exact .refl _
  · refine ⟨okT_R hc (by omega), ?_⟩
    rw [show Sp.mkA a b c = a from if_neg s, show Sp.mkB b c = b from if_neg s, show Sp.mkC b c = Sp.rad b c from if_neg s]
    exact .refl _
theorem ev8_n (f1 f2 f3 f4 f5 f6 : Bool) (a b c : Rat) (h : Sp.okO a b c) (k : ¬(Sp.isNN c)) : Ev M1 (.pure 8 [ratA f1 f2 a, ratA f3 f4 b, ratA f5 f6 c]) (.tup [noO, .int .i64 7]) [] :=
  call8 (oMake _ _ _ _ _ _ _ _ _ _ ⟨fun _ => weak_two weak_no (.refl _), fun x => absurd (nn_sgn.2 k) x⟩)
theorem ev20_y (f1 f2 f3 f4 f5 f6 g1 g2 g3 g4 g5 g6 : Bool) (a b c x y z : Rat) (h : Sp.okO a b c ∧ Sp.okO x y z) (k : Sp.isCom b c y z) : Ev M1 (.pure 20 [rootA f1 f2 f3 f4 f5 f6 a b c, rootA g1 g2 g3 g4 g5 g6 x y z]) (.tup [rootF (a + x) (b + y) (Sp.rad (b + y) (Sp.com b c z)), .int .i64 0]) [] := by
  obtain ⟨⟨h1, h2, h3⟩, h4, h5, h6⟩ := h
  exact call20 (oAdd _ _ _ _ _ _ _ _ _ _ _ _ _ _ _ _ _ _ _ ⟨⟨h3, h6⟩, fun n => absurd k n, fun _ => ⟨⟨okT_R h1 (by omega), okT_R h4 (by omega)⟩, ⟨okT_R h2 (by omega), okT_R h5 (by omega)⟩, .refl _⟩⟩)
theorem okT_com {k : Nat} {b c z : Rat} (h : Sp.okT k c) (h2 : Sp.okT k z) : Sp.okT k (Sp.com b c z) := by
  unfold Sp.com; split <;> assumption
theorem ev21_y (f1 f2 f3 f4 f5 f6 g1 g2 g3 g4 g5 g6 : Bool) (a b c x y z : Rat) (h : Sp.okO a b c ∧ Sp.okO x y z) (k : Sp.isCom b c y z) : Ev M1 (.pure 21 [rootA f1 f2 f3 f4 f5 f6 a b c, rootA g1 g2 g3 g4 g5 g6 x y z]) (.tup [rootF (a * x + b * y * Sp.com b c z) (a * y + b * x) (Sp.rad (a * y + b * x) (Sp.com b c z)), .int .i64 0]) [] := by
  obtain ⟨⟨h1, h2, h3⟩, h4, h5, h6⟩ := h
  have m1 := okT_mul h2 h5
  have hk := okT_com (b := b) h3 h6
  have m2 := okT_mul m1 hk
  have m3 := okT_mul h1 h4
  have m4 := okT_mul h1 h5
  have m5 := okT_mul h2 h4
  exact call21 (oMul _ _ _ _ _ _ _ _ _ _ _ _ _ _ _ _ _ _ _ ⟨⟨h3, h6⟩, fun n => absurd k n, fun _ => ⟨⟨okT_R h1 (by omega), okT_R h4 (by omega)⟩, ⟨okT_R h2 (by omega), okT_R h5 (by omega)⟩, ⟨okT_R m1 (by omega), okT_R hk (by omega)⟩, ⟨okT_R m3 (by omega), okT_R m2 (by omega)⟩, ⟨okT_R h1 (by omega), okT_R h5 (by omega)⟩, ⟨okT_R h2 (by omega), okT_R h4 (by omega)⟩, ⟨okT_R m4 (by omega), okT_R m5 (by omega)⟩, .refl _⟩⟩)
theorem ev52 (f1 f2 f3 f4 f5 f6 l1 l2 : Bool) (a b c r : Rat) (h : Sp.okP a b ∧ Sp.okR r) : Ev M1 (.pure 52 [rootA f1 f2 f3 f4 f5 f6 a b c, ratA l1 l2 r]) (rootF (a * r) (b * r) (Sp.rad (b * r) c)) [] := by
  obtain ⟨⟨h1, h2⟩, h3⟩ := h
  exact call52 (oScale _ _ _ _ _ _ _ _ _ _ _ _ _ ⟨⟨okT_R h1 (by omega), h3⟩, ⟨okT_R h2 (by omega), h3⟩, .refl _⟩)
noncomputable def Sp.flW (a b c : Rat) : Int := Sp.sq ((a.den : Int) * (a.den : Int) * ((b * b * c).num * ((b * b * c).den : Int)))
noncomputable def Sp.fl (a b c : Rat) : Int := if b = 0 then Sp.flo a.num (a.den : Int) else Sp.flo (a.num * ((b * b * c).den : Int) + (if b.num < 0 then -(Sp.flW a b c + 1) else Sp.flW a b c)) ((a.den : Int) * ((b * b * c).den : Int))
theorem cnt_sqI {v : Int} {n : Nat} (h : Sp.cnt v.natAbs ≤ n) : Sp.cnt (Sp.sq v).natAbs ≤ n := by
  by_cases k : 0 ≤ v
  · exact Nat.le_trans (cnt_mono (sq_le k).2) h
  · unfold Sp.sq
    rw [if_pos (by omega)]
    exact Nat.le_trans (Nat.le_of_eq cnt_zero) (Nat.zero_le _)
theorem cnt_one : Sp.cnt (1 : Int).natAbs ≤ 1 := by
  have := cnt_small (n := (1 : Int).natAbs) (by decide); omega
theorem ev28 (f1 f2 f3 f4 f5 f6 : Bool) (a b c : Rat) (h : Sp.okO a b c) : Ev M1 (.pure 28 [rootA f1 f2 f3 f4 f5 f6 a b c]) (bigA false (Sp.fl a b c)) [] := by
  obtain ⟨ha, hb, hc⟩ := h
  have bb := okT_mul hb hb
  have bbc := okT_mul bb hc
  obtain ⟨a1, a2⟩ := ha
  obtain ⟨s1, s2⟩ := bbc
  have a2' := cnt_den a2
  have s2' := cnt_den s2
  have m1 := cnt_mulI a2' a2'
  have m2 := cnt_mulI s1 s2'
  have m3 := cnt_mulI m1 m2
  have w := cnt_sqI m3
  have m4 := cnt_mulI a1 s2'
  have m5 := cnt_mulI a2' s2'
  have hden : (a.den : Int) * ((b * b * c).den : Int) ≠ 0 := Int.mul_ne_zero (den_ne a) (den_ne _)
  refine call28 (oFloor _ _ _ _ _ _ _ _ _ _ ⟨fun k => ⟨⟨by unfold Sp.okB; omega, by unfold Sp.okB; omega⟩, ?_⟩, fun k => ?_⟩)
  · unfold Sp.fl; rw [if_pos (sgn_num.1 k)]; exact .refl _
  · refine ⟨⟨okT_R hb (by omega), okT_R hb (by omega)⟩, ⟨okT_R bb (by omega), okT_R hc (by omega)⟩, ⟨by unfold Sp.okB; omega, by unfold Sp.okB; omega⟩, ⟨by unfold Sp.okB; omega, by unfold Sp.okB; omega⟩, ⟨by unfold Sp.okB; omega, by unfold Sp.okB; omega⟩, by unfold Sp.okS; omega, fun k2 => ?_, fun k2 => ?_⟩
    · rw [sgnI_lt] at k2
      have e : Sp.fl a b c = Sp.flo (a.num * ((b * b * c).den : Int) + -(Sp.flW a b c + 1)) ((a.den : Int) * ((b * b * c).den : Int)) := by
        unfold Sp.fl; rw [if_neg fun e => k (sgn_num.2 e), if_pos k2]
      have w1 := cnt_addI w (Nat.le_trans cnt_one (by omega))
      have w2 : Sp.cnt (-(Sp.sq ((a.den : Int) * (a.den : Int) * ((b * b * c).num * ((b * b * c).den : Int))) + 1)).natAbs ≤ 9000 + 9000 + (9000 + 9000 + 9000 + (9000 + 9000 + 9000)) + 1 := by rw [Int.natAbs_neg]; exact w1
      have w3 := cnt_addI (Nat.le_trans m4 (by omega)) w2
      rw [e]
      unfold Sp.flW
      refine ⟨by unfold Sp.inI; omega, _, _, ev58 _ _ _ 1 ⟨by unfold Sp.okB; omega, by unfold Sp.okB; have := cnt_one; omega⟩, _, _, ev57 _ _ ?_, ⟨by unfold Sp.okB; omega, by unfold Sp.okB; omega⟩, _, _, ev58 _ _ _ _ ⟨by unfold Sp.okB; omega, ?_⟩, ⟨by unfold Sp.okB; omega, by unfold Sp.okB; omega⟩, _, _, _, _, _, ev60 _ _ _ _ ⟨?_, by unfold Sp.okB; omega, hden⟩, .refl _⟩
      · unfold Sp.okB; omega
      · unfold Sp.okB; omega
      · unfold Sp.okB; omega
    · rw [sgnI_lt] at k2
      have e : Sp.fl a b c = Sp.flo (a.num * ((b * b * c).den : Int) + Sp.flW a b c) ((a.den : Int) * ((b * b * c).den : Int)) := by
        unfold Sp.fl; rw [if_neg fun e => k (sgn_num.2 e), if_neg k2]
      have w3 := cnt_addI (Nat.le_trans m4 (by omega)) w
      rw [e]
      unfold Sp.flW
      exact ⟨⟨by unfold Sp.okB; omega, by unfold Sp.okB; omega⟩, ⟨by unfold Sp.okB; omega, by unfold Sp.okB; omega⟩, ⟨by unfold Sp.okB; omega, by unfold Sp.okB; omega⟩, ⟨by unfold Sp.okB; omega, by unfold Sp.okB; omega, hden⟩, .refl _⟩
end Go.Av

namespace Go.Av
open Go.Proofs
noncomputable def Sp.prB (b c : Rat) : Rat := if b = 0 ∨ c = 0 then Sp.qi 0 else b
noncomputable def Sp.prC (b c : Rat) : Rat := if b = 0 ∨ c = 0 then Sp.qi 0 else c
theorem qi_zero : Sp.qi 0 = 0 := by rw [qi_eq]; rfl
theorem ev40 (f1 f2 f3 f4 f5 f6 : Bool) (a b c : Rat) : Ev M1 (.pure 40 [ratA f1 f2 a, ratA f3 f4 b, ratA f5 f6 c]) (rootF a (Sp.prB b c) (Sp.prC b c)) [] := by
  refine call40 (pRed _ _ _ _ _ _ _ _ _ _ ⟨fun k => ?_, fun k => ?_⟩)
  · have k : b = 0 ∨ c = 0 := k.imp sgn_num.1 sgn_num.1
    rw [show Sp.prB b c = Sp.qi 0 from if_pos k, show Sp.prC b c = Sp.qi 0 from if_pos k]; exact weak_root a (Sp.qi 0) (Sp.qi 0)
  · have k : ¬(b = 0 ∨ c = 0) := fun e => k (e.imp sgn_num.2 sgn_num.2)
    rw [show Sp.prB b c = b from if_neg k, show Sp.prC b c = c from if_neg k]; exact weak_root a b c
theorem ev25 (n : Int) (h : Sp.inI n) : Ev M1 (.pure 25 [.int .i64 n]) (rootF (Sp.qi n) (Sp.qi 0) (Sp.qi 0)) [] :=
  call25 (pInt _ _ ⟨h, .refl _⟩)
end Go.Av

namespace Go.Av
open Go.Proofs
set_option maxRecDepth 100000
def fi9 : Fi := ⟨30, [.cell 6 30, .tmp 7]⟩
def kp9 : List (Nat × List Nat) := [(0, [3, 4, 5, 6]), (1, [3, 4, 5, 6, 12]), (2, [6, 7]), (3, [3, 4, 5, 6, 8, 9]), (4, [3, 4, 5, 6, 8, 19]), (5, [6, 7]), (6, [6, 7])]
def fi26 : Fi := ⟨31, [.cell 2 30, .tmp 3]⟩
def kp26 : List (Nat × List Nat) := [(0, [1, 2]), (1, [1, 2, 8]), (2, [2, 3]), (3, [1, 2, 4, 5]), (4, [1, 2, 4, 5, 18]), (5, [2, 3]), (6, [2, 3])]
def fi27 : Fi := ⟨9, [.tmp 4]⟩
def kp27 : List (Nat × List Nat) := [(0, [1, 2]), (1, [4])]
def oInv_at (f1 f2 f3 f4 f5 f6 : Bool) (a b c : Rat) (Q : AV → Heap → Prop) : Prop := Wp M1 (.run fi26 (atC (cd Try.f26) []) [(0, .agg [.bool (Sp.isNeg a.num), .vec f1 1 ((Sp.limI a.num).map (.int .u32)), .bool (Sp.isNeg (a.den : Int)), .vec f2 1 ((Sp.limI (a.den : Int)).map (.int .u32)), .bool (Sp.isNeg b.num), .vec f3 1 ((Sp.limI b.num).map (.int .u32)), .bool (Sp.isNeg (b.den : Int)), .vec f4 1 ((Sp.limI (b.den : Int)).map (.int .u32)), .bool (Sp.isNeg c.num), .vec f5 1 ((Sp.limI c.num).map (.int .u32)), .bool (Sp.isNeg (c.den : Int)), .vec f6 1 ((Sp.limI (c.den : Int)).map (.int .u32))])] []) Q
def pMake_at (f1 f2 f3 f4 f5 f6 : Bool) (a b c : Rat) (Q : AV → Heap → Prop) : Prop := Wp M1 (.run fi9 (atC (cd Try.f9) []) [(0, .agg [.bool (Sp.isNeg a.num), .vec f1 1 ((Sp.limI a.num).map (.int .u32)), .bool (Sp.isNeg (a.den : Int)), .vec f2 1 ((Sp.limI (a.den : Int)).map (.int .u32))]), (1, .agg [.bool (Sp.isNeg b.num), .vec f3 1 ((Sp.limI b.num).map (.int .u32)), .bool (Sp.isNeg (b.den : Int)), .vec f4 1 ((Sp.limI (b.den : Int)).map (.int .u32))]), (2, .agg [.bool (Sp.isNeg c.num), .vec f5 1 ((Sp.limI c.num).map (.int .u32)), .bool (Sp.isNeg (c.den : Int)), .vec f6 1 ((Sp.limI (c.den : Int)).map (.int .u32))])] []) Q
def lInt_at (fa : Bool) (a n : Int) (Q : AV → Heap → Prop) : Prop := Wp M1 (.run fi27 (atC (cd Try.f27) []) [(0, .agg [.bool (Sp.isNeg a), .vec fa 1 ((Sp.limI a).map (.int .u32))]), (1, .int .i64 n)] []) Q
theorem call9 {args : List AV} {d : AV} (h : Wp M1 (.run fi9 [.code (cd Try.f9)] (argVars 0 args) []) (PureQ d)) : Ev M1 (.pure 9 args) d [] :=
  pure_pq Try.f9 fi9 (by kernel_rfl) (by kernel_rfl) (by kernel_rfl) (by kernel_rfl) h
theorem call26 {args : List AV} {d : AV} (h : Wp M1 (.run fi26 [.code (cd Try.f26)] (argVars 0 args) []) (PureQ d)) : Ev M1 (.pure 26 args) d [] :=
  pure_pq Try.f26 fi26 (by kernel_rfl) (by kernel_rfl) (by kernel_rfl) (by kernel_rfl) h
theorem call27 {args : List AV} {d : AV} (h : Wp M1 (.run fi27 [.code (cd Try.f27)] (argVars 0 args) []) (PureQ d)) : Ev M1 (.pure 27 args) d [] :=
  pure_pq Try.f27 fi27 (by kernel_rfl) (by kernel_rfl) (by kernel_rfl) (by kernel_rfl) h
noncomputable abbrev zNxD1 := ag [vb false, AV.vnil, vb false, AV.vnil, vb false, AV.vnil, vb false, AV.vnil, vb false, AV.vnil, vb false, AV.vnil]
theorem oInv (f1 f2 f3 f4 f5 f6 : Bool) (a b c : Rat)  (dq : AV) (H :
    (Sp.okO a b c) /\
    ((Sp.sgO a b c = 0) -> Weak (tu [ag [vb false, AV.vnil, vb false, AV.vnil, vb false, AV.vnil, vb false, AV.vnil, vb false, AV.vnil, vb false, AV.vnil], vi 6]) dq) /\
    (¬(Sp.sgO a b c = 0) -> (Sp.inI 1) /\
      (Sp.okR (Sp.qi 1) /\ Sp.okR (a * a - b * b * c) /\ (a * a - b * b * c).num ≠ 0) /\
      (Sp.okB b.num) /\
      (Sp.okP a (-b) /\ Sp.okR (Sp.qi 1 / (a * a - b * b * c))) /\
      Weak (tu [rootF (a * (Sp.qi 1 / (a * a - b * b * c))) (-b * (Sp.qi 1 / (a * a - b * b * c))) (Sp.rad (-b * (Sp.qi 1 / (a * a - b * b * c))) c), vi 0]) dq)) :
  oInv_at f1 f2 f3 f4 f5 f6 a b c (PureQ dq) := by
  unfold oInv_at
  obtain ⟨k1, H⟩ := H
  refine path_wp (G := given kp26 [(1, 1, .call (vi (Sp.sgO a b c)) none)] []) 5 [] ⟨(atC (cd Try.f26) [1, 0, 1]), [(1, AV.ptr 0 0 0 0), (2, AV.ptr 1 0 0 0), (8, vb (Sp.sgO a b c == 0))], [⟨[rootA f1 f2 f3 f4 f5 f6 a b c], 12, 0, false, false⟩, ⟨[zNxD1], 12, 0, false, false⟩], _, [], _⟩ (by kernel_rfl) (bc rfl b0) q0 (ce (@ev29 (f1) (f2) (f3) (f4) (f5) (f6) (a) (b) (c) k1) c0) ?_
  rcases xm (Sp.sgO a b c = 0) with d3 | d3
  · have H := H.1 d3
    exact path_rq (G := given kp26 [] []) 1000 [true] (tu [zNxD1, vi 6]) (by kernel_rfl) (bc (beq_t (i_eq.2 d3)) (bc rfl b0)) q0 c0 H
  · have H := H.2 d3
    obtain ⟨k4, H⟩ := H
    obtain ⟨k5, H⟩ := H
    obtain ⟨k6, H⟩ := H
    obtain ⟨k7, H⟩ := H
    exact path_rq (G := given kp26 [(3, 0, .call (ratA false false (Sp.qi 1)) none), (3, 2, .call (ratA false false (a * a - b * b * c)) none), (3, 3, .call (tu [ratA false false (Sp.qi 1 / (a * a - b * b * c)), vi 0]) none), (6, 4, .call (ratA false false (-b)) none), (6, 9, .call (rootF (a * (Sp.qi 1 / (a * a - b * b * c))) (-b * (Sp.qi 1 / (a * a - b * b * c))) (Sp.rad (-b * (Sp.qi 1 / (a * a - b * b * c))) c)) none)] []) 1000 [false, false] (tu [rootF (a * (Sp.qi 1 / (a * a - b * b * c))) (-b * (Sp.qi 1 / (a * a - b * b * c))) (Sp.rad (-b * (Sp.qi 1 / (a * a - b * b * c))) c), vi 0]) (by kernel_rfl) (bc (beq_f (fun h => d3 (i_eq.1 h))) (bc rfl (bc rfl (bc rfl (bc rfl (bc rfl (bc rfl (bc rfl (bc rfl b0))))))))) q0 (ce (@ev50 (1) k4) (ce (@ev51 (f1) (f2) (f3) (f4) (f5) (f6) (a) (b) (c) k1) (ce (@ev49 (false) (false) (false) (false) (Sp.qi 1) (a * a - b * b * c) k5) (ce (@ev53 (f3) (f4) (b) k6) (ce (@ev52 (f1) (f2) (false) (false) (f5) (f6) (false) (false) (a) (-b) (c) (Sp.qi 1 / (a * a - b * b * c)) k7) c0))))) H
noncomputable abbrev zNxD2 := ag [vb false, AV.vnil, vb false, AV.vnil, vb false, AV.vnil, vb false, AV.vnil, vb false, AV.vnil, vb false, AV.vnil]
theorem pMake (f1 f2 f3 f4 f5 f6 : Bool) (a b c : Rat)  (dq : AV) (H :
    ((Sp.sgnI c.num < 0) -> Weak (tu [ag [vb false, AV.vnil, vb false, AV.vnil, vb false, AV.vnil, vb false, AV.vnil, vb false, AV.vnil, vb false, AV.vnil], vi 7]) dq) /\
    (¬(Sp.sgnI c.num < 0) -> ((Sp.rsq c) -> (Sp.okR c) /\
        (Sp.okR b /\ Sp.okR (Sp.rt c)) /\
        (Sp.okR a /\ Sp.okR (b * Sp.rt c)) /\
        Weak (tu [rootF (a + b * Sp.rt c) (Sp.qi 0) (Sp.qi 0), vi 0]) dq) /\
      (¬(Sp.rsq c) -> (Sp.okR c) /\
        Weak (tu [rootF a (Sp.prB b c) (Sp.prC b c), vi 0]) dq))) :
  pMake_at f1 f2 f3 f4 f5 f6 a b c (PureQ dq) := by
  unfold pMake_at
  refine path_wp (G := given kp9 [(1, 1, .call (vi (Sp.sgnI c.num)) none)] []) 5 [] ⟨(atC (cd Try.f9) [1, 0, 1]), [(3, AV.ptr 0 0 0 0), (4, AV.ptr 1 0 0 0), (5, AV.ptr 2 0 0 0), (6, AV.ptr 3 0 0 0), (12, vb (decide (Sp.sgnI c.num < 0)))], [⟨[ratA f1 f2 a], 4, 0, false, false⟩, ⟨[ratA f3 f4 b], 4, 0, false, false⟩, ⟨[ratA f5 f6 c], 4, 0, false, false⟩, ⟨[zNxD2], 12, 0, false, false⟩], _, [], _⟩ (by kernel_rfl) (bc rfl b0) q0 (ce (@ev36 (f5) (f6) (c.num) ((↑c.den : Int))) c0) ?_
  rcases xm (Sp.sgnI c.num < 0) with d2 | d2
  · have H := H.1 d2
    exact path_rq (G := given kp9 [] []) 1000 [true] (tu [zNxD2, vi 7]) (by kernel_rfl) (bc (beq_t (i_dec.2 d2)) (bc rfl b0)) q0 c0 H
  · have H := H.2 d2
    rcases xm (Sp.rsq c) with d3 | d3
    · have H := H.1 d3
      obtain ⟨k4, H⟩ := H
      obtain ⟨k5, H⟩ := H
      obtain ⟨k6, H⟩ := H
      exact path_rq (G := given kp9 [(3, 1, .call (tu [ratA false false (Sp.rt c), vb true]) none), (5, 3, .call (ratA false false (b * Sp.rt c)) none), (5, 4, .call (ratA false false (a + b * Sp.rt c)) none), (5, 5, .call (rootF (a + b * Sp.rt c) (Sp.qi 0) (Sp.qi 0)) none)] []) 1000 [false, true] (tu [rootF (a + b * Sp.rt c) (Sp.qi 0) (Sp.qi 0), vi 0]) (by kernel_rfl) (bc (beq_f (fun h => d2 (i_dec.1 h))) (bc rfl (bc rfl (bc rfl (bc rfl (bc rfl (bc rfl (bc rfl b0)))))))) q0 (ce (@ev37_y (f5) (f6) (c) k4 d3) (ce (@ev39 (f3) (f4) (false) (false) (b) (Sp.rt c) k5) (ce (@ev38 (f1) (f2) (false) (false) (a) (b * Sp.rt c) k6) (ce (@ev13 (false) (false) (a + b * Sp.rt c)) c0)))) H
    · have H := H.2 d3
      obtain ⟨k7, H⟩ := H
      exact path_rq (G := given kp9 [(3, 1, .call (tu [ag [vb false, vf [], vb false, vf []], vb false]) none), (6, 3, .call (rootF a (Sp.prB b c) (Sp.prC b c)) none)] []) 1000 [false, false] (tu [rootF a (Sp.prB b c) (Sp.prC b c), vi 0]) (by kernel_rfl) (bc (beq_f (fun h => d2 (i_dec.1 h))) (bc rfl (bc rfl (bc rfl (bc rfl (bc rfl (bc rfl (bc rfl b0)))))))) q0 (ce (@ev37_n (f5) (f6) (c) k7 d3) (ce (@ev40 (f1) (f2) (f3) (f4) (f5) (f6) (a) (b) (c)) c0)) H
theorem lInt (fa : Bool) (a n : Int)  (dq : AV) (H :
    (Sp.inI n) /\
    (Sp.ok a /\ Sp.ok n) /\
    vb (decide (a = n)) = dq) :
  lInt_at fa a n (PureQ dq) := by
  unfold lInt_at
  obtain ⟨k1, H⟩ := H
  obtain ⟨k2, H⟩ := H
  exact path_re (G := given kp27 [(1, 2, .call (bigA false n) none), (1, 3, .call (vb (decide (a = n))) none)] []) 1000 [] (vb (decide (a = n))) (by kernel_rfl) (bc rfl b0) q0 (ce (@ev46 (n) k1) (ce (@ev43 (fa) (false) (a) (n) k2) c0)) H
end Go.Av

namespace Go.Av
open Go.Proofs
theorem okT_div {k m : Nat} {r s : Rat} (h : Sp.okT k r) (h2 : Sp.okT m s) (h0 : s.num ≠ 0) : Sp.okT (k + m) (r / s) := by
  have e := divInt_le (p := r.num * (s.den : Int)) (q := (r.den : Int) * s.num) (Int.mul_ne_zero (den_ne r) h0)
  rw [rat_div] at e
  exact ⟨Nat.le_trans (cnt_mono e.1) (cnt_mulI h.1 (cnt_den h2.2)), Nat.le_trans (cnt_mono e.2) (cnt_mulI (cnt_den h.2) h2.1)⟩
def Sp.nrm (a b c : Rat) : Prop := a * a - b * b * c ≠ 0
noncomputable def Sp.ivn (a b c : Rat) : Rat := Sp.qi 1 / (a * a - b * b * c)
theorem okT_norm {a b c : Rat} {k : Nat} (ha : Sp.okT k a) (hb : Sp.okT k b) (hc : Sp.okT k c) : Sp.okT (5 * k + 1) (a * a - b * b * c) :=
  okT_le (okT_sub (okT_mul ha ha) (okT_mul (okT_mul hb hb) hc)) (by omega)
theorem okT_ivn {a b c : Rat} {k : Nat} (ha : Sp.okT k a) (hb : Sp.okT k b) (hc : Sp.okT k c) (h : Sp.nrm a b c) : Sp.okT (5 * k + 4) (Sp.ivn a b c) :=
  okT_le (okT_div (okT_int (n := 1) (by unfold Sp.inI; omega)) (okT_norm ha hb hc) fun e => h (Rat.num_eq_zero.1 e)) (by omega)
theorem ev26_y (f1 f2 f3 f4 f5 f6 : Bool) (a b c : Rat) (h : Sp.okO a b c) (k : Sp.sgO a b c = 0) : Ev M1 (.pure 26 [rootA f1 f2 f3 f4 f5 f6 a b c]) (.tup [noO, .int .i64 6]) [] :=
  call26 (oInv _ _ _ _ _ _ _ _ _ _ ⟨h, fun _ => weak_two weak_no (.refl _), fun x => absurd k x⟩)
theorem ev26_n (f1 f2 f3 f4 f5 f6 : Bool) (a b c : Rat) (h : Sp.okO a b c ∧ Sp.nrm a b c) (k : ¬(Sp.sgO a b c = 0)) : Ev M1 (.pure 26 [rootA f1 f2 f3 f4 f5 f6 a b c]) (.tup [rootF (a * Sp.ivn a b c) (-b * Sp.ivn a b c) (Sp.rad (-b * Sp.ivn a b c) c), .int .i64 0]) [] := by
  obtain ⟨h, hn⟩ := h
  have hh := h
  obtain ⟨ha, hb, hc⟩ := h
  have t1 := okT_norm ha hb hc
  have t2 := okT_ivn ha hb hc hn
  refine call26 (oInv _ _ _ _ _ _ _ _ _ _ ⟨hh, fun x => absurd x k, fun _ => ⟨by unfold Sp.inI; omega, ⟨okT_R (okT_int (by unfold Sp.inI; omega)) (by omega), okT_R t1 (by omega), fun e => hn (Rat.num_eq_zero.1 e)⟩, ?_, ⟨⟨ha, okT_neg hb⟩, okT_R t2 (by omega)⟩, .refl _⟩⟩)
  have := hb.1
  unfold Sp.okB; omega
theorem rsq_zero : Sp.rsq 0 := rsq_of (s := 0) (Rat.mul_zero 0)
theorem ev9_y (f1 f2 f3 f4 f5 f6 : Bool) (a b c : Rat) (h : Sp.okO a b c) (k : Sp.isNN c) : Ev M1 (.pure 9 [ratA f1 f2 a, ratA f3 f4 b, ratA f5 f6 c]) (.tup [rootF (Sp.mkA a b c) (Sp.mkB b c) (Sp.mkC b c), .int .i64 0]) [] := by
  obtain ⟨ha, hb, hc⟩ := h
  refine call9 (pMake _ _ _ _ _ _ _ _ _ _ ⟨fun x => absurd k (nn_sgn.1 x), fun _ => ⟨fun s => ?_, fun s => ?_⟩⟩)
  · have hr := okT_rt s hc
    have hm := okT_mul hb hr
    refine ⟨okT_R hc (by omega), ⟨okT_R hb (by omega), okT_R hr (by omega)⟩, ⟨okT_R ha (by omega), okT_R hm (by omega)⟩, ?_⟩
    rw [show Sp.mkA a b c = a + b * Sp.rt c from if_pos s, show Sp.mkB b c = Sp.qi 0 from if_pos s, show Sp.mkC b c = Sp.qi 0 from if_pos s]
    exact .refl _
  · refine ⟨okT_R hc (by omega), ?_⟩
    have hc0 : c ≠ 0 := fun e => s (by rw [e]; exact rsq_zero)
    have e1 : Sp.prB b c = b := by
      unfold Sp.prB
      by_cases hb0 : b = 0
      · rw [if_pos (.inl hb0), hb0, qi_zero]
      · rw [if_neg fun x => x.elim hb0 hc0]
    have e2 : Sp.prC b c = Sp.rad b c := by
      unfold Sp.prC Sp.rad
      by_cases hb0 : b = 0
      · rw [if_pos (.inl hb0), if_pos hb0]
      · rw [if_neg fun x => x.elim hb0 hc0, if_neg hb0]
    rw [e1, e2, show Sp.mkA a b c = a from if_neg s, show Sp.mkB b c = b from if_neg s, show Sp.mkC b c = Sp.rad b c from if_neg s]
    exact .refl _
theorem ev9_n (f1 f2 f3 f4 f5 f6 : Bool) (a b c : Rat) (h : Sp.okO a b c) (k : ¬(Sp.isNN c)) : Ev M1 (.pure 9 [ratA f1 f2 a, ratA f3 f4 b, ratA f5 f6 c]) (.tup [noO, .int .i64 7]) [] :=
  call9 (pMake _ _ _ _ _ _ _ _ _ _ ⟨fun _ => weak_two weak_no (.refl _), fun x => absurd (nn_sgn.2 k) x⟩)
theorem ok_inI {n : Int} (h : Sp.inI n) : Sp.ok n := by
  have := inI_cnt h
  unfold Sp.ok; omega
theorem ev27 (fa : Bool) (a n : Int) (h : Sp.ok a ∧ Sp.inI n) : Ev M1 (.pure 27 [bigA fa a, .int .i64 n]) (.bool (decide (a = n))) [] :=
  call27 (lInt _ _ _ _ ⟨h.2, ⟨h.1, ok_inI h.2⟩, rfl⟩)
end Go.Av

namespace Go.Av
open Go.Proofs
set_option maxRecDepth 100000
def fi19 : Fi := ⟨38, [.cell 2 30]⟩
def kp19 : List (Nat × List Nat) := [(0, [1, 2]), (1, [1, 2, 3]), (2, [1, 2, 3, 4]), (3, [2, 5]), (4, [2])]
def fi24 : Fi := ⟨23, [.cell 6 30, .tmp 7]⟩
def kp24 : List (Nat × List Nat) := [(0, [0, 1, 2, 6]), (1, [6, 8, 9]), (2, [6, 7])]
def pOf_at (a b c d e f : Int) (Q : AV → Heap → Prop) : Prop := Wp M1 (.run fi19 (atC (cd Try.f19) []) [(0, .agg [.int .i16 a, .int .i16 b, .int .u16 c, .int .u8 d, .int .u8 e, .int .u8 f])] []) Q
def lMake_at (a b c : Int) (Q : AV → Heap → Prop) : Prop := Wp M1 (.run fi24 (atC (cd Try.f24) []) [(0, .int .i64 a), (1, .int .i64 b), (2, .int .i64 c)] []) Q
theorem call19 {args : List AV} {d : AV} (h : Wp M1 (.run fi19 [.code (cd Try.f19)] (argVars 0 args) []) (PureQ d)) : Ev M1 (.pure 19 args) d [] :=
  pure_pq Try.f19 fi19 (by kernel_rfl) (by kernel_rfl) (by kernel_rfl) (by kernel_rfl) h
theorem call24 {args : List AV} {d : AV} (h : Wp M1 (.run fi24 [.code (cd Try.f24)] (argVars 0 args) []) (PureQ d)) : Ev M1 (.pure 24 args) d [] :=
  pure_pq Try.f24 fi24 (by kernel_rfl) (by kernel_rfl) (by kernel_rfl) (by kernel_rfl) h
noncomputable abbrev zNxE1 := ag [vb false, vf [], vb false, vf [], vb false, vf [], vb false, vf [], vb false, vf [], vb false, vf []]
theorem pOf (a b c d e f : Int)  (dq : AV) (H :
    (-9223372036854775808 <= a /\ a <= 9223372036854775807) /\
    (-9223372036854775808 <= d /\ d <= 9223372036854775807) /\
    (-9223372036854775808 <= d + 1 /\ d + 1 <= 9223372036854775807) /\
    (Sp.okF a (d + 1)) /\
    (-9223372036854775808 <= b /\ b <= 9223372036854775807) /\
    (-9223372036854775808 <= e /\ e <= 9223372036854775807) /\
    (-9223372036854775808 <= e + 1 /\ e + 1 <= 9223372036854775807) /\
    (Sp.okF b (e + 1)) /\
    (-9223372036854775808 <= c /\ c <= 9223372036854775807) /\
    (-9223372036854775808 <= f /\ f <= 9223372036854775807) /\
    (-9223372036854775808 <= f + 1 /\ f + 1 <= 9223372036854775807) /\
    (Sp.okF c (f + 1)) /\
    ((Sp.isNN (Sp.qf c (f + 1))) -> (Sp.okO (Sp.qf a (d + 1)) (Sp.qf b (e + 1)) (Sp.qf c (f + 1))) /\
      Weak (rootF (Sp.mkA (Sp.qf a (d + 1)) (Sp.qf b (e + 1)) (Sp.qf c (f + 1))) (Sp.mkB (Sp.qf b (e + 1)) (Sp.qf c (f + 1))) (Sp.mkC (Sp.qf b (e + 1)) (Sp.qf c (f + 1)))) dq) /\
    (¬(Sp.isNN (Sp.qf c (f + 1))) -> (Sp.okO (Sp.qf a (d + 1)) (Sp.qf b (e + 1)) (Sp.qf c (f + 1))) /\
      Weak (ag [vb false, vf [], vb false, vf [], vb false, vf [], vb false, vf [], vb false, vf [], vb false, vf []]) dq)) :
  pOf_at a b c d e f (PureQ dq) := by
  unfold pOf_at
  obtain ⟨k1, H⟩ := H
  have w2 : wi a = a := wI64 k1
  obtain ⟨k3, H⟩ := H
  have w4 : wi d = d := wI64 k3
  obtain ⟨k5, H⟩ := H
  have w6 : wi (d + 1) = d + 1 := wI64 k5
  obtain ⟨k7, H⟩ := H
  obtain ⟨k8, H⟩ := H
  have w9 : wi b = b := wI64 k8
  obtain ⟨k10, H⟩ := H
  have w11 : wi e = e := wI64 k10
  obtain ⟨k12, H⟩ := H
  have w13 : wi (e + 1) = e + 1 := wI64 k12
  obtain ⟨k14, H⟩ := H
  obtain ⟨k15, H⟩ := H
  have w16 : wi c = c := wI64 k15
  obtain ⟨k17, H⟩ := H
  have w18 : wi f = f := wI64 k17
  obtain ⟨k19, H⟩ := H
  have w20 : wi (f + 1) = f + 1 := wI64 k19
  obtain ⟨k21, H⟩ := H
  rcases xm (Sp.isNN (Sp.qf c (f + 1))) with d22 | d22
  · have H := H.1 d22
    obtain ⟨k23, H⟩ := H
    exact path_rq (G := given kp19 [(1, 7, .call (ratA false false (Sp.qf a (d + 1))) none), (2, 7, .call (ratA false false (Sp.qf b (e + 1))) none), (3, 9, .call (ratA false false (Sp.qf c (f + 1))) none), (3, 10, .call (tu [rootF (Sp.mkA (Sp.qf a (d + 1)) (Sp.qf b (e + 1)) (Sp.qf c (f + 1))) (Sp.mkB (Sp.qf b (e + 1)) (Sp.qf c (f + 1))) (Sp.mkC (Sp.qf b (e + 1)) (Sp.qf c (f + 1))), vi 0]) none)] []) 1000 [] (calls := [pc 23 [vi (wi a), vi (wi (wi d + 1))] (ratA false false (Sp.qf a (d + 1))), pc 23 [vi (wi b), vi (wi (wi e + 1))] (ratA false false (Sp.qf b (e + 1))), pc 23 [vi (wi c), vi (wi (wi f + 1))] (ratA false false (Sp.qf c (f + 1))), pc 9 [ratA false false (Sp.qf a (d + 1)), ratA false false (Sp.qf b (e + 1)), ratA false false (Sp.qf c (f + 1))] (tu [rootF (Sp.mkA (Sp.qf a (d + 1)) (Sp.qf b (e + 1)) (Sp.qf c (f + 1))) (Sp.mkB (Sp.qf b (e + 1)) (Sp.qf c (f + 1))) (Sp.mkC (Sp.qf b (e + 1)) (Sp.qf c (f + 1))), vi 0])]) (rootF (Sp.mkA (Sp.qf a (d + 1)) (Sp.qf b (e + 1)) (Sp.qf c (f + 1))) (Sp.mkB (Sp.qf b (e + 1)) (Sp.qf c (f + 1))) (Sp.mkC (Sp.qf b (e + 1)) (Sp.qf c (f + 1)))) (by kernel_rfl) (bc rfl (bc rfl (bc rfl (bc rfl (bc rfl (bc rfl (bc rfl (bc rfl (bc rfl (bc rfl (bc rfl (bc rfl (bc rfl b0))))))))))))) q0 (ce (by (try rw [w2]); (try rw [w4]); (try rw [w6]); all_goals exact (@ev23 (a) (d + 1) k7)) (ce (by (try rw [w9]); (try rw [w11]); (try rw [w13]); all_goals exact (@ev23 (b) (e + 1) k14)) (ce (by (try rw [w16]); (try rw [w18]); (try rw [w20]); all_goals exact (@ev23 (c) (f + 1) k21)) (ce (@ev9_y (false) (false) (false) (false) (false) (false) (Sp.qf a (d + 1)) (Sp.qf b (e + 1)) (Sp.qf c (f + 1)) k23 d22) c0)))) H
  · have H := H.2 d22
    obtain ⟨k24, H⟩ := H
    exact path_rq (G := given kp19 [(1, 7, .call (ratA false false (Sp.qf a (d + 1))) none), (2, 7, .call (ratA false false (Sp.qf b (e + 1))) none), (3, 9, .call (ratA false false (Sp.qf c (f + 1))) none), (3, 10, .call (tu [zNxE1, vi 7]) none)] []) 1000 [] (calls := [pc 23 [vi (wi a), vi (wi (wi d + 1))] (ratA false false (Sp.qf a (d + 1))), pc 23 [vi (wi b), vi (wi (wi e + 1))] (ratA false false (Sp.qf b (e + 1))), pc 23 [vi (wi c), vi (wi (wi f + 1))] (ratA false false (Sp.qf c (f + 1))), pc 9 [ratA false false (Sp.qf a (d + 1)), ratA false false (Sp.qf b (e + 1)), ratA false false (Sp.qf c (f + 1))] (tu [zNxE1, vi 7])]) (zNxE1) (by kernel_rfl) (bc rfl (bc rfl (bc rfl (bc rfl (bc rfl (bc rfl (bc rfl (bc rfl (bc rfl (bc rfl (bc rfl (bc rfl (bc rfl b0))))))))))))) q0 (ce (by (try rw [w2]); (try rw [w4]); (try rw [w6]); all_goals exact (@ev23 (a) (d + 1) k7)) (ce (by (try rw [w9]); (try rw [w11]); (try rw [w13]); all_goals exact (@ev23 (b) (e + 1) k14)) (ce (by (try rw [w16]); (try rw [w18]); (try rw [w20]); all_goals exact (@ev23 (c) (f + 1) k21)) (ce (@ev9_n (false) (false) (false) (false) (false) (false) (Sp.qf a (d + 1)) (Sp.qf b (e + 1)) (Sp.qf c (f + 1)) k24 d22) c0)))) H
noncomputable abbrev zNxE2 := ag [vb false, vf [], vb false, vf [], vb false, vf [], vb false, vf [], vb false, vf [], vb false, vf []]
theorem lMake (a b c : Int)  (dq : AV) (H :
    (Sp.inI a) /\
    (Sp.inI b) /\
    (Sp.inI c) /\
    ((Sp.isNN (Sp.qi c)) -> (Sp.okO (Sp.qi a) (Sp.qi b) (Sp.qi c)) /\
      Weak (tu [rootF (Sp.mkA (Sp.qi a) (Sp.qi b) (Sp.qi c)) (Sp.mkB (Sp.qi b) (Sp.qi c)) (Sp.mkC (Sp.qi b) (Sp.qi c)), vb true]) dq) /\
    (¬(Sp.isNN (Sp.qi c)) -> (Sp.okO (Sp.qi a) (Sp.qi b) (Sp.qi c)) /\
      Weak (tu [ag [vb false, vf [], vb false, vf [], vb false, vf [], vb false, vf [], vb false, vf [], vb false, vf []], vb false]) dq)) :
  lMake_at a b c (PureQ dq) := by
  unfold lMake_at
  obtain ⟨k1, H⟩ := H
  obtain ⟨k2, H⟩ := H
  obtain ⟨k3, H⟩ := H
  rcases xm (Sp.isNN (Sp.qi c)) with d4 | d4
  · have H := H.1 d4
    obtain ⟨k5, H⟩ := H
    exact path_rq (G := given kp24 [(1, 1, .call (ratA false false (Sp.qi a)) none), (1, 3, .call (ratA false false (Sp.qi b)) none), (1, 5, .call (ratA false false (Sp.qi c)) none), (1, 6, .call (tu [rootF (Sp.mkA (Sp.qi a) (Sp.qi b) (Sp.qi c)) (Sp.mkB (Sp.qi b) (Sp.qi c)) (Sp.mkC (Sp.qi b) (Sp.qi c)), vi 0]) none)] []) 1000 [] (tu [rootF (Sp.mkA (Sp.qi a) (Sp.qi b) (Sp.qi c)) (Sp.mkB (Sp.qi b) (Sp.qi c)) (Sp.mkC (Sp.qi b) (Sp.qi c)), vb true]) (by kernel_rfl) (bc rfl (bc rfl (bc rfl b0))) q0 (ce (@ev22 (a) k1) (ce (@ev22 (b) k2) (ce (@ev22 (c) k3) (ce (@ev8_y (false) (false) (false) (false) (false) (false) (Sp.qi a) (Sp.qi b) (Sp.qi c) k5 d4) c0)))) H
  · have H := H.2 d4
    obtain ⟨k6, H⟩ := H
    exact path_rq (G := given kp24 [(1, 1, .call (ratA false false (Sp.qi a)) none), (1, 3, .call (ratA false false (Sp.qi b)) none), (1, 5, .call (ratA false false (Sp.qi c)) none), (1, 6, .call (tu [zNxE2, vi 7]) none)] []) 1000 [] (tu [zNxE2, vb false]) (by kernel_rfl) (bc rfl (bc rfl (bc rfl b0))) q0 (ce (@ev22 (a) k1) (ce (@ev22 (b) k2) (ce (@ev22 (c) k3) (ce (@ev8_n (false) (false) (false) (false) (false) (false) (Sp.qi a) (Sp.qi b) (Sp.qi c) k6 d4) c0)))) H
end Go.Av

namespace Go.Av
open Go.Proofs
theorem cnt_le {n m : Nat} {k : Nat} (h : n ≤ m) (hm : Sp.cnt m ≤ k) : Sp.cnt n ≤ k := Nat.le_trans (cnt_mono h) hm
theorem okT_qf {n d : Int} (h : Sp.okF n d) : Sp.okT 3 (Sp.qf n d) := by
  obtain ⟨h1, h2, h3⟩ := h
  obtain ⟨e1, e2⟩ := divInt_le (p := n) h3
  rw [qf_eq]
  exact ⟨cnt_le e1 (inI_cnt h1), cnt_le e2 (inI_cnt h2)⟩
def Sp.okSd (a b c d e f : Int) : Prop := (-32768 ≤ a ∧ a ≤ 32767) ∧ (-32768 ≤ b ∧ b ≤ 32767) ∧ (0 ≤ c ∧ c ≤ 65535) ∧ (0 ≤ d ∧ d ≤ 255) ∧ (0 ≤ e ∧ e ≤ 255) ∧ (0 ≤ f ∧ f ≤ 255)
theorem nn_qf {n d : Int} (h : 0 ≤ n) (hd : 0 < d) : Sp.isNN (Sp.qf n d) := by
  rw [qf_eq]
  obtain ⟨e1, _⟩ := rat_pos (a := n) hd
  unfold Sp.isNN
  rw [e1]
  exact Int.ediv_nonneg h (by omega)
theorem okT_O {a b c : Rat} {k : Nat} (h1 : Sp.okT k a) (h2 : Sp.okT k b) (h3 : Sp.okT k c) (hk : k ≤ 9000) : Sp.okO a b c := ⟨okT_le h1 hk, okT_le h2 hk, okT_le h3 hk⟩
theorem ev19 (a b c d e f : Int) (h : Sp.okSd a b c d e f) : Ev M1 (.pure 19 [.agg [.int .i16 a, .int .i16 b, .int .u16 c, .int .u8 d, .int .u8 e, .int .u8 f]]) (rootF (Sp.mkA (Sp.qf a (d + 1)) (Sp.qf b (e + 1)) (Sp.qf c (f + 1))) (Sp.mkB (Sp.qf b (e + 1)) (Sp.qf c (f + 1))) (Sp.mkC (Sp.qf b (e + 1)) (Sp.qf c (f + 1)))) [] := by
  obtain ⟨ha, hb, hc, hd, he, hf⟩ := h
  have f1 : Sp.okF a (d + 1) := by unfold Sp.okF Sp.inI; omega
  have f2 : Sp.okF b (e + 1) := by unfold Sp.okF Sp.inI; omega
  have f3 : Sp.okF c (f + 1) := by unfold Sp.okF Sp.inI; omega
  have nn := nn_qf (n := c) (d := f + 1) hc.1 (by omega)
  exact call19 (pOf _ _ _ _ _ _ _ ⟨by omega, by omega, by omega, f1, by omega, by omega, by omega, f2, by omega, by omega, by omega, f3, fun _ => ⟨okT_O (okT_qf f1) (okT_qf f2) (okT_qf f3) (by omega), .refl _⟩, fun x => absurd nn x⟩)
def Sp.okM (a b c : Int) : Prop := Sp.inI a ∧ Sp.inI b ∧ Sp.inI c ∧ 0 ≤ c
theorem nn_qi {n : Int} (h : 0 ≤ n) : Sp.isNN (Sp.qi n) := by
  rw [qi_eq]
  unfold Sp.isNN
  rw [Rat.num_intCast]; exact h
theorem ev24 (a b c : Int) (h : Sp.okM a b c) : Ev M1 (.pure 24 [.int .i64 a, .int .i64 b, .int .i64 c]) (.tup [rootF (Sp.mkA (Sp.qi a) (Sp.qi b) (Sp.qi c)) (Sp.mkB (Sp.qi b) (Sp.qi c)) (Sp.mkC (Sp.qi b) (Sp.qi c)), .bool true]) [] := by
  obtain ⟨h1, h2, h3, h4⟩ := h
  exact call24 (lMake _ _ _ _ ⟨h1, h2, h3, fun _ => ⟨okT_O (okT_int h1) (okT_int h2) (okT_int h3) (by omega), .refl _⟩, fun x => absurd (nn_qi h4) x⟩)
end Go.Av

namespace Go.Av
open Go.Proofs
theorem pack46 (cs : List AV) : packA Try.prog 46 cs = .agg cs := by
  simp [packA, aggT, Try.underlying46]
set_option maxRecDepth 100000 in
theorem surd_ty {n : Nat} {cs : List AV} (h : Ty Try.prog (n + 1 + 1) 45 cs) : ∃ a b c d e f, cs = [.int .i16 a, .int .i16 b, .int .u16 c, .int .u8 d, .int .u8 e, .int .u8 f] ∧ Sp.okSd a b c d e f := by
  have h := ty_struct Try.underlying45 h
  obtain ⟨a0, b0, rfl, h0, a1, b1, rfl, h1, a2, b2, rfl, h2, a3, b3, rfl, h3, a4, b4, rfl, h4, a5, b5, rfl, h5, rfl⟩ := h
  obtain ⟨x0, rfl, l0, u0⟩ := ty_int Try.underlying42 h0
  obtain ⟨x1, rfl, l1, u1⟩ := ty_int Try.underlying42 h1
  obtain ⟨x2, rfl, l2, u2⟩ := ty_int Try.underlying43 h2
  obtain ⟨x3, rfl, l3, u3⟩ := ty_int Try.underlying5 h3
  obtain ⟨x4, rfl, l4, u4⟩ := ty_int Try.underlying5 h4
  obtain ⟨x5, rfl, l5, u5⟩ := ty_int Try.underlying5 h5
  have m1 : IntKind.i16.min = -32768 := rfl
  have m2 : IntKind.i16.max = 32767 := rfl
  have m3 : IntKind.u16.min = 0 := rfl
  have m4 : IntKind.u16.max = 65535 := rfl
  have m5 : IntKind.u8.min = 0 := rfl
  have m6 : IntKind.u8.max = 255 := rfl
  exact ⟨x0, x1, x2, x3, x4, x5, rfl, by unfold Sp.okSd; omega⟩
set_option maxRecDepth 100000 in
theorem surds_ty {n : Nat} {cs : List AV} (h : Ty Try.prog (n + 1 + 1 + 1) 46 cs) : ∃ a1 b1 c1 d1 e1 f1 a2 b2 c2 d2 e2 f2 a3 b3 c3 d3 e3 f3, cs = [.int .i16 a1, .int .i16 b1, .int .u16 c1, .int .u8 d1, .int .u8 e1, .int .u8 f1, .int .i16 a2, .int .i16 b2, .int .u16 c2, .int .u8 d2, .int .u8 e2, .int .u8 f2, .int .i16 a3, .int .i16 b3, .int .u16 c3, .int .u8 d3, .int .u8 e3, .int .u8 f3] ∧ Sp.okSd a1 b1 c1 d1 e1 f1 ∧ Sp.okSd a2 b2 c2 d2 e2 f2 ∧ Sp.okSd a3 b3 c3 d3 e3 f3 := by
  unfold Ty at h
  rw [Try.underlying46] at h
  obtain ⟨a0, b0, rfl, h0, a1, b1, rfl, h1, a2, b2, rfl, h2, rfl⟩ := h
  obtain ⟨x1, x2, x3, x4, x5, x6, rfl, k1⟩ := surd_ty h0
  obtain ⟨y1, y2, y3, y4, y5, y6, rfl, k2⟩ := surd_ty h1
  obtain ⟨z1, z2, z3, z4, z5, z6, rfl, k3⟩ := surd_ty h2
  exact ⟨x1, x2, x3, x4, x5, x6, y1, y2, y3, y4, y5, y6, z1, z2, z3, z4, z5, z6, rfl, k1, k2, k3⟩
end Go.Av

namespace Go.Av
open Go.Proofs
set_option maxRecDepth 100000
def fi6 : Fi := ⟨102, [.tmp 0]⟩
def kp6 : List (Nat × List Nat) := [(0, []), (1, [1, 2]), (2, [1, 2, 3, 4]), (3, [1, 2, 3, 4, 5, 6]), (4, [1, 2, 3, 4, 5, 6, 7, 8]), (5, [5, 7, 60]), (6, [0]), (7, [5, 7, 9, 10]), (8, [5, 7, 9, 10, 11]), (9, [5, 7, 9, 10, 11, 13]), (10, [0])]
def lAwake_at  (Q : AV → Heap → Prop) : Prop := Wp M1 (.run fi6 (atC (cd Try.f6) []) [] []) Q
theorem call6 {args : List AV} {d : AV} (h : Wp M1 (.run fi6 [.code (cd Try.f6)] (argVars 0 args) []) (PureQ d)) : Ev M1 (.pure 6 args) d [] :=
  pure_pq Try.f6 fi6 (by kernel_rfl) (by kernel_rfl) (by kernel_rfl) (by kernel_rfl) h
noncomputable abbrev zNxF1 := Sp.mkA (Sp.qi 1) (Sp.qi 1) (Sp.qi 2) * Sp.ivn (Sp.mkA (Sp.qi 1) (Sp.qi 1) (Sp.qi 2)) (Sp.mkB (Sp.qi 1) (Sp.qi 2)) (Sp.mkC (Sp.qi 1) (Sp.qi 2)) = Sp.mkA (Sp.qf (-1) (0 + 1)) (Sp.qf 1 (0 + 1)) (Sp.qf 2 (0 + 1)) /\ -Sp.mkB (Sp.qi 1) (Sp.qi 2) * Sp.ivn (Sp.mkA (Sp.qi 1) (Sp.qi 1) (Sp.qi 2)) (Sp.mkB (Sp.qi 1) (Sp.qi 2)) (Sp.mkC (Sp.qi 1) (Sp.qi 2)) = Sp.mkB (Sp.qf 1 (0 + 1)) (Sp.qf 2 (0 + 1)) /\ Sp.rad (-Sp.mkB (Sp.qi 1) (Sp.qi 2) * Sp.ivn (Sp.mkA (Sp.qi 1) (Sp.qi 1) (Sp.qi 2)) (Sp.mkB (Sp.qi 1) (Sp.qi 2)) (Sp.mkC (Sp.qi 1) (Sp.qi 2))) (Sp.mkC (Sp.qi 1) (Sp.qi 2)) = Sp.mkC (Sp.qf 1 (0 + 1)) (Sp.qf 2 (0 + 1))
noncomputable abbrev zNxF2 := Sp.mkA (Sp.qi 0) (Sp.qi 1) (Sp.qi 8) = Sp.mkA (Sp.qf 0 (0 + 1)) (Sp.qf 1 (0 + 1)) (Sp.qf 8 (0 + 1)) /\ Sp.mkB (Sp.qi 1) (Sp.qi 8) = Sp.mkB (Sp.qf 1 (0 + 1)) (Sp.qf 8 (0 + 1)) /\ Sp.mkC (Sp.qi 1) (Sp.qi 8) = Sp.mkC (Sp.qf 1 (0 + 1)) (Sp.qf 8 (0 + 1))
noncomputable abbrev zNxF3 := ag [vb false, vf [], vb false, vf [], vb false, vf [], vb false, vf [], vb false, vf [], vb false, vf []]
noncomputable abbrev zNxF4 := Sp.fl (Sp.mkA (Sp.qi 1) (Sp.qi 1) (Sp.qi 2)) (Sp.mkB (Sp.qi 1) (Sp.qi 2)) (Sp.mkC (Sp.qi 1) (Sp.qi 2)) = 2
noncomputable abbrev zNxF5 := Sp.fl (Sp.mkA (Sp.qi 1) (Sp.qi (-1)) (Sp.qi 2)) (Sp.mkB (Sp.qi (-1)) (Sp.qi 2)) (Sp.mkC (Sp.qi (-1)) (Sp.qi 2))
noncomputable abbrev zNxF6 := Sp.fl (Sp.mkA (Sp.qi 1) (Sp.qi (-1)) (Sp.qi 2)) (Sp.mkB (Sp.qi (-1)) (Sp.qi 2)) (Sp.mkC (Sp.qi (-1)) (Sp.qi 2)) = -1
noncomputable abbrev zNxF7 := Sp.fl (Sp.mkA (Sp.qi 1) (Sp.qi 1) (Sp.qi 2)) (Sp.mkB (Sp.qi 1) (Sp.qi 2)) (Sp.mkC (Sp.qi 1) (Sp.qi 2))
noncomputable abbrev zNxF8 := Sp.mkA (Sp.qi 1) (Sp.qi 2) (Sp.qf 9 4) = Sp.qi 4 /\ Sp.mkB (Sp.qi 2) (Sp.qf 9 4) = Sp.qi 0 /\ Sp.mkC (Sp.qi 2) (Sp.qf 9 4) = Sp.qi 0
noncomputable abbrev zNxF9 := Sp.mkA (Sp.qf 0 (0 + 1)) (Sp.qf 1 (0 + 1)) (Sp.qf 8 (0 + 1))
noncomputable abbrev zNxF10 := Sp.sgO (Sp.mkA (Sp.qi 3) (Sp.qi (-2)) (Sp.qi 2)) (Sp.mkB (Sp.qi (-2)) (Sp.qi 2)) (Sp.mkC (Sp.qi (-2)) (Sp.qi 2))
noncomputable abbrev zNxF11 := Sp.sgO (Sp.mkA (Sp.qi 4) (Sp.qi (-3)) (Sp.qi 2)) (Sp.mkB (Sp.qi (-3)) (Sp.qi 2)) (Sp.mkC (Sp.qi (-3)) (Sp.qi 2))
noncomputable abbrev zNxF12 := Sp.mkA (Sp.qf (-1) (0 + 1)) (Sp.qf 1 (0 + 1)) (Sp.qf 2 (0 + 1))
noncomputable abbrev zNxF13 := Sp.rad (-Sp.mkB (Sp.qi 1) (Sp.qi 2) * Sp.ivn (Sp.mkA (Sp.qi 1) (Sp.qi 1) (Sp.qi 2)) (Sp.mkB (Sp.qi 1) (Sp.qi 2)) (Sp.mkC (Sp.qi 1) (Sp.qi 2))) (Sp.mkC (Sp.qi 1) (Sp.qi 2))
noncomputable abbrev zNxF14 := Sp.mkA (Sp.qi 1) (Sp.qi 1) (Sp.qi 2) * Sp.ivn (Sp.mkA (Sp.qi 1) (Sp.qi 1) (Sp.qi 2)) (Sp.mkB (Sp.qi 1) (Sp.qi 2)) (Sp.mkC (Sp.qi 1) (Sp.qi 2))
noncomputable abbrev zNxF15 := ag [AV.int IntKind.i16 (-1), AV.int IntKind.i16 1, AV.int IntKind.u16 2, AV.int IntKind.u8 0, AV.int IntKind.u8 0, AV.int IntKind.u8 0]
noncomputable abbrev zNxF16 := ag [AV.int IntKind.i16 0, AV.int IntKind.i16 1, AV.int IntKind.u16 8, AV.int IntKind.u8 0, AV.int IntKind.u8 0, AV.int IntKind.u8 0]
noncomputable abbrev zNxF17 := bif bif bif decide zNxF1 then decide zNxF4 else false then decide zNxF6 else false then Sp.sgO (Sp.mkA (Sp.qi 3) (Sp.qi (-2)) (Sp.qi 2)) (Sp.mkB (Sp.qi (-2)) (Sp.qi 2)) (Sp.mkC (Sp.qi (-2)) (Sp.qi 2)) == 1 else false
theorem lAwake   (dq : AV) (H :
    (Sp.inI 1) /\
    (Sp.inI 2) /\
    (Sp.okF 9 4) /\
    ((Sp.isNN (Sp.qf 9 4)) -> (Sp.okO (Sp.qi 1) (Sp.qi 2) (Sp.qf 9 4)) /\
      (Sp.okM 0 1 8) /\
      (Sp.okM 1 1 2) /\
      (Sp.okM 1 (-1) 2) /\
      ((¬(false = true)) -> (Sp.inI 4)) /\
      (Sp.okO (Sp.mkA (Sp.qi 1) (Sp.qi 2) (Sp.qf 9 4)) (Sp.mkB (Sp.qi 2) (Sp.qf 9 4)) (Sp.mkC (Sp.qi 2) (Sp.qf 9 4)) /\ Sp.okO (Sp.qi 4) (Sp.qi 0) (Sp.qi 0)) /\
      ((¬(¬(Sp.mkA (Sp.qi 1) (Sp.qi 2) (Sp.qf 9 4) = Sp.qi 4 /\ Sp.mkB (Sp.qi 2) (Sp.qf 9 4) = Sp.qi 0 /\ Sp.mkC (Sp.qi 2) (Sp.qf 9 4) = Sp.qi 0))) -> (Sp.okSd 0 1 8 0 0 0)) /\
      ((¬(¬(Sp.mkA (Sp.qi 1) (Sp.qi 2) (Sp.qf 9 4) = Sp.qi 4 /\ Sp.mkB (Sp.qi 2) (Sp.qf 9 4) = Sp.qi 0 /\ Sp.mkC (Sp.qi 2) (Sp.qf 9 4) = Sp.qi 0))) -> (Sp.okO (Sp.mkA (Sp.qi 0) (Sp.qi 1) (Sp.qi 8)) (Sp.mkB (Sp.qi 1) (Sp.qi 8)) (Sp.mkC (Sp.qi 1) (Sp.qi 8)) /\ Sp.okO (Sp.mkA (Sp.qf 0 (0 + 1)) (Sp.qf 1 (0 + 1)) (Sp.qf 8 (0 + 1))) (Sp.mkB (Sp.qf 1 (0 + 1)) (Sp.qf 8 (0 + 1))) (Sp.mkC (Sp.qf 1 (0 + 1)) (Sp.qf 8 (0 + 1))))) /\
      (((¬(Sp.mkA (Sp.qi 1) (Sp.qi 2) (Sp.qf 9 4) = Sp.qi 4 /\ Sp.mkB (Sp.qi 2) (Sp.qf 9 4) = Sp.qi 0 /\ Sp.mkC (Sp.qi 2) (Sp.qf 9 4) = Sp.qi 0)) ∨ (¬(Sp.mkA (Sp.qi 0) (Sp.qi 1) (Sp.qi 8) = Sp.mkA (Sp.qf 0 (0 + 1)) (Sp.qf 1 (0 + 1)) (Sp.qf 8 (0 + 1)) /\ Sp.mkB (Sp.qi 1) (Sp.qi 8) = Sp.mkB (Sp.qf 1 (0 + 1)) (Sp.qf 8 (0 + 1)) /\ Sp.mkC (Sp.qi 1) (Sp.qi 8) = Sp.mkC (Sp.qf 1 (0 + 1)) (Sp.qf 8 (0 + 1))))) -> vb false = dq) /\
      (¬((¬(Sp.mkA (Sp.qi 1) (Sp.qi 2) (Sp.qf 9 4) = Sp.qi 4 /\ Sp.mkB (Sp.qi 2) (Sp.qf 9 4) = Sp.qi 0 /\ Sp.mkC (Sp.qi 2) (Sp.qf 9 4) = Sp.qi 0)) ∨ (¬(Sp.mkA (Sp.qi 0) (Sp.qi 1) (Sp.qi 8) = Sp.mkA (Sp.qf 0 (0 + 1)) (Sp.qf 1 (0 + 1)) (Sp.qf 8 (0 + 1)) /\ Sp.mkB (Sp.qi 1) (Sp.qi 8) = Sp.mkB (Sp.qf 1 (0 + 1)) (Sp.qf 8 (0 + 1)) /\ Sp.mkC (Sp.qi 1) (Sp.qi 8) = Sp.mkC (Sp.qf 1 (0 + 1)) (Sp.qf 8 (0 + 1))))) -> ((Sp.sgO (Sp.mkA (Sp.qi 1) (Sp.qi 1) (Sp.qi 2)) (Sp.mkB (Sp.qi 1) (Sp.qi 2)) (Sp.mkC (Sp.qi 1) (Sp.qi 2)) = 0) -> (Sp.okO (Sp.mkA (Sp.qi 1) (Sp.qi 1) (Sp.qi 2)) (Sp.mkB (Sp.qi 1) (Sp.qi 2)) (Sp.mkC (Sp.qi 1) (Sp.qi 2))) /\
          (Sp.okM 3 (-2) 2) /\
          (Sp.okM 4 (-3) 2) /\
          ((false = true) -> (Sp.okSd (-1) 1 2 0 0 0)) /\
          ∃ (b1 : Bool),
          ((false = true) -> (Ev M1 (Conf.pure 11 [ag [vb false, vf [], vb false, vf [], vb false, vf [], vb false, vf [], vb false, vf [], vb false, vf []], rootF (Sp.mkA (Sp.qf (-1) (0 + 1)) (Sp.qf 1 (0 + 1)) (Sp.qf 2 (0 + 1))) (Sp.mkB (Sp.qf 1 (0 + 1)) (Sp.qf 2 (0 + 1))) (Sp.mkC (Sp.qf 1 (0 + 1)) (Sp.qf 2 (0 + 1)))]) (vb b1) [])) /\
          ((false = true) -> (Sp.ok (Sp.fl (Sp.mkA (Sp.qi 1) (Sp.qi 1) (Sp.qi 2)) (Sp.mkB (Sp.qi 1) (Sp.qi 2)) (Sp.mkC (Sp.qi 1) (Sp.qi 2))) /\ Sp.inI 2)) /\
          ((false = true) -> (Sp.okO (Sp.mkA (Sp.qi 1) (Sp.qi (-1)) (Sp.qi 2)) (Sp.mkB (Sp.qi (-1)) (Sp.qi 2)) (Sp.mkC (Sp.qi (-1)) (Sp.qi 2)))) /\
          ((false = true) -> (Sp.ok (Sp.fl (Sp.mkA (Sp.qi 1) (Sp.qi (-1)) (Sp.qi 2)) (Sp.mkB (Sp.qi (-1)) (Sp.qi 2)) (Sp.mkC (Sp.qi (-1)) (Sp.qi 2))) /\ Sp.inI (-1))) /\
          ((false = true) -> (Sp.okO (Sp.mkA (Sp.qi 3) (Sp.qi (-2)) (Sp.qi 2)) (Sp.mkB (Sp.qi (-2)) (Sp.qi 2)) (Sp.mkC (Sp.qi (-2)) (Sp.qi 2)))) /\
          ((false = true) -> (Sp.okO (Sp.mkA (Sp.qi 4) (Sp.qi (-3)) (Sp.qi 2)) (Sp.mkB (Sp.qi (-3)) (Sp.qi 2)) (Sp.mkC (Sp.qi (-3)) (Sp.qi 2)))) /\
          vb false = dq) /\
        (¬(Sp.sgO (Sp.mkA (Sp.qi 1) (Sp.qi 1) (Sp.qi 2)) (Sp.mkB (Sp.qi 1) (Sp.qi 2)) (Sp.mkC (Sp.qi 1) (Sp.qi 2)) = 0) -> (Sp.okO (Sp.mkA (Sp.qi 1) (Sp.qi 1) (Sp.qi 2)) (Sp.mkB (Sp.qi 1) (Sp.qi 2)) (Sp.mkC (Sp.qi 1) (Sp.qi 2)) /\ Sp.nrm (Sp.mkA (Sp.qi 1) (Sp.qi 1) (Sp.qi 2)) (Sp.mkB (Sp.qi 1) (Sp.qi 2)) (Sp.mkC (Sp.qi 1) (Sp.qi 2))) /\
          (Sp.okM 3 (-2) 2) /\
          (Sp.okM 4 (-3) 2) /\
          ((true = true) -> (Sp.okSd (-1) 1 2 0 0 0)) /\
          (Sp.okO (Sp.mkA (Sp.qi 1) (Sp.qi 1) (Sp.qi 2) * Sp.ivn (Sp.mkA (Sp.qi 1) (Sp.qi 1) (Sp.qi 2)) (Sp.mkB (Sp.qi 1) (Sp.qi 2)) (Sp.mkC (Sp.qi 1) (Sp.qi 2))) (-Sp.mkB (Sp.qi 1) (Sp.qi 2) * Sp.ivn (Sp.mkA (Sp.qi 1) (Sp.qi 1) (Sp.qi 2)) (Sp.mkB (Sp.qi 1) (Sp.qi 2)) (Sp.mkC (Sp.qi 1) (Sp.qi 2))) (Sp.rad (-Sp.mkB (Sp.qi 1) (Sp.qi 2) * Sp.ivn (Sp.mkA (Sp.qi 1) (Sp.qi 1) (Sp.qi 2)) (Sp.mkB (Sp.qi 1) (Sp.qi 2)) (Sp.mkC (Sp.qi 1) (Sp.qi 2))) (Sp.mkC (Sp.qi 1) (Sp.qi 2))) /\ Sp.okO (Sp.mkA (Sp.qf (-1) (0 + 1)) (Sp.qf 1 (0 + 1)) (Sp.qf 2 (0 + 1))) (Sp.mkB (Sp.qf 1 (0 + 1)) (Sp.qf 2 (0 + 1))) (Sp.mkC (Sp.qf 1 (0 + 1)) (Sp.qf 2 (0 + 1)))) /\
          ((Sp.mkA (Sp.qi 1) (Sp.qi 1) (Sp.qi 2) * Sp.ivn (Sp.mkA (Sp.qi 1) (Sp.qi 1) (Sp.qi 2)) (Sp.mkB (Sp.qi 1) (Sp.qi 2)) (Sp.mkC (Sp.qi 1) (Sp.qi 2)) = Sp.mkA (Sp.qf (-1) (0 + 1)) (Sp.qf 1 (0 + 1)) (Sp.qf 2 (0 + 1)) /\ -Sp.mkB (Sp.qi 1) (Sp.qi 2) * Sp.ivn (Sp.mkA (Sp.qi 1) (Sp.qi 1) (Sp.qi 2)) (Sp.mkB (Sp.qi 1) (Sp.qi 2)) (Sp.mkC (Sp.qi 1) (Sp.qi 2)) = Sp.mkB (Sp.qf 1 (0 + 1)) (Sp.qf 2 (0 + 1)) /\ Sp.rad (-Sp.mkB (Sp.qi 1) (Sp.qi 2) * Sp.ivn (Sp.mkA (Sp.qi 1) (Sp.qi 1) (Sp.qi 2)) (Sp.mkB (Sp.qi 1) (Sp.qi 2)) (Sp.mkC (Sp.qi 1) (Sp.qi 2))) (Sp.mkC (Sp.qi 1) (Sp.qi 2)) = Sp.mkC (Sp.qf 1 (0 + 1)) (Sp.qf 2 (0 + 1))) -> (Sp.okO (Sp.mkA (Sp.qi 1) (Sp.qi 1) (Sp.qi 2)) (Sp.mkB (Sp.qi 1) (Sp.qi 2)) (Sp.mkC (Sp.qi 1) (Sp.qi 2)))) /\
          ((Sp.mkA (Sp.qi 1) (Sp.qi 1) (Sp.qi 2) * Sp.ivn (Sp.mkA (Sp.qi 1) (Sp.qi 1) (Sp.qi 2)) (Sp.mkB (Sp.qi 1) (Sp.qi 2)) (Sp.mkC (Sp.qi 1) (Sp.qi 2)) = Sp.mkA (Sp.qf (-1) (0 + 1)) (Sp.qf 1 (0 + 1)) (Sp.qf 2 (0 + 1)) /\ -Sp.mkB (Sp.qi 1) (Sp.qi 2) * Sp.ivn (Sp.mkA (Sp.qi 1) (Sp.qi 1) (Sp.qi 2)) (Sp.mkB (Sp.qi 1) (Sp.qi 2)) (Sp.mkC (Sp.qi 1) (Sp.qi 2)) = Sp.mkB (Sp.qf 1 (0 + 1)) (Sp.qf 2 (0 + 1)) /\ Sp.rad (-Sp.mkB (Sp.qi 1) (Sp.qi 2) * Sp.ivn (Sp.mkA (Sp.qi 1) (Sp.qi 1) (Sp.qi 2)) (Sp.mkB (Sp.qi 1) (Sp.qi 2)) (Sp.mkC (Sp.qi 1) (Sp.qi 2))) (Sp.mkC (Sp.qi 1) (Sp.qi 2)) = Sp.mkC (Sp.qf 1 (0 + 1)) (Sp.qf 2 (0 + 1))) -> (Sp.ok (Sp.fl (Sp.mkA (Sp.qi 1) (Sp.qi 1) (Sp.qi 2)) (Sp.mkB (Sp.qi 1) (Sp.qi 2)) (Sp.mkC (Sp.qi 1) (Sp.qi 2))) /\ Sp.inI 2)) /\
          (((Sp.mkA (Sp.qi 1) (Sp.qi 1) (Sp.qi 2) * Sp.ivn (Sp.mkA (Sp.qi 1) (Sp.qi 1) (Sp.qi 2)) (Sp.mkB (Sp.qi 1) (Sp.qi 2)) (Sp.mkC (Sp.qi 1) (Sp.qi 2)) = Sp.mkA (Sp.qf (-1) (0 + 1)) (Sp.qf 1 (0 + 1)) (Sp.qf 2 (0 + 1)) /\ -Sp.mkB (Sp.qi 1) (Sp.qi 2) * Sp.ivn (Sp.mkA (Sp.qi 1) (Sp.qi 1) (Sp.qi 2)) (Sp.mkB (Sp.qi 1) (Sp.qi 2)) (Sp.mkC (Sp.qi 1) (Sp.qi 2)) = Sp.mkB (Sp.qf 1 (0 + 1)) (Sp.qf 2 (0 + 1)) /\ Sp.rad (-Sp.mkB (Sp.qi 1) (Sp.qi 2) * Sp.ivn (Sp.mkA (Sp.qi 1) (Sp.qi 1) (Sp.qi 2)) (Sp.mkB (Sp.qi 1) (Sp.qi 2)) (Sp.mkC (Sp.qi 1) (Sp.qi 2))) (Sp.mkC (Sp.qi 1) (Sp.qi 2)) = Sp.mkC (Sp.qf 1 (0 + 1)) (Sp.qf 2 (0 + 1))) /\ (Sp.fl (Sp.mkA (Sp.qi 1) (Sp.qi 1) (Sp.qi 2)) (Sp.mkB (Sp.qi 1) (Sp.qi 2)) (Sp.mkC (Sp.qi 1) (Sp.qi 2)) = 2)) -> (Sp.okO (Sp.mkA (Sp.qi 1) (Sp.qi (-1)) (Sp.qi 2)) (Sp.mkB (Sp.qi (-1)) (Sp.qi 2)) (Sp.mkC (Sp.qi (-1)) (Sp.qi 2)))) /\
          (((Sp.mkA (Sp.qi 1) (Sp.qi 1) (Sp.qi 2) * Sp.ivn (Sp.mkA (Sp.qi 1) (Sp.qi 1) (Sp.qi 2)) (Sp.mkB (Sp.qi 1) (Sp.qi 2)) (Sp.mkC (Sp.qi 1) (Sp.qi 2)) = Sp.mkA (Sp.qf (-1) (0 + 1)) (Sp.qf 1 (0 + 1)) (Sp.qf 2 (0 + 1)) /\ -Sp.mkB (Sp.qi 1) (Sp.qi 2) * Sp.ivn (Sp.mkA (Sp.qi 1) (Sp.qi 1) (Sp.qi 2)) (Sp.mkB (Sp.qi 1) (Sp.qi 2)) (Sp.mkC (Sp.qi 1) (Sp.qi 2)) = Sp.mkB (Sp.qf 1 (0 + 1)) (Sp.qf 2 (0 + 1)) /\ Sp.rad (-Sp.mkB (Sp.qi 1) (Sp.qi 2) * Sp.ivn (Sp.mkA (Sp.qi 1) (Sp.qi 1) (Sp.qi 2)) (Sp.mkB (Sp.qi 1) (Sp.qi 2)) (Sp.mkC (Sp.qi 1) (Sp.qi 2))) (Sp.mkC (Sp.qi 1) (Sp.qi 2)) = Sp.mkC (Sp.qf 1 (0 + 1)) (Sp.qf 2 (0 + 1))) /\ (Sp.fl (Sp.mkA (Sp.qi 1) (Sp.qi 1) (Sp.qi 2)) (Sp.mkB (Sp.qi 1) (Sp.qi 2)) (Sp.mkC (Sp.qi 1) (Sp.qi 2)) = 2)) -> (Sp.ok (Sp.fl (Sp.mkA (Sp.qi 1) (Sp.qi (-1)) (Sp.qi 2)) (Sp.mkB (Sp.qi (-1)) (Sp.qi 2)) (Sp.mkC (Sp.qi (-1)) (Sp.qi 2))) /\ Sp.inI (-1))) /\
          ((((Sp.mkA (Sp.qi 1) (Sp.qi 1) (Sp.qi 2) * Sp.ivn (Sp.mkA (Sp.qi 1) (Sp.qi 1) (Sp.qi 2)) (Sp.mkB (Sp.qi 1) (Sp.qi 2)) (Sp.mkC (Sp.qi 1) (Sp.qi 2)) = Sp.mkA (Sp.qf (-1) (0 + 1)) (Sp.qf 1 (0 + 1)) (Sp.qf 2 (0 + 1)) /\ -Sp.mkB (Sp.qi 1) (Sp.qi 2) * Sp.ivn (Sp.mkA (Sp.qi 1) (Sp.qi 1) (Sp.qi 2)) (Sp.mkB (Sp.qi 1) (Sp.qi 2)) (Sp.mkC (Sp.qi 1) (Sp.qi 2)) = Sp.mkB (Sp.qf 1 (0 + 1)) (Sp.qf 2 (0 + 1)) /\ Sp.rad (-Sp.mkB (Sp.qi 1) (Sp.qi 2) * Sp.ivn (Sp.mkA (Sp.qi 1) (Sp.qi 1) (Sp.qi 2)) (Sp.mkB (Sp.qi 1) (Sp.qi 2)) (Sp.mkC (Sp.qi 1) (Sp.qi 2))) (Sp.mkC (Sp.qi 1) (Sp.qi 2)) = Sp.mkC (Sp.qf 1 (0 + 1)) (Sp.qf 2 (0 + 1))) /\ (Sp.fl (Sp.mkA (Sp.qi 1) (Sp.qi 1) (Sp.qi 2)) (Sp.mkB (Sp.qi 1) (Sp.qi 2)) (Sp.mkC (Sp.qi 1) (Sp.qi 2)) = 2)) /\ (Sp.fl (Sp.mkA (Sp.qi 1) (Sp.qi (-1)) (Sp.qi 2)) (Sp.mkB (Sp.qi (-1)) (Sp.qi 2)) (Sp.mkC (Sp.qi (-1)) (Sp.qi 2)) = -1)) -> (Sp.okO (Sp.mkA (Sp.qi 3) (Sp.qi (-2)) (Sp.qi 2)) (Sp.mkB (Sp.qi (-2)) (Sp.qi 2)) (Sp.mkC (Sp.qi (-2)) (Sp.qi 2)))) /\
          (((((Sp.mkA (Sp.qi 1) (Sp.qi 1) (Sp.qi 2) * Sp.ivn (Sp.mkA (Sp.qi 1) (Sp.qi 1) (Sp.qi 2)) (Sp.mkB (Sp.qi 1) (Sp.qi 2)) (Sp.mkC (Sp.qi 1) (Sp.qi 2)) = Sp.mkA (Sp.qf (-1) (0 + 1)) (Sp.qf 1 (0 + 1)) (Sp.qf 2 (0 + 1)) /\ -Sp.mkB (Sp.qi 1) (Sp.qi 2) * Sp.ivn (Sp.mkA (Sp.qi 1) (Sp.qi 1) (Sp.qi 2)) (Sp.mkB (Sp.qi 1) (Sp.qi 2)) (Sp.mkC (Sp.qi 1) (Sp.qi 2)) = Sp.mkB (Sp.qf 1 (0 + 1)) (Sp.qf 2 (0 + 1)) /\ Sp.rad (-Sp.mkB (Sp.qi 1) (Sp.qi 2) * Sp.ivn (Sp.mkA (Sp.qi 1) (Sp.qi 1) (Sp.qi 2)) (Sp.mkB (Sp.qi 1) (Sp.qi 2)) (Sp.mkC (Sp.qi 1) (Sp.qi 2))) (Sp.mkC (Sp.qi 1) (Sp.qi 2)) = Sp.mkC (Sp.qf 1 (0 + 1)) (Sp.qf 2 (0 + 1))) /\ (Sp.fl (Sp.mkA (Sp.qi 1) (Sp.qi 1) (Sp.qi 2)) (Sp.mkB (Sp.qi 1) (Sp.qi 2)) (Sp.mkC (Sp.qi 1) (Sp.qi 2)) = 2)) /\ (Sp.fl (Sp.mkA (Sp.qi 1) (Sp.qi (-1)) (Sp.qi 2)) (Sp.mkB (Sp.qi (-1)) (Sp.qi 2)) (Sp.mkC (Sp.qi (-1)) (Sp.qi 2)) = -1)) /\ (Sp.sgO (Sp.mkA (Sp.qi 3) (Sp.qi (-2)) (Sp.qi 2)) (Sp.mkB (Sp.qi (-2)) (Sp.qi 2)) (Sp.mkC (Sp.qi (-2)) (Sp.qi 2)) = 1)) -> (Sp.okO (Sp.mkA (Sp.qi 4) (Sp.qi (-3)) (Sp.qi 2)) (Sp.mkB (Sp.qi (-3)) (Sp.qi 2)) (Sp.mkC (Sp.qi (-3)) (Sp.qi 2)))) /\
          vb (bif bif bif bif decide (Sp.mkA (Sp.qi 1) (Sp.qi 1) (Sp.qi 2) * Sp.ivn (Sp.mkA (Sp.qi 1) (Sp.qi 1) (Sp.qi 2)) (Sp.mkB (Sp.qi 1) (Sp.qi 2)) (Sp.mkC (Sp.qi 1) (Sp.qi 2)) = Sp.mkA (Sp.qf (-1) (0 + 1)) (Sp.qf 1 (0 + 1)) (Sp.qf 2 (0 + 1)) /\ -Sp.mkB (Sp.qi 1) (Sp.qi 2) * Sp.ivn (Sp.mkA (Sp.qi 1) (Sp.qi 1) (Sp.qi 2)) (Sp.mkB (Sp.qi 1) (Sp.qi 2)) (Sp.mkC (Sp.qi 1) (Sp.qi 2)) = Sp.mkB (Sp.qf 1 (0 + 1)) (Sp.qf 2 (0 + 1)) /\ Sp.rad (-Sp.mkB (Sp.qi 1) (Sp.qi 2) * Sp.ivn (Sp.mkA (Sp.qi 1) (Sp.qi 1) (Sp.qi 2)) (Sp.mkB (Sp.qi 1) (Sp.qi 2)) (Sp.mkC (Sp.qi 1) (Sp.qi 2))) (Sp.mkC (Sp.qi 1) (Sp.qi 2)) = Sp.mkC (Sp.qf 1 (0 + 1)) (Sp.qf 2 (0 + 1))) then decide (Sp.fl (Sp.mkA (Sp.qi 1) (Sp.qi 1) (Sp.qi 2)) (Sp.mkB (Sp.qi 1) (Sp.qi 2)) (Sp.mkC (Sp.qi 1) (Sp.qi 2)) = 2) else false then decide (Sp.fl (Sp.mkA (Sp.qi 1) (Sp.qi (-1)) (Sp.qi 2)) (Sp.mkB (Sp.qi (-1)) (Sp.qi 2)) (Sp.mkC (Sp.qi (-1)) (Sp.qi 2)) = -1) else false then Sp.sgO (Sp.mkA (Sp.qi 3) (Sp.qi (-2)) (Sp.qi 2)) (Sp.mkB (Sp.qi (-2)) (Sp.qi 2)) (Sp.mkC (Sp.qi (-2)) (Sp.qi 2)) == 1 else false then Sp.sgO (Sp.mkA (Sp.qi 4) (Sp.qi (-3)) (Sp.qi 2)) (Sp.mkB (Sp.qi (-3)) (Sp.qi 2)) (Sp.mkC (Sp.qi (-3)) (Sp.qi 2)) == -1 else false) = dq))) /\
    (¬(Sp.isNN (Sp.qf 9 4)) -> (Sp.okO (Sp.qi 1) (Sp.qi 2) (Sp.qf 9 4)) /\
      (Sp.okM 0 1 8) /\
      (Sp.okM 1 1 2) /\
      (Sp.okM 1 (-1) 2) /\
      ((¬(true = true)) -> (Sp.inI 4)) /\
      ∃ (b2 : Bool),
      ((false = true) -> (Ev M1 (Conf.pure 11 [ag [vb false, vf [], vb false, vf [], vb false, vf [], vb false, vf [], vb false, vf [], vb false, vf []], rootF (Sp.qi 4) (Sp.qi 0) (Sp.qi 0)]) (vb b2) [])) /\
      ((false = true) -> (Sp.okSd 0 1 8 0 0 0)) /\
      ((false = true) -> (Sp.okO (Sp.mkA (Sp.qi 0) (Sp.qi 1) (Sp.qi 8)) (Sp.mkB (Sp.qi 1) (Sp.qi 8)) (Sp.mkC (Sp.qi 1) (Sp.qi 8)) /\ Sp.okO (Sp.mkA (Sp.qf 0 (0 + 1)) (Sp.qf 1 (0 + 1)) (Sp.qf 8 (0 + 1))) (Sp.mkB (Sp.qf 1 (0 + 1)) (Sp.qf 8 (0 + 1))) (Sp.mkC (Sp.qf 1 (0 + 1)) (Sp.qf 8 (0 + 1))))) /\
      vb false = dq)) :
  lAwake_at  (PureQ dq) := by
  unfold lAwake_at
  obtain ⟨k1, H⟩ := H
  obtain ⟨k2, H⟩ := H
  obtain ⟨k3, H⟩ := H
  rcases xm (Sp.isNN (Sp.qf 9 4)) with d4 | d4
  · have H := H.1 d4
    obtain ⟨k5, H⟩ := H
    obtain ⟨k6, H⟩ := H
    obtain ⟨k7, H⟩ := H
    obtain ⟨k8, H⟩ := H
    obtain ⟨k10, H⟩ := H
    obtain ⟨k11, H⟩ := H
    obtain ⟨k13, H⟩ := H
    obtain ⟨k15, H⟩ := H
    refine path_wp (G := given kp6 [(1, 0, .call (ratA false false (Sp.qi 1)) none), (1, 1, .call (ratA false false (Sp.qi 2)) none), (1, 2, .call (ratA false false (Sp.qf 9 4)) none), (1, 3, .call (tu [rootF (Sp.mkA (Sp.qi 1) (Sp.qi 2) (Sp.qf 9 4)) (Sp.mkB (Sp.qi 2) (Sp.qf 9 4)) (Sp.mkC (Sp.qi 2) (Sp.qf 9 4)), vi 0]) none), (2, 0, .call (tu [rootF (Sp.mkA (Sp.qi 0) (Sp.qi 1) (Sp.qi 8)) (Sp.mkB (Sp.qi 1) (Sp.qi 8)) (Sp.mkC (Sp.qi 1) (Sp.qi 8)), vb true]) none), (3, 0, .call (tu [rootF (Sp.mkA (Sp.qi 1) (Sp.qi 1) (Sp.qi 2)) (Sp.mkB (Sp.qi 1) (Sp.qi 2)) (Sp.mkC (Sp.qi 1) (Sp.qi 2)), vb true]) none), (4, 0, .call (tu [rootF (Sp.mkA (Sp.qi 1) (Sp.qi (-1)) (Sp.qi 2)) (Sp.mkB (Sp.qi (-1)) (Sp.qi 2)) (Sp.mkC (Sp.qi (-1)) (Sp.qi 2)), vb true]) none), (5, 16, .call (rootF (Sp.qi 4) (Sp.qi 0) (Sp.qi 0)) none), (5, 17, .call (vb (decide zNxF8)) none), (5, 23, .call (rootF zNxF9 (Sp.mkB (Sp.qf 1 (0 + 1)) (Sp.qf 8 (0 + 1))) (Sp.mkC (Sp.qf 1 (0 + 1)) (Sp.qf 8 (0 + 1)))) none), (5, 24, .call (vb (decide zNxF2)) none)] []) 13 [] ⟨(atC (cd Try.f6) [1, 1, 1, 1, 1, 0, 1]), [(5, AV.ptr 2 0 0 0), (7, AV.ptr 3 0 0 0), (60, vb (bif !decide zNxF8 then true else !decide zNxF2))], [⟨[rootF (Sp.mkA (Sp.qi 1) (Sp.qi 2) (Sp.qf 9 4)) (Sp.mkB (Sp.qi 2) (Sp.qf 9 4)) (Sp.mkC (Sp.qi 2) (Sp.qf 9 4))], 12, 0, false, false⟩, ⟨[rootF (Sp.mkA (Sp.qi 0) (Sp.qi 1) (Sp.qi 8)) (Sp.mkB (Sp.qi 1) (Sp.qi 8)) (Sp.mkC (Sp.qi 1) (Sp.qi 8))], 12, 0, false, false⟩, ⟨[rootF (Sp.mkA (Sp.qi 1) (Sp.qi 1) (Sp.qi 2)) (Sp.mkB (Sp.qi 1) (Sp.qi 2)) (Sp.mkC (Sp.qi 1) (Sp.qi 2))], 12, 0, false, false⟩, ⟨[rootF (Sp.mkA (Sp.qi 1) (Sp.qi (-1)) (Sp.qi 2)) (Sp.mkB (Sp.qi (-1)) (Sp.qi 2)) (Sp.mkC (Sp.qi (-1)) (Sp.qi 2))], 12, 0, false, false⟩], [true, true, true, true, true, !((!decide zNxF8) == false && true) || true], [], [⟨true, false, 22, [vi 1], [], ratA false false (Sp.qi 1), []⟩, ⟨true, false, 22, [vi 2], [], ratA false false (Sp.qi 2), []⟩, ⟨true, false, 23, [vi 9, vi 4], [], ratA false false (Sp.qf 9 4), []⟩, ⟨true, false, 8, [ratA false false (Sp.qi 1), ratA false false (Sp.qi 2), ratA false false (Sp.qf 9 4)], [], tu [rootF (Sp.mkA (Sp.qi 1) (Sp.qi 2) (Sp.qf 9 4)) (Sp.mkB (Sp.qi 2) (Sp.qf 9 4)) (Sp.mkC (Sp.qi 2) (Sp.qf 9 4)), vi 0], []⟩, ⟨true, false, 24, [vi 0, vi 1, vi 8], [], tu [rootF (Sp.mkA (Sp.qi 0) (Sp.qi 1) (Sp.qi 8)) (Sp.mkB (Sp.qi 1) (Sp.qi 8)) (Sp.mkC (Sp.qi 1) (Sp.qi 8)), vb true], []⟩, ⟨true, false, 24, [vi 1, vi 1, vi 2], [], tu [rootF (Sp.mkA (Sp.qi 1) (Sp.qi 1) (Sp.qi 2)) (Sp.mkB (Sp.qi 1) (Sp.qi 2)) (Sp.mkC (Sp.qi 1) (Sp.qi 2)), vb true], []⟩, ⟨true, false, 24, [vi 1, vi (-1), vi 2], [], tu [rootF (Sp.mkA (Sp.qi 1) (Sp.qi (-1)) (Sp.qi 2)) (Sp.mkB (Sp.qi (-1)) (Sp.qi 2)) (Sp.mkC (Sp.qi (-1)) (Sp.qi 2)), vb true], []⟩, ⟨false == false && true && true, false, 25, [vi 4], [], rootF (Sp.qi 4) (Sp.qi 0) (Sp.qi 0), []⟩, ⟨true, false, 11, [rootF (Sp.mkA (Sp.qi 1) (Sp.qi 2) (Sp.qf 9 4)) (Sp.mkB (Sp.qi 2) (Sp.qf 9 4)) (Sp.mkC (Sp.qi 2) (Sp.qf 9 4)), rootF (Sp.qi 4) (Sp.qi 0) (Sp.qi 0)], [], vb (decide zNxF8), []⟩, ⟨(!decide zNxF8) == false && true && true, false, 19, [zNxF16], [], rootF zNxF9 (Sp.mkB (Sp.qf 1 (0 + 1)) (Sp.qf 8 (0 + 1))) (Sp.mkC (Sp.qf 1 (0 + 1)) (Sp.qf 8 (0 + 1))), []⟩, ⟨(!decide zNxF8) == false && true && true, false, 11, [rootF (Sp.mkA (Sp.qi 0) (Sp.qi 1) (Sp.qi 8)) (Sp.mkB (Sp.qi 1) (Sp.qi 8)) (Sp.mkC (Sp.qi 1) (Sp.qi 8)), rootF zNxF9 (Sp.mkB (Sp.qf 1 (0 + 1)) (Sp.qf 8 (0 + 1))) (Sp.mkC (Sp.qf 1 (0 + 1)) (Sp.qf 8 (0 + 1)))], [], vb (decide zNxF2), []⟩]⟩ (by kernel_rfl) (bc rfl (bc rfl (bc rfl (bc rfl (bc rfl (bc (Bool.or_true _) b0)))))) q0 (cc (fun _ => (@ev22 (1) k1)) (cc (fun _ => (@ev22 (2) k2)) (cc (fun _ => (@ev23 (9) (4) k3)) (cc (fun _ => (@ev8_y (false) (false) (false) (false) (false) (false) (Sp.qi 1) (Sp.qi 2) (Sp.qf 9 4) k5 d4)) (cc (fun _ => (@ev24 (0) (1) (8) k6)) (cc (fun _ => (@ev24 (1) (1) (2) k7)) (cc (fun _ => (@ev24 (1) (-1) (2) k8)) (cc (fun hc => ((@ev25 (4) (k10 ((i_at (i_at (i_bf (i_var _)))).1 hc))) : Ev M1 (Conf.pure 25 [vi 4]) (rootF (Sp.qi 4) (Sp.qi 0) (Sp.qi 0)) [])) (cc (fun _ => (@ev11 (false) (false) (false) (false) (false) (false) (false) (false) (false) (false) (false) (false) (Sp.mkA (Sp.qi 1) (Sp.qi 2) (Sp.qf 9 4)) (Sp.mkB (Sp.qi 2) (Sp.qf 9 4)) (Sp.mkC (Sp.qi 2) (Sp.qf 9 4)) (Sp.qi 4) (Sp.qi 0) (Sp.qi 0) k11)) (cc (fun hc => ((@ev19 (0) (1) (8) (0) (0) (0) (k13 ((i_at (i_at (i_bf (i_not i_dec)))).1 hc))) : Ev M1 (Conf.pure 19 [zNxF16]) (rootF zNxF9 (Sp.mkB (Sp.qf 1 (0 + 1)) (Sp.qf 8 (0 + 1))) (Sp.mkC (Sp.qf 1 (0 + 1)) (Sp.qf 8 (0 + 1)))) [])) (cc (fun hc => ((@ev11 (false) (false) (false) (false) (false) (false) (false) (false) (false) (false) (false) (false) (Sp.mkA (Sp.qi 0) (Sp.qi 1) (Sp.qi 8)) (Sp.mkB (Sp.qi 1) (Sp.qi 8)) (Sp.mkC (Sp.qi 1) (Sp.qi 8)) zNxF9 (Sp.mkB (Sp.qf 1 (0 + 1)) (Sp.qf 8 (0 + 1))) (Sp.mkC (Sp.qf 1 (0 + 1)) (Sp.qf 8 (0 + 1))) (k15 ((i_at (i_at (i_bf (i_not i_dec)))).1 hc))) : Ev M1 (Conf.pure 11 [rootF (Sp.mkA (Sp.qi 0) (Sp.qi 1) (Sp.qi 8)) (Sp.mkB (Sp.qi 1) (Sp.qi 8)) (Sp.mkC (Sp.qi 1) (Sp.qi 8)), rootF zNxF9 (Sp.mkB (Sp.qf 1 (0 + 1)) (Sp.qf 8 (0 + 1))) (Sp.mkC (Sp.qf 1 (0 + 1)) (Sp.qf 8 (0 + 1)))]) (vb (decide zNxF2)) [])) c0))))))))))) ?_
    rcases xm ((¬zNxF8) ∨ (¬zNxF2)) with d17 | d17
    · have H := H.1 d17
      exact path_re (G := given kp6 [] []) 1000 [true] (vb false) (by kernel_rfl) (bc (beq_t ((i_bor (i_not i_dec) (i_not i_dec)).2 d17)) b0) q0 c0 H
    · have H := H.2 d17
      rcases xm (Sp.sgO (Sp.mkA (Sp.qi 1) (Sp.qi 1) (Sp.qi 2)) (Sp.mkB (Sp.qi 1) (Sp.qi 2)) (Sp.mkC (Sp.qi 1) (Sp.qi 2)) = 0) with d18 | d18
      · have H := H.1 d18
        obtain ⟨k19, H⟩ := H
        obtain ⟨k20, H⟩ := H
        obtain ⟨k21, H⟩ := H
        obtain ⟨k23, H⟩ := H
        obtain ⟨b1, H⟩ := H
        obtain ⟨k25, H⟩ := H
        obtain ⟨k28, H⟩ := H
        obtain ⟨k30, H⟩ := H
        obtain ⟨k32, H⟩ := H
        obtain ⟨k34, H⟩ := H
        obtain ⟨k36, H⟩ := H
        exact path_re (G := given kp6 [(7, 1, .call (tu [zNxF3, vi 6]) none), (8, 0, .call (tu [rootF (Sp.mkA (Sp.qi 3) (Sp.qi (-2)) (Sp.qi 2)) (Sp.mkB (Sp.qi (-2)) (Sp.qi 2)) (Sp.mkC (Sp.qi (-2)) (Sp.qi 2)), vb true]) none), (9, 0, .call (tu [rootF (Sp.mkA (Sp.qi 4) (Sp.qi (-3)) (Sp.qi 2)) (Sp.mkB (Sp.qi (-3)) (Sp.qi 2)) (Sp.mkC (Sp.qi (-3)) (Sp.qi 2)), vb true]) none), (10, 5, .call (rootF zNxF12 (Sp.mkB (Sp.qf 1 (0 + 1)) (Sp.qf 2 (0 + 1))) (Sp.mkC (Sp.qf 1 (0 + 1)) (Sp.qf 2 (0 + 1)))) none), (10, 6, .call (vb b1) none), (10, 10, .call (bigA false zNxF7) none), (10, 11, .call (vb (decide zNxF4)) none), (10, 15, .call (bigA false zNxF5) none), (10, 16, .call (vb (decide zNxF6)) none), (10, 20, .call (vi zNxF10) none), (10, 25, .call (vi zNxF11) none)] []) 1000 [false] (calls := [⟨true, false, 26, [rootF (Sp.mkA (Sp.qi 1) (Sp.qi 1) (Sp.qi 2)) (Sp.mkB (Sp.qi 1) (Sp.qi 2)) (Sp.mkC (Sp.qi 1) (Sp.qi 2))], [], tu [zNxF3, vi 6], []⟩, ⟨true, false, 24, [vi 3, vi (-2), vi 2], [], tu [rootF (Sp.mkA (Sp.qi 3) (Sp.qi (-2)) (Sp.qi 2)) (Sp.mkB (Sp.qi (-2)) (Sp.qi 2)) (Sp.mkC (Sp.qi (-2)) (Sp.qi 2)), vb true], []⟩, ⟨true, false, 24, [vi 4, vi (-3), vi 2], [], tu [rootF (Sp.mkA (Sp.qi 4) (Sp.qi (-3)) (Sp.qi 2)) (Sp.mkB (Sp.qi (-3)) (Sp.qi 2)) (Sp.mkC (Sp.qi (-3)) (Sp.qi 2)), vb true], []⟩, ⟨false == true && true && true, false, 19, [zNxF15], [], rootF zNxF12 (Sp.mkB (Sp.qf 1 (0 + 1)) (Sp.qf 2 (0 + 1))) (Sp.mkC (Sp.qf 1 (0 + 1)) (Sp.qf 2 (0 + 1))), []⟩, ⟨false, false, 11, [zNxF3, rootF zNxF12 (Sp.mkB (Sp.qf 1 (0 + 1)) (Sp.qf 2 (0 + 1))) (Sp.mkC (Sp.qf 1 (0 + 1)) (Sp.qf 2 (0 + 1)))], [], vb b1, []⟩, ⟨false, false, 28, [rootF (Sp.mkA (Sp.qi 1) (Sp.qi 1) (Sp.qi 2)) (Sp.mkB (Sp.qi 1) (Sp.qi 2)) (Sp.mkC (Sp.qi 1) (Sp.qi 2))], [], bigA false zNxF7, []⟩, ⟨false, false, 27, [bigA false zNxF7, vi 2], [], vb (decide zNxF4), []⟩, ⟨false, false, 28, [rootF (Sp.mkA (Sp.qi 1) (Sp.qi (-1)) (Sp.qi 2)) (Sp.mkB (Sp.qi (-1)) (Sp.qi 2)) (Sp.mkC (Sp.qi (-1)) (Sp.qi 2))], [], bigA false zNxF5, []⟩, ⟨false, false, 27, [bigA false zNxF5, vi (-1)], [], vb (decide zNxF6), []⟩, ⟨false, false, 29, [rootF (Sp.mkA (Sp.qi 3) (Sp.qi (-2)) (Sp.qi 2)) (Sp.mkB (Sp.qi (-2)) (Sp.qi 2)) (Sp.mkC (Sp.qi (-2)) (Sp.qi 2))], [], vi zNxF10, []⟩, ⟨false, false, 29, [rootF (Sp.mkA (Sp.qi 4) (Sp.qi (-3)) (Sp.qi 2)) (Sp.mkB (Sp.qi (-3)) (Sp.qi 2)) (Sp.mkC (Sp.qi (-3)) (Sp.qi 2))], [], vi zNxF11, []⟩]) (vb false) (by kernel_rfl) (bc (beq_f (fun h => d17 ((i_bor (i_not i_dec) (i_not i_dec)).1 h))) (bc rfl (bc rfl (bc rfl (bc rfl (bc rfl (bc rfl (bc rfl (bc rfl (bc rfl b0)))))))))) q0 (cc (fun _ => (@ev26_y (false) (false) (false) (false) (false) (false) (Sp.mkA (Sp.qi 1) (Sp.qi 1) (Sp.qi 2)) (Sp.mkB (Sp.qi 1) (Sp.qi 2)) (Sp.mkC (Sp.qi 1) (Sp.qi 2)) k19 d18)) (cc (fun _ => (@ev24 (3) (-2) (2) k20)) (cc (fun _ => (@ev24 (4) (-3) (2) k21)) (cc (fun hc => ((@ev19 (-1) (1) (2) (0) (0) (0) (k23 ((i_at (i_at (i_bt (i_var _)))).1 hc))) : Ev M1 (Conf.pure 19 [zNxF15]) (rootF zNxF12 (Sp.mkB (Sp.qf 1 (0 + 1)) (Sp.qf 2 (0 + 1))) (Sp.mkC (Sp.qf 1 (0 + 1)) (Sp.qf 2 (0 + 1)))) [])) (cc (fun hc => ((k25 ((i_var _).1 hc)) : Ev M1 (Conf.pure 11 [zNxF3, rootF zNxF12 (Sp.mkB (Sp.qf 1 (0 + 1)) (Sp.qf 2 (0 + 1))) (Sp.mkC (Sp.qf 1 (0 + 1)) (Sp.qf 2 (0 + 1)))]) (vb b1) [])) (cc (fun hc => ((@ev28 (false) (false) (false) (false) (false) (false) (Sp.mkA (Sp.qi 1) (Sp.qi 1) (Sp.qi 2)) (Sp.mkB (Sp.qi 1) (Sp.qi 2)) (Sp.mkC (Sp.qi 1) (Sp.qi 2)) k19) : Ev M1 (Conf.pure 28 [rootF (Sp.mkA (Sp.qi 1) (Sp.qi 1) (Sp.qi 2)) (Sp.mkB (Sp.qi 1) (Sp.qi 2)) (Sp.mkC (Sp.qi 1) (Sp.qi 2))]) (bigA false zNxF7) [])) (cc (fun hc => ((@ev27 (false) zNxF7 (2) (k28 ((i_var _).1 hc))) : Ev M1 (Conf.pure 27 [bigA false zNxF7, vi 2]) (vb (decide zNxF4)) [])) (cc (fun hc => ((@ev28 (false) (false) (false) (false) (false) (false) (Sp.mkA (Sp.qi 1) (Sp.qi (-1)) (Sp.qi 2)) (Sp.mkB (Sp.qi (-1)) (Sp.qi 2)) (Sp.mkC (Sp.qi (-1)) (Sp.qi 2)) (k30 ((i_var _).1 hc))) : Ev M1 (Conf.pure 28 [rootF (Sp.mkA (Sp.qi 1) (Sp.qi (-1)) (Sp.qi 2)) (Sp.mkB (Sp.qi (-1)) (Sp.qi 2)) (Sp.mkC (Sp.qi (-1)) (Sp.qi 2))]) (bigA false zNxF5) [])) (cc (fun hc => ((@ev27 (false) zNxF5 (-1) (k32 ((i_var _).1 hc))) : Ev M1 (Conf.pure 27 [bigA false zNxF5, vi (-1)]) (vb (decide zNxF6)) [])) (cc (fun hc => ((@ev29 (false) (false) (false) (false) (false) (false) (Sp.mkA (Sp.qi 3) (Sp.qi (-2)) (Sp.qi 2)) (Sp.mkB (Sp.qi (-2)) (Sp.qi 2)) (Sp.mkC (Sp.qi (-2)) (Sp.qi 2)) (k34 ((i_var _).1 hc))) : Ev M1 (Conf.pure 29 [rootF (Sp.mkA (Sp.qi 3) (Sp.qi (-2)) (Sp.qi 2)) (Sp.mkB (Sp.qi (-2)) (Sp.qi 2)) (Sp.mkC (Sp.qi (-2)) (Sp.qi 2))]) (vi zNxF10) [])) (cc (fun hc => ((@ev29 (false) (false) (false) (false) (false) (false) (Sp.mkA (Sp.qi 4) (Sp.qi (-3)) (Sp.qi 2)) (Sp.mkB (Sp.qi (-3)) (Sp.qi 2)) (Sp.mkC (Sp.qi (-3)) (Sp.qi 2)) (k36 ((i_var _).1 hc))) : Ev M1 (Conf.pure 29 [rootF (Sp.mkA (Sp.qi 4) (Sp.qi (-3)) (Sp.qi 2)) (Sp.mkB (Sp.qi (-3)) (Sp.qi 2)) (Sp.mkC (Sp.qi (-3)) (Sp.qi 2))]) (vi zNxF11) [])) c0))))))))))) H
      · have H := H.2 d18
        obtain ⟨k37, H⟩ := H
        obtain ⟨k38, H⟩ := H
        obtain ⟨k39, H⟩ := H
        obtain ⟨k41, H⟩ := H
        obtain ⟨k42, H⟩ := H
        obtain ⟨k44, H⟩ := H
        obtain ⟨k46, H⟩ := H
        obtain ⟨k48, H⟩ := H
        obtain ⟨k50, H⟩ := H
        obtain ⟨k52, H⟩ := H
        obtain ⟨k54, H⟩ := H
        exact path_re (G := given kp6 [(7, 1, .call (tu [rootF zNxF14 (-Sp.mkB (Sp.qi 1) (Sp.qi 2) * Sp.ivn (Sp.mkA (Sp.qi 1) (Sp.qi 1) (Sp.qi 2)) (Sp.mkB (Sp.qi 1) (Sp.qi 2)) (Sp.mkC (Sp.qi 1) (Sp.qi 2))) zNxF13, vi 0]) none), (8, 0, .call (tu [rootF (Sp.mkA (Sp.qi 3) (Sp.qi (-2)) (Sp.qi 2)) (Sp.mkB (Sp.qi (-2)) (Sp.qi 2)) (Sp.mkC (Sp.qi (-2)) (Sp.qi 2)), vb true]) none), (9, 0, .call (tu [rootF (Sp.mkA (Sp.qi 4) (Sp.qi (-3)) (Sp.qi 2)) (Sp.mkB (Sp.qi (-3)) (Sp.qi 2)) (Sp.mkC (Sp.qi (-3)) (Sp.qi 2)), vb true]) none), (10, 5, .call (rootF zNxF12 (Sp.mkB (Sp.qf 1 (0 + 1)) (Sp.qf 2 (0 + 1))) (Sp.mkC (Sp.qf 1 (0 + 1)) (Sp.qf 2 (0 + 1)))) none), (10, 6, .call (vb (decide zNxF1)) none), (10, 10, .call (bigA false zNxF7) none), (10, 11, .call (vb (decide zNxF4)) none), (10, 15, .call (bigA false zNxF5) none), (10, 16, .call (vb (decide zNxF6)) none), (10, 20, .call (vi zNxF10) none), (10, 25, .call (vi zNxF11) none)] []) 1000 [false] (asm := [(bif !decide zNxF8 then true else !decide zNxF2) == false, true, true, true, true, true, !(decide zNxF1 == true && true) || true, !((bif decide zNxF1 then decide zNxF4 else false) == true && true) || true, !((bif bif decide zNxF1 then decide zNxF4 else false then decide zNxF6 else false) == true && true) || true, !(zNxF17 == true && true) || true]) (calls := [⟨true, false, 26, [rootF (Sp.mkA (Sp.qi 1) (Sp.qi 1) (Sp.qi 2)) (Sp.mkB (Sp.qi 1) (Sp.qi 2)) (Sp.mkC (Sp.qi 1) (Sp.qi 2))], [], tu [rootF zNxF14 (-Sp.mkB (Sp.qi 1) (Sp.qi 2) * Sp.ivn (Sp.mkA (Sp.qi 1) (Sp.qi 1) (Sp.qi 2)) (Sp.mkB (Sp.qi 1) (Sp.qi 2)) (Sp.mkC (Sp.qi 1) (Sp.qi 2))) zNxF13, vi 0], []⟩, ⟨true, false, 24, [vi 3, vi (-2), vi 2], [], tu [rootF (Sp.mkA (Sp.qi 3) (Sp.qi (-2)) (Sp.qi 2)) (Sp.mkB (Sp.qi (-2)) (Sp.qi 2)) (Sp.mkC (Sp.qi (-2)) (Sp.qi 2)), vb true], []⟩, ⟨true, false, 24, [vi 4, vi (-3), vi 2], [], tu [rootF (Sp.mkA (Sp.qi 4) (Sp.qi (-3)) (Sp.qi 2)) (Sp.mkB (Sp.qi (-3)) (Sp.qi 2)) (Sp.mkC (Sp.qi (-3)) (Sp.qi 2)), vb true], []⟩, ⟨true == true && true && true, false, 19, [zNxF15], [], rootF zNxF12 (Sp.mkB (Sp.qf 1 (0 + 1)) (Sp.qf 2 (0 + 1))) (Sp.mkC (Sp.qf 1 (0 + 1)) (Sp.qf 2 (0 + 1))), []⟩, ⟨true, false, 11, [rootF zNxF14 (-Sp.mkB (Sp.qi 1) (Sp.qi 2) * Sp.ivn (Sp.mkA (Sp.qi 1) (Sp.qi 1) (Sp.qi 2)) (Sp.mkB (Sp.qi 1) (Sp.qi 2)) (Sp.mkC (Sp.qi 1) (Sp.qi 2))) zNxF13, rootF zNxF12 (Sp.mkB (Sp.qf 1 (0 + 1)) (Sp.qf 2 (0 + 1))) (Sp.mkC (Sp.qf 1 (0 + 1)) (Sp.qf 2 (0 + 1)))], [], vb (decide zNxF1), []⟩, ⟨decide zNxF1 == true && true && true, false, 28, [rootF (Sp.mkA (Sp.qi 1) (Sp.qi 1) (Sp.qi 2)) (Sp.mkB (Sp.qi 1) (Sp.qi 2)) (Sp.mkC (Sp.qi 1) (Sp.qi 2))], [], bigA false zNxF7, []⟩, ⟨decide zNxF1 == true && true && true, false, 27, [bigA false zNxF7, vi 2], [], vb (decide zNxF4), []⟩, ⟨(bif decide zNxF1 then decide zNxF4 else false) == true && true && true, false, 28, [rootF (Sp.mkA (Sp.qi 1) (Sp.qi (-1)) (Sp.qi 2)) (Sp.mkB (Sp.qi (-1)) (Sp.qi 2)) (Sp.mkC (Sp.qi (-1)) (Sp.qi 2))], [], bigA false zNxF5, []⟩, ⟨(bif decide zNxF1 then decide zNxF4 else false) == true && true && true, false, 27, [bigA false zNxF5, vi (-1)], [], vb (decide zNxF6), []⟩, ⟨(bif bif decide zNxF1 then decide zNxF4 else false then decide zNxF6 else false) == true && true && true, false, 29, [rootF (Sp.mkA (Sp.qi 3) (Sp.qi (-2)) (Sp.qi 2)) (Sp.mkB (Sp.qi (-2)) (Sp.qi 2)) (Sp.mkC (Sp.qi (-2)) (Sp.qi 2))], [], vi zNxF10, []⟩, ⟨zNxF17 == true && true && true, false, 29, [rootF (Sp.mkA (Sp.qi 4) (Sp.qi (-3)) (Sp.qi 2)) (Sp.mkB (Sp.qi (-3)) (Sp.qi 2)) (Sp.mkC (Sp.qi (-3)) (Sp.qi 2))], [], vi zNxF11, []⟩]) (vb (bif bif bif bif decide zNxF1 then decide zNxF4 else false then decide zNxF6 else false then Sp.sgO (Sp.mkA (Sp.qi 3) (Sp.qi (-2)) (Sp.qi 2)) (Sp.mkB (Sp.qi (-2)) (Sp.qi 2)) (Sp.mkC (Sp.qi (-2)) (Sp.qi 2)) == 1 else false then Sp.sgO (Sp.mkA (Sp.qi 4) (Sp.qi (-3)) (Sp.qi 2)) (Sp.mkB (Sp.qi (-3)) (Sp.qi 2)) (Sp.mkC (Sp.qi (-3)) (Sp.qi 2)) == -1 else false)) (by kernel_rfl) (bc (beq_f (fun h => d17 ((i_bor (i_not i_dec) (i_not i_dec)).1 h))) (bc rfl (bc rfl (bc rfl (bc rfl (bc rfl (bc (Bool.or_true _) (bc (Bool.or_true _) (bc (Bool.or_true _) (bc (Bool.or_true _) b0)))))))))) q0 (cc (fun _ => (@ev26_n (false) (false) (false) (false) (false) (false) (Sp.mkA (Sp.qi 1) (Sp.qi 1) (Sp.qi 2)) (Sp.mkB (Sp.qi 1) (Sp.qi 2)) (Sp.mkC (Sp.qi 1) (Sp.qi 2)) k37 d18)) (cc (fun _ => (@ev24 (3) (-2) (2) k38)) (cc (fun _ => (@ev24 (4) (-3) (2) k39)) (cc (fun hc => ((@ev19 (-1) (1) (2) (0) (0) (0) (k41 ((i_at (i_at (i_bt (i_var _)))).1 hc))) : Ev M1 (Conf.pure 19 [zNxF15]) (rootF zNxF12 (Sp.mkB (Sp.qf 1 (0 + 1)) (Sp.qf 2 (0 + 1))) (Sp.mkC (Sp.qf 1 (0 + 1)) (Sp.qf 2 (0 + 1)))) [])) (cc (fun _ => (@ev11 (false) (false) (false) (false) (false) (false) (false) (false) (false) (false) (false) (false) zNxF14 (-Sp.mkB (Sp.qi 1) (Sp.qi 2) * Sp.ivn (Sp.mkA (Sp.qi 1) (Sp.qi 1) (Sp.qi 2)) (Sp.mkB (Sp.qi 1) (Sp.qi 2)) (Sp.mkC (Sp.qi 1) (Sp.qi 2))) zNxF13 zNxF12 (Sp.mkB (Sp.qf 1 (0 + 1)) (Sp.qf 2 (0 + 1))) (Sp.mkC (Sp.qf 1 (0 + 1)) (Sp.qf 2 (0 + 1))) k42)) (cc (fun hc => ((@ev28 (false) (false) (false) (false) (false) (false) (Sp.mkA (Sp.qi 1) (Sp.qi 1) (Sp.qi 2)) (Sp.mkB (Sp.qi 1) (Sp.qi 2)) (Sp.mkC (Sp.qi 1) (Sp.qi 2)) (k44 ((i_at (i_at (i_bt i_dec))).1 hc))) : Ev M1 (Conf.pure 28 [rootF (Sp.mkA (Sp.qi 1) (Sp.qi 1) (Sp.qi 2)) (Sp.mkB (Sp.qi 1) (Sp.qi 2)) (Sp.mkC (Sp.qi 1) (Sp.qi 2))]) (bigA false zNxF7) [])) (cc (fun hc => ((@ev27 (false) zNxF7 (2) (k46 ((i_at (i_at (i_bt i_dec))).1 hc))) : Ev M1 (Conf.pure 27 [bigA false zNxF7, vi 2]) (vb (decide zNxF4)) [])) (cc (fun hc => ((@ev28 (false) (false) (false) (false) (false) (false) (Sp.mkA (Sp.qi 1) (Sp.qi (-1)) (Sp.qi 2)) (Sp.mkB (Sp.qi (-1)) (Sp.qi 2)) (Sp.mkC (Sp.qi (-1)) (Sp.qi 2)) (k48 ((i_at (i_at (i_bt (i_band i_dec i_dec)))).1 hc))) : Ev M1 (Conf.pure 28 [rootF (Sp.mkA (Sp.qi 1) (Sp.qi (-1)) (Sp.qi 2)) (Sp.mkB (Sp.qi (-1)) (Sp.qi 2)) (Sp.mkC (Sp.qi (-1)) (Sp.qi 2))]) (bigA false zNxF5) [])) (cc (fun hc => ((@ev27 (false) zNxF5 (-1) (k50 ((i_at (i_at (i_bt (i_band i_dec i_dec)))).1 hc))) : Ev M1 (Conf.pure 27 [bigA false zNxF5, vi (-1)]) (vb (decide zNxF6)) [])) (cc (fun hc => ((@ev29 (false) (false) (false) (false) (false) (false) (Sp.mkA (Sp.qi 3) (Sp.qi (-2)) (Sp.qi 2)) (Sp.mkB (Sp.qi (-2)) (Sp.qi 2)) (Sp.mkC (Sp.qi (-2)) (Sp.qi 2)) (k52 ((i_at (i_at (i_bt (i_band (i_band i_dec i_dec) i_dec)))).1 hc))) : Ev M1 (Conf.pure 29 [rootF (Sp.mkA (Sp.qi 3) (Sp.qi (-2)) (Sp.qi 2)) (Sp.mkB (Sp.qi (-2)) (Sp.qi 2)) (Sp.mkC (Sp.qi (-2)) (Sp.qi 2))]) (vi zNxF10) [])) (cc (fun hc => ((@ev29 (false) (false) (false) (false) (false) (false) (Sp.mkA (Sp.qi 4) (Sp.qi (-3)) (Sp.qi 2)) (Sp.mkB (Sp.qi (-3)) (Sp.qi 2)) (Sp.mkC (Sp.qi (-3)) (Sp.qi 2)) (k54 ((i_at (i_at (i_bt (i_band (i_band (i_band i_dec i_dec) i_dec) i_eq)))).1 hc))) : Ev M1 (Conf.pure 29 [rootF (Sp.mkA (Sp.qi 4) (Sp.qi (-3)) (Sp.qi 2)) (Sp.mkB (Sp.qi (-3)) (Sp.qi 2)) (Sp.mkC (Sp.qi (-3)) (Sp.qi 2))]) (vi zNxF11) [])) c0))))))))))) H
  · have H := H.2 d4
    obtain ⟨k55, H⟩ := H
    obtain ⟨k56, H⟩ := H
    obtain ⟨k57, H⟩ := H
    obtain ⟨k58, H⟩ := H
    obtain ⟨k60, H⟩ := H
    obtain ⟨b2, H⟩ := H
    obtain ⟨k62, H⟩ := H
    obtain ⟨k64, H⟩ := H
    obtain ⟨k66, H⟩ := H
    exact path_re (G := given kp6 [(1, 0, .call (ratA false false (Sp.qi 1)) none), (1, 1, .call (ratA false false (Sp.qi 2)) none), (1, 2, .call (ratA false false (Sp.qf 9 4)) none), (1, 3, .call (tu [zNxF3, vi 7]) none), (2, 0, .call (tu [rootF (Sp.mkA (Sp.qi 0) (Sp.qi 1) (Sp.qi 8)) (Sp.mkB (Sp.qi 1) (Sp.qi 8)) (Sp.mkC (Sp.qi 1) (Sp.qi 8)), vb true]) none), (3, 0, .call (tu [rootF (Sp.mkA (Sp.qi 1) (Sp.qi 1) (Sp.qi 2)) (Sp.mkB (Sp.qi 1) (Sp.qi 2)) (Sp.mkC (Sp.qi 1) (Sp.qi 2)), vb true]) none), (4, 0, .call (tu [rootF (Sp.mkA (Sp.qi 1) (Sp.qi (-1)) (Sp.qi 2)) (Sp.mkB (Sp.qi (-1)) (Sp.qi 2)) (Sp.mkC (Sp.qi (-1)) (Sp.qi 2)), vb true]) none), (5, 16, .call (rootF (Sp.qi 4) (Sp.qi 0) (Sp.qi 0)) none), (5, 17, .call (vb b2) none), (5, 23, .call (rootF zNxF9 (Sp.mkB (Sp.qf 1 (0 + 1)) (Sp.qf 8 (0 + 1))) (Sp.mkC (Sp.qf 1 (0 + 1)) (Sp.qf 8 (0 + 1)))) none), (5, 24, .call (vb (decide zNxF2)) none)] []) 1000 [true] (calls := [⟨true, false, 22, [vi 1], [], ratA false false (Sp.qi 1), []⟩, ⟨true, false, 22, [vi 2], [], ratA false false (Sp.qi 2), []⟩, ⟨true, false, 23, [vi 9, vi 4], [], ratA false false (Sp.qf 9 4), []⟩, ⟨true, false, 8, [ratA false false (Sp.qi 1), ratA false false (Sp.qi 2), ratA false false (Sp.qf 9 4)], [], tu [zNxF3, vi 7], []⟩, ⟨true, false, 24, [vi 0, vi 1, vi 8], [], tu [rootF (Sp.mkA (Sp.qi 0) (Sp.qi 1) (Sp.qi 8)) (Sp.mkB (Sp.qi 1) (Sp.qi 8)) (Sp.mkC (Sp.qi 1) (Sp.qi 8)), vb true], []⟩, ⟨true, false, 24, [vi 1, vi 1, vi 2], [], tu [rootF (Sp.mkA (Sp.qi 1) (Sp.qi 1) (Sp.qi 2)) (Sp.mkB (Sp.qi 1) (Sp.qi 2)) (Sp.mkC (Sp.qi 1) (Sp.qi 2)), vb true], []⟩, ⟨true, false, 24, [vi 1, vi (-1), vi 2], [], tu [rootF (Sp.mkA (Sp.qi 1) (Sp.qi (-1)) (Sp.qi 2)) (Sp.mkB (Sp.qi (-1)) (Sp.qi 2)) (Sp.mkC (Sp.qi (-1)) (Sp.qi 2)), vb true], []⟩, ⟨true == false && true && true, false, 25, [vi 4], [], rootF (Sp.qi 4) (Sp.qi 0) (Sp.qi 0), []⟩, ⟨false, false, 11, [zNxF3, rootF (Sp.qi 4) (Sp.qi 0) (Sp.qi 0)], [], vb b2, []⟩, ⟨false, false, 19, [zNxF16], [], rootF zNxF9 (Sp.mkB (Sp.qf 1 (0 + 1)) (Sp.qf 8 (0 + 1))) (Sp.mkC (Sp.qf 1 (0 + 1)) (Sp.qf 8 (0 + 1))), []⟩, ⟨false, false, 11, [rootF (Sp.mkA (Sp.qi 0) (Sp.qi 1) (Sp.qi 8)) (Sp.mkB (Sp.qi 1) (Sp.qi 8)) (Sp.mkC (Sp.qi 1) (Sp.qi 8)), rootF zNxF9 (Sp.mkB (Sp.qf 1 (0 + 1)) (Sp.qf 8 (0 + 1))) (Sp.mkC (Sp.qf 1 (0 + 1)) (Sp.qf 8 (0 + 1)))], [], vb (decide zNxF2), []⟩]) (vb false) (by kernel_rfl) (bc rfl (bc rfl (bc rfl (bc rfl (bc rfl (bc rfl (bc rfl b0))))))) q0 (cc (fun _ => (@ev22 (1) k1)) (cc (fun _ => (@ev22 (2) k2)) (cc (fun _ => (@ev23 (9) (4) k3)) (cc (fun _ => (@ev8_n (false) (false) (false) (false) (false) (false) (Sp.qi 1) (Sp.qi 2) (Sp.qf 9 4) k55 d4)) (cc (fun _ => (@ev24 (0) (1) (8) k56)) (cc (fun _ => (@ev24 (1) (1) (2) k57)) (cc (fun _ => (@ev24 (1) (-1) (2) k58)) (cc (fun hc => ((@ev25 (4) (k60 ((i_at (i_at (i_bf (i_var _)))).1 hc))) : Ev M1 (Conf.pure 25 [vi 4]) (rootF (Sp.qi 4) (Sp.qi 0) (Sp.qi 0)) [])) (cc (fun hc => ((k62 ((i_var _).1 hc)) : Ev M1 (Conf.pure 11 [zNxF3, rootF (Sp.qi 4) (Sp.qi 0) (Sp.qi 0)]) (vb b2) [])) (cc (fun hc => ((@ev19 (0) (1) (8) (0) (0) (0) (k64 ((i_var _).1 hc))) : Ev M1 (Conf.pure 19 [zNxF16]) (rootF zNxF9 (Sp.mkB (Sp.qf 1 (0 + 1)) (Sp.qf 8 (0 + 1))) (Sp.mkC (Sp.qf 1 (0 + 1)) (Sp.qf 8 (0 + 1)))) [])) (cc (fun hc => ((@ev11 (false) (false) (false) (false) (false) (false) (false) (false) (false) (false) (false) (false) (Sp.mkA (Sp.qi 0) (Sp.qi 1) (Sp.qi 8)) (Sp.mkB (Sp.qi 1) (Sp.qi 8)) (Sp.mkC (Sp.qi 1) (Sp.qi 8)) zNxF9 (Sp.mkB (Sp.qf 1 (0 + 1)) (Sp.qf 8 (0 + 1))) (Sp.mkC (Sp.qf 1 (0 + 1)) (Sp.qf 8 (0 + 1))) (k66 ((i_var _).1 hc))) : Ev M1 (Conf.pure 11 [rootF (Sp.mkA (Sp.qi 0) (Sp.qi 1) (Sp.qi 8)) (Sp.mkB (Sp.qi 1) (Sp.qi 8)) (Sp.mkC (Sp.qi 1) (Sp.qi 8)), rootF zNxF9 (Sp.mkB (Sp.qf 1 (0 + 1)) (Sp.qf 8 (0 + 1))) (Sp.mkC (Sp.qf 1 (0 + 1)) (Sp.qf 8 (0 + 1)))]) (vb (decide zNxF2)) [])) c0))))))))))) H
end Go.Av

namespace Go.Av
open Go.Proofs
theorem sq_of {a r : Nat} (h1 : r * r ≤ a) (h2 : a < (r + 1) * (r + 1)) : Sp.sq (a : Int) = r := by
  unfold Sp.sq
  rw [if_neg (by omega), Int.natAbs_natCast, isqrt_eq ⟨h1, h2⟩]
theorem nsq_int {n r : Nat} (h1 : r * r < n) (h2 : n < (r + 1) * (r + 1)) : ¬Sp.rsq (Sp.qi (n : Int)) := by
  intro h
  have := ((isSq_iff _).1 h.1).2
  rw [qi_eq, Rat.num_intCast, sq_of (Nat.le_of_lt h1) h2] at this
  have e : ((r * r : Nat) : Int) = (n : Int) := by rw [Int.natCast_mul]; exact this
  omega
theorem mk_ns {c : Rat} (h : ¬Sp.rsq c) (a b : Rat) : Sp.mkA a b c = a ∧ Sp.mkB b c = b ∧ Sp.mkC b c = Sp.rad b c := ⟨if_neg h, if_neg h, if_neg h⟩
theorem qf_one (n : Int) : Sp.qf n (0 + 1) = Sp.qi n := by
  rw [qf_eq, qi_eq]
  have e : ((0 : Int) + 1) = 1 := rfl
  rw [e]
  obtain ⟨e1, e2⟩ := rat_pos (a := n) (b := 1) (by omega)
  apply Rat.ext
  · rw [e1, Int.gcd_one]; simp
  · rw [Int.gcd_one] at e2
    have : ((n : Rat).den : Int) = 1 := by rw [Rat.den_intCast]; rfl
    simp at e2
    omega
theorem qi_mul (a b : Int) : Sp.qi a * Sp.qi b = Sp.qi (a * b) := by rw [qi_eq, qi_eq, qi_eq, Rat.intCast_mul]
theorem qi_sub (a b : Int) : Sp.qi a - Sp.qi b = Sp.qi (a - b) := by rw [qi_eq, qi_eq, qi_eq, Rat.intCast_sub]
theorem qi_neg (a : Int) : -Sp.qi a = Sp.qi (-a) := by rw [qi_eq, qi_eq, Rat.intCast_neg]
theorem qi_num (a : Int) : (Sp.qi a).num = a ∧ ((Sp.qi a).den : Int) = 1 := by rw [qi_eq, Rat.num_intCast, Rat.den_intCast]; exact ⟨rfl, rfl⟩
theorem qi_ne {a : Int} (h : a ≠ 0) : Sp.qi a ≠ 0 := fun e => h (by have := (qi_num a).1; rw [e] at this; exact this.symm)
theorem rad_ne {b : Int} (h : b ≠ 0) (c : Rat) : Sp.rad (Sp.qi b) c = c := if_neg (qi_ne h)
theorem sgR_int (a : Int) : Sp.sgR (Sp.qi a) = Sp.sgnI a := by unfold Sp.sgR; rw [(qi_num a).1]
theorem sgO_int (a b c : Int) : Sp.sgO (Sp.qi a) (Sp.qi b) (Sp.qi c) = if Sp.sgnI b = 0 ∨ Sp.sgnI a = Sp.sgnI b then Sp.sgnI a else if Sp.sgnI a = 0 then Sp.sgnI b else Sp.sgnI a * Sp.sgnI (a * a - b * b * c) := by
  unfold Sp.sgO
  rw [qi_mul, qi_mul, qi_mul, qi_sub, sgR_int, sgR_int, sgR_int]
theorem fl_int {a b c : Int} (hb : b ≠ 0) : Sp.fl (Sp.qi a) (Sp.qi b) (Sp.qi c) = Sp.flo (a * 1 + (if b < 0 then -(Sp.sq (1 * 1 * (b * b * c * 1)) + 1) else Sp.sq (1 * 1 * (b * b * c * 1)))) (1 * 1) := by
  unfold Sp.fl Sp.flW
  rw [if_neg (qi_ne hb), qi_mul, qi_mul]
  simp only [qi_num]
theorem nn94 : Sp.isNN (Sp.qf 9 4) := nn_qf (by omega) (by omega)
theorem rsq94 : Sp.rsq (Sp.qf 9 4) := rsq_of (s := Rat.divInt 3 2) (by rw [qf_eq, Rat.divInt_mul_divInt]; rfl)
theorem rt94 : Sp.rt (Sp.qf 9 4) = Rat.divInt 3 2 := by
  have e : (Sp.qf 9 4).num = 9 ∧ ((Sp.qf 9 4).den : Int) = 4 := by rw [qf_eq]; decide
  unfold Sp.rt
  rw [e.1, e.2]
  have h9 : Sp.sq 9 = 3 := sq_of (a := 9) (r := 3) (by decide) (by decide)
  have h4 : Sp.sq 4 = 2 := sq_of (a := 4) (r := 2) (by decide) (by decide)
  rw [h9, h4]
theorem mk94 : Sp.mkA (Sp.qi 1) (Sp.qi 2) (Sp.qf 9 4) = Sp.qi 4 ∧ Sp.mkB (Sp.qi 2) (Sp.qf 9 4) = Sp.qi 0 ∧ Sp.mkC (Sp.qi 2) (Sp.qf 9 4) = Sp.qi 0 := by
  refine ⟨?_, if_pos rsq94, if_pos rsq94⟩
  unfold Sp.mkA
  have d : (Rat.divInt 3 2).num = 3 ∧ ((Rat.divInt 3 2).den : Int) = 2 := by decide
  have d2 : (Rat.divInt (2 * 3) (1 * 2)).num = 3 ∧ ((Rat.divInt (2 * 3) (1 * 2)).den : Int) = 1 := by decide
  rw [if_pos rsq94, rt94, ← rat_mul, d.1, d.2, (qi_num 2).1, (qi_num 2).2, ← rat_add, d2.1, d2.2, (qi_num 1).1, (qi_num 1).2, qi_eq]
  decide
theorem okO_int {a b c : Int} (ha : Sp.inI a) (hb : Sp.inI b) (hc : Sp.inI c) : Sp.okO (Sp.qi a) (Sp.qi b) (Sp.qi c) := okT_O (okT_int ha) (okT_int hb) (okT_int hc) (by omega)
theorem ivn_int : Sp.ivn (Sp.qi 1) (Sp.qi 1) (Sp.qi 2) = Sp.qi (-1) := by
  unfold Sp.ivn
  rw [qi_mul, qi_mul, qi_sub, ← rat_div, (qi_num 1).1, (qi_num 1).2, (qi_num _).1, (qi_num _).2, qi_eq]
  decide
theorem okO_of94 : Sp.okO (Sp.qi 1) (Sp.qi 2) (Sp.qf 9 4) := okT_O (okT_int (by unfold Sp.inI; omega)) (okT_int (by unfold Sp.inI; omega)) (okT_qf (by unfold Sp.okF Sp.inI; omega)) (by omega)
end Go.Av

namespace Go.Av
open Go.Proofs
theorem inI_small {n : Int} (h : -100 ≤ n ∧ n ≤ 100) : Sp.inI n := by unfold Sp.inI; omega
theorem ev6 : Ev M1 (.pure 6 []) (.bool true) [] := by
  have n2 : ¬Sp.rsq (Sp.qi 2) := nsq_int (n := 2) (r := 1) (by decide) (by decide)
  have n8 : ¬Sp.rsq (Sp.qi 8) := nsq_int (n := 8) (r := 2) (by decide) (by decide)
  have s2 : Sp.sq 2 = 1 := sq_of (a := 2) (r := 1) (by decide) (by decide)
  have a2 : ∀ a b, Sp.mkA a b (Sp.qi 2) = a := fun a b => (mk_ns n2 a b).1
  have b2 : ∀ b, Sp.mkB b (Sp.qi 2) = b := fun b => (mk_ns n2 b b).2.1
  have c2 : ∀ b, Sp.mkC b (Sp.qi 2) = Sp.rad b (Sp.qi 2) := fun b => (mk_ns n2 b b).2.2
  have a8 : ∀ a b, Sp.mkA a b (Sp.qi 8) = a := fun a b => (mk_ns n8 a b).1
  have b8 : ∀ b, Sp.mkB b (Sp.qi 8) = b := fun b => (mk_ns n8 b b).2.1
  have c8 : ∀ b, Sp.mkC b (Sp.qi 8) = Sp.rad b (Sp.qi 8) := fun b => (mk_ns n8 b b).2.2
  have r1 : ∀ c, Sp.rad (Sp.qi 1) c = c := rad_ne (by decide)
  have r2 : ∀ c, Sp.rad (Sp.qi (-1)) c = c := rad_ne (by decide)
  have r3 : ∀ c, Sp.rad (Sp.qi (-2)) c = c := rad_ne (by decide)
  have r4 : ∀ c, Sp.rad (Sp.qi (-3)) c = c := rad_ne (by decide)
  have m1 : Sp.qi 1 * Sp.qi (-1) = Sp.qi (-1) := qi_mul 1 (-1)
  have m2 : -Sp.qi 1 * Sp.qi (-1) = Sp.qi 1 := by rw [qi_neg, qi_mul]; rfl
  have g1 : Sp.sgO (Sp.qi 1) (Sp.qi 1) (Sp.qi 2) = 1 := by rw [sgO_int]; decide
  have g2 : Sp.sgO (Sp.qi 3) (Sp.qi (-2)) (Sp.qi 2) = 1 := by rw [sgO_int]; decide
  have g3 : Sp.sgO (Sp.qi 4) (Sp.qi (-3)) (Sp.qi 2) = -1 := by rw [sgO_int]; decide
  have f1 : Sp.fl (Sp.qi 1) (Sp.qi 1) (Sp.qi 2) = 2 := by
    rw [fl_int (by decide), show (1 : Int) * 1 * (1 * 1 * 2 * 1) = 2 from rfl, s2]; decide
  have f2 : Sp.fl (Sp.qi 1) (Sp.qi (-1)) (Sp.qi 2) = -1 := by
    rw [fl_int (by decide), show (1 : Int) * 1 * (-1 * -1 * 2 * 1) = 2 from rfl, s2]; decide
  have nm : Sp.nrm (Sp.qi 1) (Sp.qi 1) (Sp.qi 2) := by
    unfold Sp.nrm
    rw [qi_mul, qi_mul, qi_sub]
    exact qi_ne (by decide)
  refine call6 (lAwake _ ?_)
  simp only [mk94.1, mk94.2.1, mk94.2.2, qf_one, a2, b2, c2, a8, b8, c8, r1, r2, r3, r4, ivn_int, m1, m2, g1, g2, g3, f1, f2]
  have i (n : Int) (h : -100 ≤ n ∧ n ≤ 100 := by decide) : Sp.inI n := inI_small h
  have o (a b c : Int) (h : (-100 ≤ a ∧ a ≤ 100) ∧ (-100 ≤ b ∧ b ≤ 100) ∧ (-100 ≤ c ∧ c ≤ 100) := by decide) : Sp.okO (Sp.qi a) (Sp.qi b) (Sp.qi c) := okO_int (inI_small h.1) (inI_small h.2.1) (inI_small h.2.2)
  have m (a b c : Int) (h : (-100 ≤ a ∧ a ≤ 100) ∧ (-100 ≤ b ∧ b ≤ 100) ∧ (0 ≤ c ∧ c ≤ 100) := by decide) : Sp.okM a b c := ⟨inI_small h.1, inI_small h.2.1, inI_small (by omega), h.2.2.1⟩
  have ok (a : Int) (h : -100 ≤ a ∧ a ≤ 100 := by decide) : Sp.ok a := ok_inI (inI_small h)
  have d (a b c : Int) (h : (-100 ≤ a ∧ a ≤ 100) ∧ (-100 ≤ b ∧ b ≤ 100) ∧ (0 ≤ c ∧ c ≤ 100) := by decide) : Sp.okSd a b c 0 0 0 := by unfold Sp.okSd; omega
  have okf : Sp.okF 9 4 := ⟨inI_small (by decide), inI_small (by decide), by decide⟩
  refine ⟨i 1, i 2, okf, fun _ => ⟨okO_of94, m 0 1 8, m 1 1 2, m 1 (-1) 2, fun _ => i 4, ⟨o 4 0 0, o 4 0 0⟩, fun _ => d 0 1 8, fun _ => ⟨o 0 1 8, o 0 1 8⟩, fun k => ?_, fun _ => ⟨fun k => ?_, fun _ => ⟨⟨o 1 1 2, nm⟩, m 3 (-2) 2, m 4 (-3) 2, fun _ => d (-1) 1 2, ⟨o (-1) 1 2, o (-1) 1 2⟩, fun _ => o 1 1 2, fun _ => ⟨ok 2, i 2⟩, fun _ => o 1 (-1) 2, fun _ => ⟨ok (-1), i (-1)⟩, fun _ => o 3 (-2) 2, fun _ => o 4 (-3) 2, ?_⟩⟩⟩, fun k => absurd nn94 k⟩
  · exfalso
    rcases k with k | k
    · exact k (by simp)
    · exact k (by simp)
  · exact absurd k (by decide)
  · simp
end Go.Av

namespace Go.Av
open Go.Proofs
set_option maxRecDepth 100000
end Go.Av

namespace Go.Av
open Go.Proofs
theorem okT_mkA {k : Nat} {a b c : Rat} (ha : Sp.okT k a) (hb : Sp.okT k b) (hc : Sp.okT k c) : Sp.okT (3 * k + 1) (Sp.mkA a b c) := by
  unfold Sp.mkA
  split
  · rename_i s
    exact okT_le (okT_add ha (okT_mul hb (okT_rt s hc))) (by omega)
  · exact okT_le ha (by omega)
theorem okT_q0 : Sp.okT 1 (Sp.qi 0) := by rw [qi_zero]; exact okT_zero
theorem okT_mkB {k : Nat} {b c : Rat} (hb : Sp.okT k b) : Sp.okT (k + 1) (Sp.mkB b c) := by
  unfold Sp.mkB
  split
  · exact okT_le okT_q0 (by omega)
  · exact okT_le hb (by omega)
theorem okT_rad {k : Nat} {b c : Rat} (hc : Sp.okT k c) : Sp.okT (k + 1) (Sp.rad b c) := by
  unfold Sp.rad
  split
  · exact okT_le okT_q0 (by omega)
  · exact okT_le hc (by omega)
end Go.Av

namespace Go.Av
open Go.Proofs
noncomputable def Sp.sdA (a b c d e f : Int) : Rat := Sp.mkA (Sp.qf a (d + 1)) (Sp.qf b (e + 1)) (Sp.qf c (f + 1))
noncomputable def Sp.sdB (b c e f : Int) : Rat := Sp.mkB (Sp.qf b (e + 1)) (Sp.qf c (f + 1))
noncomputable def Sp.sdC (c f : Int) : Rat := Sp.qf c (f + 1)
theorem sdC_eq (b c e f : Int) : Sp.mkC (Sp.qf b (e + 1)) (Sp.qf c (f + 1)) = Sp.rad (Sp.sdB b c e f) (Sp.sdC c f) := by
  unfold Sp.mkC Sp.sdB Sp.mkB Sp.sdC
  by_cases h : Sp.rsq (Sp.qf c (f + 1))
  · rw [if_pos h, if_pos h]; unfold Sp.rad; rw [if_pos qi_zero]
  · rw [if_neg h, if_neg h]
theorem ev19_b (a b c d e f : Int) (h : Sp.okSd a b c d e f) : Ev M1 (.pure 19 [.agg [.int .i16 a, .int .i16 b, .int .u16 c, .int .u8 d, .int .u8 e, .int .u8 f]]) (rootF (Sp.sdA a b c d e f) (Sp.sdB b c e f) (Sp.rad (Sp.sdB b c e f) (Sp.sdC c f))) [] := by
  have := ev19 a b c d e f h
  rwa [sdC_eq] at this
theorem com_rad {b c y : Rat} : Sp.isCom b (Sp.rad b c) y (Sp.rad y c) := by
  unfold Sp.isCom
  by_cases h : b = 0
  · exact .inl h
  · by_cases k : y = 0
    · exact .inr (.inl k)
    · unfold Sp.rad; rw [if_neg h, if_neg k]; exact .inr (.inr rfl)
theorem com_add {b c y : Rat} : Sp.rad (b + y) (Sp.com b (Sp.rad b c) (Sp.rad y c)) = Sp.rad (b + y) c := by
  unfold Sp.rad Sp.com
  by_cases h : b = 0
  · subst h
    rw [if_pos rfl, Rat.zero_add]
    by_cases k : y = 0
    · rw [if_pos k, if_pos k]
    · rw [if_neg k, if_neg k]
  · rw [if_neg h, if_neg h]
theorem com_mul {b c y : Rat} : b * y * Sp.com b (Sp.rad b c) (Sp.rad y c) = b * y * c := by
  unfold Sp.rad Sp.com
  by_cases h : b = 0
  · subst h; rw [Rat.zero_mul, Rat.zero_mul, Rat.zero_mul]
  · rw [if_neg h, if_neg h]
theorem com_rmul {a b x y c : Rat} : Sp.rad (a * y + b * x) (Sp.com b (Sp.rad b c) (Sp.rad y c)) = Sp.rad (a * y + b * x) c := by
  unfold Sp.com
  by_cases h : b = 0
  · subst h
    rw [if_pos rfl]
    by_cases k : y = 0
    · subst k
      unfold Sp.rad
      rw [Rat.mul_zero, Rat.zero_mul, Rat.zero_add, if_pos rfl, if_pos rfl]
    · rw [show Sp.rad y c = c from if_neg k]
  · rw [if_neg h, show Sp.rad b c = c from if_neg h]
theorem ev20_b (f1 f2 f3 f4 f5 f6 g1 g2 g3 g4 g5 g6 : Bool) (a b x y c : Rat) (h : Sp.okO a b (Sp.rad b c) ∧ Sp.okO x y (Sp.rad y c)) : Ev M1 (.pure 20 [rootA f1 f2 f3 f4 f5 f6 a b (Sp.rad b c), rootA g1 g2 g3 g4 g5 g6 x y (Sp.rad y c)]) (.tup [rootF (a + x) (b + y) (Sp.rad (b + y) c), .int .i64 0]) [] := by
  have := ev20_y f1 f2 f3 f4 f5 f6 g1 g2 g3 g4 g5 g6 a b (Sp.rad b c) x y (Sp.rad y c) h com_rad
  rwa [com_add] at this
theorem ev21_b (f1 f2 f3 f4 f5 f6 g1 g2 g3 g4 g5 g6 : Bool) (a b x y c : Rat) (h : Sp.okO a b (Sp.rad b c) ∧ Sp.okO x y (Sp.rad y c)) : Ev M1 (.pure 21 [rootA f1 f2 f3 f4 f5 f6 a b (Sp.rad b c), rootA g1 g2 g3 g4 g5 g6 x y (Sp.rad y c)]) (.tup [rootF (a * x + b * y * c) (a * y + b * x) (Sp.rad (a * y + b * x) c), .int .i64 0]) [] := by
  have := ev21_y f1 f2 f3 f4 f5 f6 g1 g2 g3 g4 g5 g6 a b (Sp.rad b c) x y (Sp.rad y c) h com_rad
  rwa [com_rmul, com_mul] at this
end Go.Av

namespace Go.Av
open Go.Proofs
set_option maxRecDepth 100000
def fi5 : Fi := ⟨190, [.tmp 2]⟩
def kp5 : List (Nat × List Nat) := [(0, [1]), (1, [1, 20]), (2, [2]), (3, [1, 3]), (4, [1, 3, 21, 22]), (5, [1, 3, 21, 22, 23]), (6, [1, 3, 5, 21, 22]), (7, [1, 3, 5, 21, 22]), (8, [1, 3, 21, 22]), (9, [1, 3, 21, 22]), (10, [3, 6, 7]), (11, [3, 7, 8, 9]), (12, [3, 7, 8, 9, 10, 11]), (13, [3, 7, 8, 9, 10, 11, 12, 13]), (14, [3, 8, 10, 12, 94]), (15, [2]), (16, [3, 7, 8, 10, 12, 14]), (17, [3, 7, 8, 9, 10, 12, 14]), (18, [3, 7, 8, 9, 10, 11, 12, 14, 15]), (19, [3, 7, 8, 9, 10, 11, 12, 13, 14]), (20, [3, 10, 14, 150]), (21, [2]), (22, [3, 7, 14, 16]), (23, [7, 9, 14, 16, 17]), (24, [7, 9, 11, 16, 18]), (25, [2])]
def lwField_at (a1 b1 c1 d1 e1 f1 a2 b2 c2 d2 e2 f2 a3 b3 c3 d3 e3 f3 : Int) (Q : AV → Heap → Prop) : Prop := Wp M1 (.run fi5 (atC (cd Try.f5) []) [(0, .agg [.int .i16 a1, .int .i16 b1, .int .u16 c1, .int .u8 d1, .int .u8 e1, .int .u8 f1, .int .i16 a2, .int .i16 b2, .int .u16 c2, .int .u8 d2, .int .u8 e2, .int .u8 f2, .int .i16 a3, .int .i16 b3, .int .u16 c3, .int .u8 d3, .int .u8 e3, .int .u8 f3])] []) Q
def lwField0_at (a1 b1 c1 d1 e1 f1 a2 b2 c2 d2 e2 f2 a3 b3 c3 d3 e3 f3 : Int) (Q : AV → Heap → Prop) : Prop := Wp M1 (.run fi5 (atC (cd Try.f5) [1, 1, 1, 0, 1, 0, 0]) [(1, .ptr 0 0 0 0), (3, .vnil), (21, .agg [.int .i16 a1, .int .i16 b1, .int .u16 c1, .int .u8 d1, .int .u8 e1, .int .u8 f1, .int .i16 a2, .int .i16 b2, .int .u16 c2, .int .u8 d2, .int .u8 e2, .int .u8 f2, .int .i16 a3, .int .i16 b3, .int .u16 c3, .int .u8 d3, .int .u8 e3, .int .u8 f3]), (22, .int .i64 0)] [⟨[.agg [.int .i16 a1, .int .i16 b1, .int .u16 c1, .int .u8 d1, .int .u8 e1, .int .u8 f1, .int .i16 a2, .int .i16 b2, .int .u16 c2, .int .u8 d2, .int .u8 e2, .int .u8 f2, .int .i16 a3, .int .i16 b3, .int .u16 c3, .int .u8 d3, .int .u8 e3, .int .u8 f3]], 18, 0, false, false⟩]) Q
def lwField1_at (a1 b1 c1 d1 e1 f1 a2 b2 c2 d2 e2 f2 a3 b3 c3 d3 e3 f3 : Int) (A1 B1 : Rat) (Q : AV → Heap → Prop) : Prop := Wp M1 (.run fi5 (atC (cd Try.f5) [1, 1, 1, 0, 1, 0, 0]) [(1, .ptr 0 0 0 0), (3, .row 1 0), (21, .agg [.int .i16 a1, .int .i16 b1, .int .u16 c1, .int .u8 d1, .int .u8 e1, .int .u8 f1, .int .i16 a2, .int .i16 b2, .int .u16 c2, .int .u8 d2, .int .u8 e2, .int .u8 f2, .int .i16 a3, .int .i16 b3, .int .u16 c3, .int .u8 d3, .int .u8 e3, .int .u8 f3]), (22, .int .i64 1)] [⟨[.agg [.int .i16 a1, .int .i16 b1, .int .u16 c1, .int .u8 d1, .int .u8 e1, .int .u8 f1, .int .i16 a2, .int .i16 b2, .int .u16 c2, .int .u8 d2, .int .u8 e2, .int .u8 f2, .int .i16 a3, .int .i16 b3, .int .u16 c3, .int .u8 d3, .int .u8 e3, .int .u8 f3]], 18, 0, false, false⟩, ⟨[.agg [.bool (Sp.isNeg A1.num), .vec false 1 ((Sp.limI A1.num).map (.int .u32)), .bool (Sp.isNeg (A1.den : Int)), .vec false 1 ((Sp.limI (A1.den : Int)).map (.int .u32)), .bool (Sp.isNeg B1.num), .vec false 1 ((Sp.limI B1.num).map (.int .u32)), .bool (Sp.isNeg (B1.den : Int)), .vec false 1 ((Sp.limI (B1.den : Int)).map (.int .u32)), .bool (Sp.isNeg (Sp.rad B1 (Sp.sdC c1 f1)).num), .vec false 1 ((Sp.limI (Sp.rad B1 (Sp.sdC c1 f1)).num).map (.int .u32)), .bool (Sp.isNeg ((Sp.rad B1 (Sp.sdC c1 f1)).den : Int)), .vec false 1 ((Sp.limI ((Sp.rad B1 (Sp.sdC c1 f1)).den : Int)).map (.int .u32))]], 12, 0, false, true⟩]) Q
def lwField2_at (a1 b1 c1 d1 e1 f1 a2 b2 c2 d2 e2 f2 a3 b3 c3 d3 e3 f3 : Int) (A1 B1 A2 B2 : Rat) (Q : AV → Heap → Prop) : Prop := Wp M1 (.run fi5 (atC (cd Try.f5) [1, 1, 1, 0, 1, 0, 0]) [(1, .ptr 0 0 0 0), (3, .row 1 1), (21, .agg [.int .i16 a1, .int .i16 b1, .int .u16 c1, .int .u8 d1, .int .u8 e1, .int .u8 f1, .int .i16 a2, .int .i16 b2, .int .u16 c2, .int .u8 d2, .int .u8 e2, .int .u8 f2, .int .i16 a3, .int .i16 b3, .int .u16 c3, .int .u8 d3, .int .u8 e3, .int .u8 f3]), (22, .int .i64 2)] [⟨[.agg [.int .i16 a1, .int .i16 b1, .int .u16 c1, .int .u8 d1, .int .u8 e1, .int .u8 f1, .int .i16 a2, .int .i16 b2, .int .u16 c2, .int .u8 d2, .int .u8 e2, .int .u8 f2, .int .i16 a3, .int .i16 b3, .int .u16 c3, .int .u8 d3, .int .u8 e3, .int .u8 f3]], 18, 0, false, false⟩, ⟨[.agg [.bool (Sp.isNeg A1.num), .vec false 1 ((Sp.limI A1.num).map (.int .u32)), .bool (Sp.isNeg (A1.den : Int)), .vec false 1 ((Sp.limI (A1.den : Int)).map (.int .u32)), .bool (Sp.isNeg B1.num), .vec false 1 ((Sp.limI B1.num).map (.int .u32)), .bool (Sp.isNeg (B1.den : Int)), .vec false 1 ((Sp.limI (B1.den : Int)).map (.int .u32)), .bool (Sp.isNeg (Sp.rad B1 (Sp.sdC c1 f1)).num), .vec false 1 ((Sp.limI (Sp.rad B1 (Sp.sdC c1 f1)).num).map (.int .u32)), .bool (Sp.isNeg ((Sp.rad B1 (Sp.sdC c1 f1)).den : Int)), .vec false 1 ((Sp.limI ((Sp.rad B1 (Sp.sdC c1 f1)).den : Int)).map (.int .u32))], .agg [.bool (Sp.isNeg A2.num), .vec false 1 ((Sp.limI A2.num).map (.int .u32)), .bool (Sp.isNeg (A2.den : Int)), .vec false 1 ((Sp.limI (A2.den : Int)).map (.int .u32)), .bool (Sp.isNeg B2.num), .vec false 1 ((Sp.limI B2.num).map (.int .u32)), .bool (Sp.isNeg (B2.den : Int)), .vec false 1 ((Sp.limI (B2.den : Int)).map (.int .u32)), .bool (Sp.isNeg (Sp.rad B2 (Sp.sdC c1 f1)).num), .vec false 1 ((Sp.limI (Sp.rad B2 (Sp.sdC c1 f1)).num).map (.int .u32)), .bool (Sp.isNeg ((Sp.rad B2 (Sp.sdC c1 f1)).den : Int)), .vec false 1 ((Sp.limI ((Sp.rad B2 (Sp.sdC c1 f1)).den : Int)).map (.int .u32))]], 12, 1, false, true⟩]) Q
def lwField3_at (a1 b1 c1 d1 e1 f1 a2 b2 c2 d2 e2 f2 a3 b3 c3 d3 e3 f3 : Int) (A1 B1 A2 B2 A3 B3 C : Rat) (Q : AV → Heap → Prop) : Prop := Wp M1 (.run fi5 (atC (cd Try.f5) [1, 1, 1, 0, 1, 0, 0]) [(1, .ptr 0 0 0 0), (3, .row 1 2), (21, .agg [.int .i16 a1, .int .i16 b1, .int .u16 c1, .int .u8 d1, .int .u8 e1, .int .u8 f1, .int .i16 a2, .int .i16 b2, .int .u16 c2, .int .u8 d2, .int .u8 e2, .int .u8 f2, .int .i16 a3, .int .i16 b3, .int .u16 c3, .int .u8 d3, .int .u8 e3, .int .u8 f3]), (22, .int .i64 3)] [⟨[.agg [.int .i16 a1, .int .i16 b1, .int .u16 c1, .int .u8 d1, .int .u8 e1, .int .u8 f1, .int .i16 a2, .int .i16 b2, .int .u16 c2, .int .u8 d2, .int .u8 e2, .int .u8 f2, .int .i16 a3, .int .i16 b3, .int .u16 c3, .int .u8 d3, .int .u8 e3, .int .u8 f3]], 18, 0, false, false⟩, ⟨[.agg [.bool (Sp.isNeg A1.num), .vec false 1 ((Sp.limI A1.num).map (.int .u32)), .bool (Sp.isNeg (A1.den : Int)), .vec false 1 ((Sp.limI (A1.den : Int)).map (.int .u32)), .bool (Sp.isNeg B1.num), .vec false 1 ((Sp.limI B1.num).map (.int .u32)), .bool (Sp.isNeg (B1.den : Int)), .vec false 1 ((Sp.limI (B1.den : Int)).map (.int .u32)), .bool (Sp.isNeg (Sp.rad B1 C).num), .vec false 1 ((Sp.limI (Sp.rad B1 C).num).map (.int .u32)), .bool (Sp.isNeg ((Sp.rad B1 C).den : Int)), .vec false 1 ((Sp.limI ((Sp.rad B1 C).den : Int)).map (.int .u32))], .agg [.bool (Sp.isNeg A2.num), .vec false 1 ((Sp.limI A2.num).map (.int .u32)), .bool (Sp.isNeg (A2.den : Int)), .vec false 1 ((Sp.limI (A2.den : Int)).map (.int .u32)), .bool (Sp.isNeg B2.num), .vec false 1 ((Sp.limI B2.num).map (.int .u32)), .bool (Sp.isNeg (B2.den : Int)), .vec false 1 ((Sp.limI (B2.den : Int)).map (.int .u32)), .bool (Sp.isNeg (Sp.rad B2 C).num), .vec false 1 ((Sp.limI (Sp.rad B2 C).num).map (.int .u32)), .bool (Sp.isNeg ((Sp.rad B2 C).den : Int)), .vec false 1 ((Sp.limI ((Sp.rad B2 C).den : Int)).map (.int .u32))], .agg [.bool (Sp.isNeg A3.num), .vec false 1 ((Sp.limI A3.num).map (.int .u32)), .bool (Sp.isNeg (A3.den : Int)), .vec false 1 ((Sp.limI (A3.den : Int)).map (.int .u32)), .bool (Sp.isNeg B3.num), .vec false 1 ((Sp.limI B3.num).map (.int .u32)), .bool (Sp.isNeg (B3.den : Int)), .vec false 1 ((Sp.limI (B3.den : Int)).map (.int .u32)), .bool (Sp.isNeg (Sp.rad B3 C).num), .vec false 1 ((Sp.limI (Sp.rad B3 C).num).map (.int .u32)), .bool (Sp.isNeg ((Sp.rad B3 C).den : Int)), .vec false 1 ((Sp.limI ((Sp.rad B3 C).den : Int)).map (.int .u32))]], 12, 2, false, true⟩]) Q
theorem call5 {args : List AV} {d : AV} (h : Wp M1 (.run fi5 [.code (cd Try.f5)] (argVars 0 args) []) (PureQ d)) : Ev M1 (.pure 5 args) d [] :=
  pure_pq Try.f5 fi5 (by kernel_rfl) (by kernel_rfl) (by kernel_rfl) (by kernel_rfl) h
noncomputable abbrev zNxH1 (a1 : Int) (b1 : Int) (c1 : Int) (d1 : Int) (e1 : Int) (f1 : Int) (a2 : Int) (b2 : Int) (c2 : Int) (d2 : Int) (e2 : Int) (f2 : Int) (a3 : Int) (b3 : Int) (c3 : Int) (d3 : Int) (e3 : Int) (f3 : Int) := ag [AV.int IntKind.i16 a1, AV.int IntKind.i16 b1, AV.int IntKind.u16 c1, AV.int IntKind.u8 d1, AV.int IntKind.u8 e1, AV.int IntKind.u8 f1, AV.int IntKind.i16 a2, AV.int IntKind.i16 b2, AV.int IntKind.u16 c2, AV.int IntKind.u8 d2, AV.int IntKind.u8 e2, AV.int IntKind.u8 f2, AV.int IntKind.i16 a3, AV.int IntKind.i16 b3, AV.int IntKind.u16 c3, AV.int IntKind.u8 d3, AV.int IntKind.u8 e3, AV.int IntKind.u8 f3]
theorem lwField (a1 b1 c1 d1 e1 f1 a2 b2 c2 d2 e2 f2 a3 b3 c3 d3 e3 f3 : Int)  (dq : AV) (H :
    lwField0_at (a1) (b1) (c1) (d1) (e1) (f1) (a2) (b2) (c2) (d2) (e2) (f2) (a3) (b3) (c3) (d3) (e3) (f3) (PureQ dq)) :
  lwField_at a1 b1 c1 d1 e1 f1 a2 b2 c2 d2 e2 f2 a3 b3 c3 d3 e3 f3 (PureQ dq) := by
  unfold lwField_at
  exact path_wp (G := given kp5 [(1, 0, .call (vb true) none)] []) 1000 [false] ⟨(atC (cd Try.f5) [1, 1, 1, 0, 1, 0, 0]), [(1, AV.ptr 0 0 0 0), (3, AV.vnil), (21, (zNxH1 a1 b1 c1 d1 e1 f1 a2 b2 c2 d2 e2 f2 a3 b3 c3 d3 e3 f3)), (22, vi 0)], [⟨[(zNxH1 a1 b1 c1 d1 e1 f1 a2 b2 c2 d2 e2 f2 a3 b3 c3 d3 e3 f3)], 18, 0, false, false⟩], _, [], _⟩ (by kernel_rfl) (bc rfl (bc rfl b0)) q0 (ce (@ev6 ) c0) (H)
noncomputable abbrev zNxH2 (a1 : Int) (b1 : Int) (c1 : Int) (d1 : Int) (e1 : Int) (f1 : Int) (a2 : Int) (b2 : Int) (c2 : Int) (d2 : Int) (e2 : Int) (f2 : Int) (a3 : Int) (b3 : Int) (c3 : Int) (d3 : Int) (e3 : Int) (f3 : Int) := ag [AV.int IntKind.i16 a1, AV.int IntKind.i16 b1, AV.int IntKind.u16 c1, AV.int IntKind.u8 d1, AV.int IntKind.u8 e1, AV.int IntKind.u8 f1, AV.int IntKind.i16 a2, AV.int IntKind.i16 b2, AV.int IntKind.u16 c2, AV.int IntKind.u8 d2, AV.int IntKind.u8 e2, AV.int IntKind.u8 f2, AV.int IntKind.i16 a3, AV.int IntKind.i16 b3, AV.int IntKind.u16 c3, AV.int IntKind.u8 d3, AV.int IntKind.u8 e3, AV.int IntKind.u8 f3]
theorem lwField0 (a1 b1 c1 d1 e1 f1 a2 b2 c2 d2 e2 f2 a3 b3 c3 d3 e3 f3 : Int)  (dq : AV) (H :
    (Sp.okSd a1 b1 c1 d1 e1 f1) /\
    lwField1_at (a1) (b1) (c1) (d1) (e1) (f1) (a2) (b2) (c2) (d2) (e2) (f2) (a3) (b3) (c3) (d3) (e3) (f3) (Sp.sdA a1 b1 c1 d1 e1 f1) (Sp.sdB b1 c1 e1 f1) (PureQ dq)) :
  lwField0_at a1 b1 c1 d1 e1 f1 a2 b2 c2 d2 e2 f2 a3 b3 c3 d3 e3 f3 (PureQ dq) := by
  unfold lwField0_at
  obtain ⟨k1, H⟩ := H
  exact path_wp (G := given kp5 [(8, 2, .call (rootF (Sp.sdA a1 b1 c1 d1 e1 f1) (Sp.sdB b1 c1 e1 f1) (Sp.rad (Sp.sdB b1 c1 e1 f1) (Sp.sdC c1 f1))) none)] [(7, [3009, 3007, 2005, 2003, 2002, 2000])]) 1000 [true] ⟨(atC (cd Try.f5) [1, 1, 1, 0, 1, 0, 0]), [(1, AV.ptr 0 0 0 0), (3, AV.row 2 0), (21, (zNxH2 a1 b1 c1 d1 e1 f1 a2 b2 c2 d2 e2 f2 a3 b3 c3 d3 e3 f3)), (22, vi 1)], [⟨[(zNxH2 a1 b1 c1 d1 e1 f1 a2 b2 c2 d2 e2 f2 a3 b3 c3 d3 e3 f3)], 18, 0, false, false⟩, ⟨[ag [AV.int IntKind.i16 a1, AV.int IntKind.i16 b1, AV.int IntKind.u16 c1, AV.int IntKind.u8 d1, AV.int IntKind.u8 e1, AV.int IntKind.u8 f1]], 6, 0, false, false⟩, ⟨[rootF (Sp.sdA a1 b1 c1 d1 e1 f1) (Sp.sdB b1 c1 e1 f1) (Sp.rad (Sp.sdB b1 c1 e1 f1) (Sp.sdC c1 f1))], 12, 0, false, true⟩], _, [], _⟩ (by kernel_rfl) (bc rfl (bc rfl (bc rfl (bc rfl (bc rfl (bc rfl (bc rfl (bc rfl (bc rfl (bc rfl (bc rfl (bc rfl (bc rfl (bc rfl b0)))))))))))))) q0 (ce (@ev19_b (a1) (b1) (c1) (d1) (e1) (f1) k1) c0) (wp_narrow [0, 2] (by kernel_rfl) H)
noncomputable abbrev zNxH3 (a1 : Int) (b1 : Int) (c1 : Int) (d1 : Int) (e1 : Int) (f1 : Int) (a2 : Int) (b2 : Int) (c2 : Int) (d2 : Int) (e2 : Int) (f2 : Int) (a3 : Int) (b3 : Int) (c3 : Int) (d3 : Int) (e3 : Int) (f3 : Int) := ag [AV.int IntKind.i16 a1, AV.int IntKind.i16 b1, AV.int IntKind.u16 c1, AV.int IntKind.u8 d1, AV.int IntKind.u8 e1, AV.int IntKind.u8 f1, AV.int IntKind.i16 a2, AV.int IntKind.i16 b2, AV.int IntKind.u16 c2, AV.int IntKind.u8 d2, AV.int IntKind.u8 e2, AV.int IntKind.u8 f2, AV.int IntKind.i16 a3, AV.int IntKind.i16 b3, AV.int IntKind.u16 c3, AV.int IntKind.u8 d3, AV.int IntKind.u8 e3, AV.int IntKind.u8 f3]
theorem lwField1 (a1 b1 c1 d1 e1 f1 a2 b2 c2 d2 e2 f2 a3 b3 c3 d3 e3 f3 : Int) (A1 B1 : Rat)  (dq : AV) (H :
    (Sp.okSd a2 b2 c1 d2 e2 f1) /\
    lwField2_at (a1) (b1) (c1) (d1) (e1) (f1) (a2) (b2) (c2) (d2) (e2) (f2) (a3) (b3) (c3) (d3) (e3) (f3) (A1) (B1) (Sp.sdA a2 b2 c1 d2 e2 f1) (Sp.sdB b2 c1 e2 f1) (PureQ dq)) :
  lwField1_at a1 b1 c1 d1 e1 f1 a2 b2 c2 d2 e2 f2 a3 b3 c3 d3 e3 f3 A1 B1 (PureQ dq) := by
  unfold lwField1_at
  obtain ⟨k1, H⟩ := H
  exact path_wp (G := given kp5 [(8, 2, .call (rootF (Sp.sdA a2 b2 c1 d2 e2 f1) (Sp.sdB b2 c1 e2 f1) (Sp.rad (Sp.sdB b2 c1 e2 f1) (Sp.sdC c1 f1))) none)] [(7, [4009, 4007, 2005, 2003, 2002, 2000])]) 1000 [true] ⟨(atC (cd Try.f5) [1, 1, 1, 0, 1, 0, 0]), [(1, AV.ptr 0 0 0 0), (3, AV.row 1 1), (21, (zNxH3 a1 b1 c1 d1 e1 f1 a2 b2 c2 d2 e2 f2 a3 b3 c3 d3 e3 f3)), (22, vi 2)], [⟨[(zNxH3 a1 b1 c1 d1 e1 f1 a2 b2 c2 d2 e2 f2 a3 b3 c3 d3 e3 f3)], 18, 0, false, false⟩, ⟨[rootF A1 B1 (Sp.rad B1 (Sp.sdC c1 f1)), rootF (Sp.sdA a2 b2 c1 d2 e2 f1) (Sp.sdB b2 c1 e2 f1) (Sp.rad (Sp.sdB b2 c1 e2 f1) (Sp.sdC c1 f1))], 12, 1, false, true⟩, ⟨[ag [AV.int IntKind.i16 a2, AV.int IntKind.i16 b2, AV.int IntKind.u16 c1, AV.int IntKind.u8 d2, AV.int IntKind.u8 e2, AV.int IntKind.u8 f1]], 6, 0, false, false⟩], _, [], _⟩ (by kernel_rfl) (bc rfl (bc rfl (bc rfl (bc rfl (bc rfl (bc rfl (bc rfl (bc rfl (bc rfl (bc rfl (bc rfl (bc rfl (bc rfl (bc rfl (bc rfl b0))))))))))))))) q0 (ce (@ev19_b (a2) (b2) (c1) (d2) (e2) (f1) k1) c0) (wp_narrow [0, 1] (by kernel_rfl) H)
noncomputable abbrev zNxH4 (a1 : Int) (b1 : Int) (c1 : Int) (d1 : Int) (e1 : Int) (f1 : Int) (a2 : Int) (b2 : Int) (c2 : Int) (d2 : Int) (e2 : Int) (f2 : Int) (a3 : Int) (b3 : Int) (c3 : Int) (d3 : Int) (e3 : Int) (f3 : Int) := ag [AV.int IntKind.i16 a1, AV.int IntKind.i16 b1, AV.int IntKind.u16 c1, AV.int IntKind.u8 d1, AV.int IntKind.u8 e1, AV.int IntKind.u8 f1, AV.int IntKind.i16 a2, AV.int IntKind.i16 b2, AV.int IntKind.u16 c2, AV.int IntKind.u8 d2, AV.int IntKind.u8 e2, AV.int IntKind.u8 f2, AV.int IntKind.i16 a3, AV.int IntKind.i16 b3, AV.int IntKind.u16 c3, AV.int IntKind.u8 d3, AV.int IntKind.u8 e3, AV.int IntKind.u8 f3]
theorem lwField2 (a1 b1 c1 d1 e1 f1 a2 b2 c2 d2 e2 f2 a3 b3 c3 d3 e3 f3 : Int) (A1 B1 A2 B2 : Rat)  (dq : AV) (H :
    (Sp.okSd a3 b3 c1 d3 e3 f1) /\
    lwField3_at (a1) (b1) (c1) (d1) (e1) (f1) (a2) (b2) (c2) (d2) (e2) (f2) (a3) (b3) (c3) (d3) (e3) (f3) (A1) (B1) (A2) (B2) (Sp.sdA a3 b3 c1 d3 e3 f1) (Sp.sdB b3 c1 e3 f1) (Sp.sdC c1 f1) (PureQ dq)) :
  lwField2_at a1 b1 c1 d1 e1 f1 a2 b2 c2 d2 e2 f2 a3 b3 c3 d3 e3 f3 A1 B1 A2 B2 (PureQ dq) := by
  unfold lwField2_at
  obtain ⟨k1, H⟩ := H
  exact path_wp (G := given kp5 [(8, 2, .call (rootF (Sp.sdA a3 b3 c1 d3 e3 f1) (Sp.sdB b3 c1 e3 f1) (Sp.rad (Sp.sdB b3 c1 e3 f1) (Sp.sdC c1 f1))) none)] [(7, [4009, 4007, 2005, 2003, 2002, 2000])]) 1000 [true] ⟨(atC (cd Try.f5) [1, 1, 1, 0, 1, 0, 0]), [(1, AV.ptr 0 0 0 0), (3, AV.row 1 2), (21, (zNxH4 a1 b1 c1 d1 e1 f1 a2 b2 c2 d2 e2 f2 a3 b3 c3 d3 e3 f3)), (22, vi 3)], [⟨[(zNxH4 a1 b1 c1 d1 e1 f1 a2 b2 c2 d2 e2 f2 a3 b3 c3 d3 e3 f3)], 18, 0, false, false⟩, ⟨[rootF A1 B1 (Sp.rad B1 (Sp.sdC c1 f1)), rootF A2 B2 (Sp.rad B2 (Sp.sdC c1 f1)), rootF (Sp.sdA a3 b3 c1 d3 e3 f1) (Sp.sdB b3 c1 e3 f1) (Sp.rad (Sp.sdB b3 c1 e3 f1) (Sp.sdC c1 f1))], 12, 2, false, true⟩, ⟨[ag [AV.int IntKind.i16 a3, AV.int IntKind.i16 b3, AV.int IntKind.u16 c1, AV.int IntKind.u8 d3, AV.int IntKind.u8 e3, AV.int IntKind.u8 f1]], 6, 0, false, false⟩], _, [], _⟩ (by kernel_rfl) (bc rfl (bc rfl (bc rfl (bc rfl (bc rfl (bc rfl (bc rfl (bc rfl (bc rfl (bc rfl (bc rfl (bc rfl (bc rfl (bc rfl (bc rfl b0))))))))))))))) q0 (ce (@ev19_b (a3) (b3) (c1) (d3) (e3) (f1) k1) c0) (wp_narrow [0, 1] (by kernel_rfl) H)
noncomputable abbrev zNxH5 (A1 : Rat) (A2 : Rat) (A3 : Rat) (B1 : Rat) (B2 : Rat) (B3 : Rat) (C : Rat) := vb (decide (A1 * (A2 + A3) + B1 * (B2 + B3) * C = A1 * A2 + B1 * B2 * C + (A1 * A3 + B1 * B3 * C) /\ A1 * (B2 + B3) + B1 * (A2 + A3) = A1 * B2 + B1 * A2 + (A1 * B3 + B1 * A3) /\ Sp.rad (A1 * (B2 + B3) + B1 * (A2 + A3)) C = Sp.rad (A1 * B2 + B1 * A2 + (A1 * B3 + B1 * A3)) C))
noncomputable abbrev zNxH6 (A1 : Rat) (A2 : Rat) (B1 : Rat) (B2 : Rat) (C : Rat) (A3 : Rat) (B3 : Rat) := vb (decide ((A1 * A2 + B1 * B2 * C) * A3 + (A1 * B2 + B1 * A2) * B3 * C = A1 * (A2 * A3 + B2 * B3 * C) + B1 * (A2 * B3 + B2 * A3) * C /\ (A1 * A2 + B1 * B2 * C) * B3 + (A1 * B2 + B1 * A2) * A3 = A1 * (A2 * B3 + B2 * A3) + B1 * (A2 * A3 + B2 * B3 * C) /\ Sp.rad ((A1 * A2 + B1 * B2 * C) * B3 + (A1 * B2 + B1 * A2) * A3) C = Sp.rad (A1 * (A2 * B3 + B2 * A3) + B1 * (A2 * A3 + B2 * B3 * C)) C))
noncomputable abbrev zNxH7 (a1 : Int) (b1 : Int) (c1 : Int) (d1 : Int) (e1 : Int) (f1 : Int) (a2 : Int) (b2 : Int) (c2 : Int) (d2 : Int) (e2 : Int) (f2 : Int) (a3 : Int) (b3 : Int) (c3 : Int) (d3 : Int) (e3 : Int) (f3 : Int) := ag [AV.int IntKind.i16 a1, AV.int IntKind.i16 b1, AV.int IntKind.u16 c1, AV.int IntKind.u8 d1, AV.int IntKind.u8 e1, AV.int IntKind.u8 f1, AV.int IntKind.i16 a2, AV.int IntKind.i16 b2, AV.int IntKind.u16 c2, AV.int IntKind.u8 d2, AV.int IntKind.u8 e2, AV.int IntKind.u8 f2, AV.int IntKind.i16 a3, AV.int IntKind.i16 b3, AV.int IntKind.u16 c3, AV.int IntKind.u8 d3, AV.int IntKind.u8 e3, AV.int IntKind.u8 f3]
noncomputable abbrev zNxH8 (A1 : Rat) (A2 : Rat) (B1 : Rat) (B2 : Rat) (C : Rat) (B3 : Rat) (A3 : Rat) := Sp.rad ((A1 * A2 + B1 * B2 * C) * B3 + (A1 * B2 + B1 * A2) * A3) C
noncomputable abbrev zNxH9 (A1 : Rat) (A2 : Rat) (B3 : Rat) (B2 : Rat) (A3 : Rat) (B1 : Rat) (C : Rat) := Sp.rad (A1 * (A2 * B3 + B2 * A3) + B1 * (A2 * A3 + B2 * B3 * C)) C
theorem lwField3 (a1 b1 c1 d1 e1 f1 a2 b2 c2 d2 e2 f2 a3 b3 c3 d3 e3 f3 : Int) (A1 B1 A2 B2 A3 B3 C : Rat)  (dq : AV) (H :
    (Sp.okO A1 B1 (Sp.rad B1 C) /\ Sp.okO A2 B2 (Sp.rad B2 C)) /\
    (Sp.okO (A1 + A2) (B1 + B2) (Sp.rad (B1 + B2) C) /\ Sp.okO A3 B3 (Sp.rad B3 C)) /\
    (Sp.okO A2 B2 (Sp.rad B2 C) /\ Sp.okO A3 B3 (Sp.rad B3 C)) /\
    (Sp.okO A1 B1 (Sp.rad B1 C) /\ Sp.okO (A2 + A3) (B2 + B3) (Sp.rad (B2 + B3) C)) /\
    ((¬(false = true)) -> (Sp.okO (A1 + A2 + A3) (B1 + B2 + B3) (Sp.rad (B1 + B2 + B3) C) /\ Sp.okO (A1 + (A2 + A3)) (B1 + (B2 + B3)) (Sp.rad (B1 + (B2 + B3)) C))) /\
    ((¬(A1 + A2 + A3 = A1 + (A2 + A3) /\ B1 + B2 + B3 = B1 + (B2 + B3) /\ Sp.rad (B1 + B2 + B3) C = Sp.rad (B1 + (B2 + B3)) C)) -> vb false = dq) /\
    (¬(¬(A1 + A2 + A3 = A1 + (A2 + A3) /\ B1 + B2 + B3 = B1 + (B2 + B3) /\ Sp.rad (B1 + B2 + B3) C = Sp.rad (B1 + (B2 + B3)) C)) -> (Sp.okO (A1 * A2 + B1 * B2 * C) (A1 * B2 + B1 * A2) (Sp.rad (A1 * B2 + B1 * A2) C) /\ Sp.okO A3 B3 (Sp.rad B3 C)) /\
      (Sp.okO A1 B1 (Sp.rad B1 C) /\ Sp.okO (A2 * A3 + B2 * B3 * C) (A2 * B3 + B2 * A3) (Sp.rad (A2 * B3 + B2 * A3) C)) /\
      ((¬(false = true)) -> (Sp.okO ((A1 * A2 + B1 * B2 * C) * A3 + (A1 * B2 + B1 * A2) * B3 * C) ((A1 * A2 + B1 * B2 * C) * B3 + (A1 * B2 + B1 * A2) * A3) (Sp.rad ((A1 * A2 + B1 * B2 * C) * B3 + (A1 * B2 + B1 * A2) * A3) C) /\ Sp.okO (A1 * (A2 * A3 + B2 * B3 * C) + B1 * (A2 * B3 + B2 * A3) * C) (A1 * (A2 * B3 + B2 * A3) + B1 * (A2 * A3 + B2 * B3 * C)) (Sp.rad (A1 * (A2 * B3 + B2 * A3) + B1 * (A2 * A3 + B2 * B3 * C)) C))) /\
      ((¬((A1 * A2 + B1 * B2 * C) * A3 + (A1 * B2 + B1 * A2) * B3 * C = A1 * (A2 * A3 + B2 * B3 * C) + B1 * (A2 * B3 + B2 * A3) * C /\ (A1 * A2 + B1 * B2 * C) * B3 + (A1 * B2 + B1 * A2) * A3 = A1 * (A2 * B3 + B2 * A3) + B1 * (A2 * A3 + B2 * B3 * C) /\ Sp.rad ((A1 * A2 + B1 * B2 * C) * B3 + (A1 * B2 + B1 * A2) * A3) C = Sp.rad (A1 * (A2 * B3 + B2 * A3) + B1 * (A2 * A3 + B2 * B3 * C)) C)) -> vb false = dq) /\
      (¬(¬((A1 * A2 + B1 * B2 * C) * A3 + (A1 * B2 + B1 * A2) * B3 * C = A1 * (A2 * A3 + B2 * B3 * C) + B1 * (A2 * B3 + B2 * A3) * C /\ (A1 * A2 + B1 * B2 * C) * B3 + (A1 * B2 + B1 * A2) * A3 = A1 * (A2 * B3 + B2 * A3) + B1 * (A2 * A3 + B2 * B3 * C) /\ Sp.rad ((A1 * A2 + B1 * B2 * C) * B3 + (A1 * B2 + B1 * A2) * A3) C = Sp.rad (A1 * (A2 * B3 + B2 * A3) + B1 * (A2 * A3 + B2 * B3 * C)) C)) -> (Sp.okO A1 B1 (Sp.rad B1 C) /\ Sp.okO A3 B3 (Sp.rad B3 C)) /\
        (Sp.okO (A1 * A2 + B1 * B2 * C) (A1 * B2 + B1 * A2) (Sp.rad (A1 * B2 + B1 * A2) C) /\ Sp.okO (A1 * A3 + B1 * B3 * C) (A1 * B3 + B1 * A3) (Sp.rad (A1 * B3 + B1 * A3) C)) /\
        ((true = true) -> (Sp.okO (A1 * (A2 + A3) + B1 * (B2 + B3) * C) (A1 * (B2 + B3) + B1 * (A2 + A3)) (Sp.rad (A1 * (B2 + B3) + B1 * (A2 + A3)) C) /\ Sp.okO (A1 * A2 + B1 * B2 * C + (A1 * A3 + B1 * B3 * C)) (A1 * B2 + B1 * A2 + (A1 * B3 + B1 * A3)) (Sp.rad (A1 * B2 + B1 * A2 + (A1 * B3 + B1 * A3)) C))) /\
        vb (decide (A1 * (A2 + A3) + B1 * (B2 + B3) * C = A1 * A2 + B1 * B2 * C + (A1 * A3 + B1 * B3 * C) /\ A1 * (B2 + B3) + B1 * (A2 + A3) = A1 * B2 + B1 * A2 + (A1 * B3 + B1 * A3) /\ Sp.rad (A1 * (B2 + B3) + B1 * (A2 + A3)) C = Sp.rad (A1 * B2 + B1 * A2 + (A1 * B3 + B1 * A3)) C)) = dq))) :
  lwField3_at a1 b1 c1 d1 e1 f1 a2 b2 c2 d2 e2 f2 a3 b3 c3 d3 e3 f3 A1 B1 A2 B2 A3 B3 C (PureQ dq) := by
  unfold lwField3_at
  obtain ⟨k2, H⟩ := H
  obtain ⟨k4, H⟩ := H
  obtain ⟨k6, H⟩ := H
  obtain ⟨k8, H⟩ := H
  obtain ⟨k10, H⟩ := H
  refine path_wp (G := given kp5 [(10, 6, .call (tu [rootF (A1 + A2) (B1 + B2) (Sp.rad (B1 + B2) C), vi 0]) none), (11, 4, .call (tu [rootF (A1 + A2 + A3) (B1 + B2 + B3) (Sp.rad (B1 + B2 + B3) C), vi 0]) none), (12, 6, .call (tu [rootF (A2 + A3) (B2 + B3) (Sp.rad (B2 + B3) C), vi 0]) none), (13, 4, .call (tu [rootF (A1 + (A2 + A3)) (B1 + (B2 + B3)) (Sp.rad (B1 + (B2 + B3)) C), vi 0]) none), (14, 17, .call (vb (decide (A1 + A2 + A3 = A1 + (A2 + A3) /\ B1 + B2 + B3 = B1 + (B2 + B3) /\ Sp.rad (B1 + B2 + B3) C = Sp.rad (B1 + (B2 + B3)) C))) none)] [(13, [7009, 7008, 902004, 6003, 3002, 3001]), (12, [6011, 6010, 902006, 3005, 3004, 3002, 3001]), (11, [5009, 5008, 902004, 3003, 3002, 4000]), (10, [4011, 4010, 902006, 3005, 3004, 3002, 3001])]) 16 [false] ⟨(atC (cd Try.f5) [1, 1, 1, 1, 1, 1, 1, 1, 0, 1]), [(3, AV.row 1 2), (8, AV.ptr 3 0 0 0), (10, AV.ptr 4 0 0 0), (12, AV.ptr 5 0 0 0), (94, vb !decide (A1 + A2 + A3 = A1 + (A2 + A3) /\ B1 + B2 + B3 = B1 + (B2 + B3) /\ Sp.rad (B1 + B2 + B3) C = Sp.rad (B1 + (B2 + B3)) C))], [⟨[(zNxH7 a1 b1 c1 d1 e1 f1 a2 b2 c2 d2 e2 f2 a3 b3 c3 d3 e3 f3)], 18, 0, false, false⟩, ⟨[rootF A1 B1 (Sp.rad B1 C), rootF A2 B2 (Sp.rad B2 C), rootF A3 B3 (Sp.rad B3 C)], 12, 2, false, true⟩, ⟨[rootF (A1 + A2) (B1 + B2) (Sp.rad (B1 + B2) C)], 12, 0, false, false⟩, ⟨[rootF (A1 + A2 + A3) (B1 + B2 + B3) (Sp.rad (B1 + B2 + B3) C)], 12, 0, false, false⟩, ⟨[rootF (A2 + A3) (B2 + B3) (Sp.rad (B2 + B3) C)], 12, 0, false, false⟩, ⟨[rootF (A1 + (A2 + A3)) (B1 + (B2 + B3)) (Sp.rad (B1 + (B2 + B3)) C)], 12, 0, false, false⟩], _, [], [⟨true, false, 20, [rootF A1 B1 (Sp.rad B1 C), rootF A2 B2 (Sp.rad B2 C)], [], tu [rootF (A1 + A2) (B1 + B2) (Sp.rad (B1 + B2) C), vi 0], []⟩, ⟨true, false, 20, [rootF (A1 + A2) (B1 + B2) (Sp.rad (B1 + B2) C), rootF A3 B3 (Sp.rad B3 C)], [], tu [rootF (A1 + A2 + A3) (B1 + B2 + B3) (Sp.rad (B1 + B2 + B3) C), vi 0], []⟩, ⟨true, false, 20, [rootF A2 B2 (Sp.rad B2 C), rootF A3 B3 (Sp.rad B3 C)], [], tu [rootF (A2 + A3) (B2 + B3) (Sp.rad (B2 + B3) C), vi 0], []⟩, ⟨true, false, 20, [rootF A1 B1 (Sp.rad B1 C), rootF (A2 + A3) (B2 + B3) (Sp.rad (B2 + B3) C)], [], tu [rootF (A1 + (A2 + A3)) (B1 + (B2 + B3)) (Sp.rad (B1 + (B2 + B3)) C), vi 0], []⟩, ⟨false == false && true && true, false, 11, [rootF (A1 + A2 + A3) (B1 + B2 + B3) (Sp.rad (B1 + B2 + B3) C), rootF (A1 + (A2 + A3)) (B1 + (B2 + B3)) (Sp.rad (B1 + (B2 + B3)) C)], [], vb (decide (A1 + A2 + A3 = A1 + (A2 + A3) /\ B1 + B2 + B3 = B1 + (B2 + B3) /\ Sp.rad (B1 + B2 + B3) C = Sp.rad (B1 + (B2 + B3)) C)), []⟩]⟩ (by kernel_rfl) (bc rfl (bc rfl (bc rfl (bc rfl (bc rfl (bc rfl (bc rfl (bc rfl (bc rfl (bc rfl (bc rfl (bc rfl (bc rfl (bc rfl (bc rfl (bc rfl (bc rfl (bc rfl (bc rfl (bc rfl (bc rfl (bc rfl (bc rfl (bc rfl (bc rfl (bc rfl (bc rfl (bc rfl (bc rfl (bc rfl (bc rfl (bc rfl (bc rfl b0))))))))))))))))))))))))))))))))) q0 (cc (fun _ => (@ev20_b (false) (false) (false) (false) (false) (false) (false) (false) (false) (false) (false) (false) (A1) (B1) (A2) (B2) (C) k2)) (cc (fun _ => (@ev20_b (false) (false) (false) (false) (false) (false) (false) (false) (false) (false) (false) (false) (A1 + A2) (B1 + B2) (A3) (B3) (C) k4)) (cc (fun _ => (@ev20_b (false) (false) (false) (false) (false) (false) (false) (false) (false) (false) (false) (false) (A2) (B2) (A3) (B3) (C) k6)) (cc (fun _ => (@ev20_b (false) (false) (false) (false) (false) (false) (false) (false) (false) (false) (false) (false) (A1) (B1) (A2 + A3) (B2 + B3) (C) k8)) (cc (fun hc => ((@ev11 (false) (false) (false) (false) (false) (false) (false) (false) (false) (false) (false) (false) (A1 + A2 + A3) (B1 + B2 + B3) (Sp.rad (B1 + B2 + B3) C) (A1 + (A2 + A3)) (B1 + (B2 + B3)) (Sp.rad (B1 + (B2 + B3)) C) (k10 ((i_at (i_at (i_bf (i_var _)))).1 hc))) : Ev M1 (Conf.pure 11 [rootF (A1 + A2 + A3) (B1 + B2 + B3) (Sp.rad (B1 + B2 + B3) C), rootF (A1 + (A2 + A3)) (B1 + (B2 + B3)) (Sp.rad (B1 + (B2 + B3)) C)]) (vb (decide (A1 + A2 + A3 = A1 + (A2 + A3) /\ B1 + B2 + B3 = B1 + (B2 + B3) /\ Sp.rad (B1 + B2 + B3) C = Sp.rad (B1 + (B2 + B3)) C))) [])) c0))))) ?_
  rcases xm (¬(A1 + A2 + A3 = A1 + (A2 + A3) /\ B1 + B2 + B3 = B1 + (B2 + B3) /\ Sp.rad (B1 + B2 + B3) C = Sp.rad (B1 + (B2 + B3)) C)) with d12 | d12
  · have H := H.1 d12
    exact path_re (G := given kp5 [] []) 1000 [true] (vb false) (by kernel_rfl) (bc (beq_t ((i_not i_dec).2 d12)) b0) q0 c0 H
  · have H := H.2 d12
    obtain ⟨k13, H⟩ := H
    obtain ⟨k14, H⟩ := H
    obtain ⟨k16, H⟩ := H
    refine path_wp (G := given kp5 [(16, 6, .call (tu [rootF (A1 * A2 + B1 * B2 * C) (A1 * B2 + B1 * A2) (Sp.rad (A1 * B2 + B1 * A2) C), vi 0]) none), (17, 4, .call (tu [rootF ((A1 * A2 + B1 * B2 * C) * A3 + (A1 * B2 + B1 * A2) * B3 * C) ((A1 * A2 + B1 * B2 * C) * B3 + (A1 * B2 + B1 * A2) * A3) (zNxH8 A1 A2 B1 B2 C B3 A3), vi 0]) none), (18, 6, .call (tu [rootF (A2 * A3 + B2 * B3 * C) (A2 * B3 + B2 * A3) (Sp.rad (A2 * B3 + B2 * A3) C), vi 0]) none), (19, 4, .call (tu [rootF (A1 * (A2 * A3 + B2 * B3 * C) + B1 * (A2 * B3 + B2 * A3) * C) (A1 * (A2 * B3 + B2 * A3) + B1 * (A2 * A3 + B2 * B3 * C)) (zNxH9 A1 A2 B3 B2 A3 B1 C), vi 0]) none), (20, 17, .call (zNxH6 A1 A2 B1 B2 C A3 B3) none)] [(18, [9011, 9010, 902006, 3005, 3004, 3002, 3001]), (16, [8011, 8010, 902006, 3005, 3004, 3002, 3001])]) 13 [false] ⟨(atC (cd Try.f5) [1, 1, 1, 1, 1, 1, 1, 1, 1, 1, 1, 1, 1, 0, 1]), [(3, AV.row 1 2), (10, AV.ptr 4 0 0 0), (14, AV.ptr 6 0 0 0), (150, vb !decide ((A1 * A2 + B1 * B2 * C) * A3 + (A1 * B2 + B1 * A2) * B3 * C = A1 * (A2 * A3 + B2 * B3 * C) + B1 * (A2 * B3 + B2 * A3) * C /\ (A1 * A2 + B1 * B2 * C) * B3 + (A1 * B2 + B1 * A2) * A3 = A1 * (A2 * B3 + B2 * A3) + B1 * (A2 * A3 + B2 * B3 * C) /\ Sp.rad ((A1 * A2 + B1 * B2 * C) * B3 + (A1 * B2 + B1 * A2) * A3) C = Sp.rad (A1 * (A2 * B3 + B2 * A3) + B1 * (A2 * A3 + B2 * B3 * C)) C))], [⟨[(zNxH7 a1 b1 c1 d1 e1 f1 a2 b2 c2 d2 e2 f2 a3 b3 c3 d3 e3 f3)], 18, 0, false, false⟩, ⟨[rootF A1 B1 (Sp.rad B1 C), rootF A2 B2 (Sp.rad B2 C), rootF A3 B3 (Sp.rad B3 C)], 12, 2, false, true⟩, ⟨[rootF (A1 + A2) (B1 + B2) (Sp.rad (B1 + B2) C)], 12, 0, false, false⟩, ⟨[rootF ((A1 * A2 + B1 * B2 * C) * A3 + (A1 * B2 + B1 * A2) * B3 * C) ((A1 * A2 + B1 * B2 * C) * B3 + (A1 * B2 + B1 * A2) * A3) (zNxH8 A1 A2 B1 B2 C B3 A3)], 12, 0, false, false⟩, ⟨[rootF (A2 + A3) (B2 + B3) (Sp.rad (B2 + B3) C)], 12, 0, false, false⟩, ⟨[rootF (A1 * (A2 * A3 + B2 * B3 * C) + B1 * (A2 * B3 + B2 * A3) * C) (A1 * (A2 * B3 + B2 * A3) + B1 * (A2 * A3 + B2 * B3 * C)) (zNxH9 A1 A2 B3 B2 A3 B1 C)], 12, 0, false, false⟩, ⟨[rootF (A1 * A2 + B1 * B2 * C) (A1 * B2 + B1 * A2) (Sp.rad (A1 * B2 + B1 * A2) C)], 12, 0, false, false⟩, ⟨[rootF (A2 * A3 + B2 * B3 * C) (A2 * B3 + B2 * A3) (Sp.rad (A2 * B3 + B2 * A3) C)], 12, 0, false, false⟩], _, [], [⟨true, false, 21, [rootF A1 B1 (Sp.rad B1 C), rootF A2 B2 (Sp.rad B2 C)], [], tu [rootF (A1 * A2 + B1 * B2 * C) (A1 * B2 + B1 * A2) (Sp.rad (A1 * B2 + B1 * A2) C), vi 0], []⟩, ⟨true, false, 21, [rootF (A1 * A2 + B1 * B2 * C) (A1 * B2 + B1 * A2) (Sp.rad (A1 * B2 + B1 * A2) C), rootF A3 B3 (Sp.rad B3 C)], [], tu [rootF ((A1 * A2 + B1 * B2 * C) * A3 + (A1 * B2 + B1 * A2) * B3 * C) ((A1 * A2 + B1 * B2 * C) * B3 + (A1 * B2 + B1 * A2) * A3) (zNxH8 A1 A2 B1 B2 C B3 A3), vi 0], []⟩, ⟨true, false, 21, [rootF A2 B2 (Sp.rad B2 C), rootF A3 B3 (Sp.rad B3 C)], [], tu [rootF (A2 * A3 + B2 * B3 * C) (A2 * B3 + B2 * A3) (Sp.rad (A2 * B3 + B2 * A3) C), vi 0], []⟩, ⟨true, false, 21, [rootF A1 B1 (Sp.rad B1 C), rootF (A2 * A3 + B2 * B3 * C) (A2 * B3 + B2 * A3) (Sp.rad (A2 * B3 + B2 * A3) C)], [], tu [rootF (A1 * (A2 * A3 + B2 * B3 * C) + B1 * (A2 * B3 + B2 * A3) * C) (A1 * (A2 * B3 + B2 * A3) + B1 * (A2 * A3 + B2 * B3 * C)) (zNxH9 A1 A2 B3 B2 A3 B1 C), vi 0], []⟩, ⟨false == false && true && true, false, 11, [rootF ((A1 * A2 + B1 * B2 * C) * A3 + (A1 * B2 + B1 * A2) * B3 * C) ((A1 * A2 + B1 * B2 * C) * B3 + (A1 * B2 + B1 * A2) * A3) (zNxH8 A1 A2 B1 B2 C B3 A3), rootF (A1 * (A2 * A3 + B2 * B3 * C) + B1 * (A2 * B3 + B2 * A3) * C) (A1 * (A2 * B3 + B2 * A3) + B1 * (A2 * A3 + B2 * B3 * C)) (zNxH9 A1 A2 B3 B2 A3 B1 C)], [], vb (decide ((A1 * A2 + B1 * B2 * C) * A3 + (A1 * B2 + B1 * A2) * B3 * C = A1 * (A2 * A3 + B2 * B3 * C) + B1 * (A2 * B3 + B2 * A3) * C /\ (A1 * A2 + B1 * B2 * C) * B3 + (A1 * B2 + B1 * A2) * A3 = A1 * (A2 * B3 + B2 * A3) + B1 * (A2 * A3 + B2 * B3 * C) /\ Sp.rad ((A1 * A2 + B1 * B2 * C) * B3 + (A1 * B2 + B1 * A2) * A3) C = Sp.rad (A1 * (A2 * B3 + B2 * A3) + B1 * (A2 * A3 + B2 * B3 * C)) C)), []⟩]⟩ (by kernel_rfl) (bc (beq_f (fun h => d12 ((i_not i_dec).1 h))) (bc rfl (bc rfl (bc rfl (bc rfl (bc rfl (bc rfl (bc rfl (bc rfl (bc rfl (bc rfl (bc rfl (bc rfl (bc rfl (bc rfl (bc rfl (bc rfl (bc rfl (bc rfl (bc rfl (bc rfl (bc rfl (bc rfl (bc rfl (bc rfl (bc rfl (bc rfl (bc rfl (bc rfl (bc rfl (bc rfl (bc rfl (bc rfl b0))))))))))))))))))))))))))))))))) q0 (cc (fun _ => (@ev21_b (false) (false) (false) (false) (false) (false) (false) (false) (false) (false) (false) (false) (A1) (B1) (A2) (B2) (C) k2)) (cc (fun _ => (@ev21_b (false) (false) (false) (false) (false) (false) (false) (false) (false) (false) (false) (false) (A1 * A2 + B1 * B2 * C) (A1 * B2 + B1 * A2) (A3) (B3) (C) k13)) (cc (fun _ => (@ev21_b (false) (false) (false) (false) (false) (false) (false) (false) (false) (false) (false) (false) (A2) (B2) (A3) (B3) (C) k6)) (cc (fun _ => (@ev21_b (false) (false) (false) (false) (false) (false) (false) (false) (false) (false) (false) (false) (A1) (B1) (A2 * A3 + B2 * B3 * C) (A2 * B3 + B2 * A3) (C) k14)) (cc (fun hc => ((@ev11 (false) (false) (false) (false) (false) (false) (false) (false) (false) (false) (false) (false) ((A1 * A2 + B1 * B2 * C) * A3 + (A1 * B2 + B1 * A2) * B3 * C) ((A1 * A2 + B1 * B2 * C) * B3 + (A1 * B2 + B1 * A2) * A3) (zNxH8 A1 A2 B1 B2 C B3 A3) (A1 * (A2 * A3 + B2 * B3 * C) + B1 * (A2 * B3 + B2 * A3) * C) (A1 * (A2 * B3 + B2 * A3) + B1 * (A2 * A3 + B2 * B3 * C)) (zNxH9 A1 A2 B3 B2 A3 B1 C) (k16 ((i_at (i_at (i_bf (i_var _)))).1 hc))) : Ev M1 (Conf.pure 11 [rootF ((A1 * A2 + B1 * B2 * C) * A3 + (A1 * B2 + B1 * A2) * B3 * C) ((A1 * A2 + B1 * B2 * C) * B3 + (A1 * B2 + B1 * A2) * A3) (zNxH8 A1 A2 B1 B2 C B3 A3), rootF (A1 * (A2 * A3 + B2 * B3 * C) + B1 * (A2 * B3 + B2 * A3) * C) (A1 * (A2 * B3 + B2 * A3) + B1 * (A2 * A3 + B2 * B3 * C)) (zNxH9 A1 A2 B3 B2 A3 B1 C)]) (zNxH6 A1 A2 B1 B2 C A3 B3) [])) c0))))) ?_
    rcases xm (¬((A1 * A2 + B1 * B2 * C) * A3 + (A1 * B2 + B1 * A2) * B3 * C = A1 * (A2 * A3 + B2 * B3 * C) + B1 * (A2 * B3 + B2 * A3) * C /\ (A1 * A2 + B1 * B2 * C) * B3 + (A1 * B2 + B1 * A2) * A3 = A1 * (A2 * B3 + B2 * A3) + B1 * (A2 * A3 + B2 * B3 * C) /\ Sp.rad ((A1 * A2 + B1 * B2 * C) * B3 + (A1 * B2 + B1 * A2) * A3) C = Sp.rad (A1 * (A2 * B3 + B2 * A3) + B1 * (A2 * A3 + B2 * B3 * C)) C)) with d18 | d18
    · have H := H.1 d18
      exact path_re (G := given kp5 [] []) 1000 [true] (vb false) (by kernel_rfl) (bc (beq_t ((i_not i_dec).2 d18)) b0) q0 c0 H
    · have H := H.2 d18
      obtain ⟨k20, H⟩ := H
      obtain ⟨k21, H⟩ := H
      obtain ⟨k23, H⟩ := H
      exact path_re (G := given kp5 [(22, 4, .call (tu [rootF (A1 * (A2 + A3) + B1 * (B2 + B3) * C) (A1 * (B2 + B3) + B1 * (A2 + A3)) (Sp.rad (A1 * (B2 + B3) + B1 * (A2 + A3)) C), vi 0]) none), (23, 6, .call (tu [rootF (A1 * A3 + B1 * B3 * C) (A1 * B3 + B1 * A3) (Sp.rad (A1 * B3 + B1 * A3) C), vi 0]) none), (24, 2, .call (tu [rootF (A1 * A2 + B1 * B2 * C + (A1 * A3 + B1 * B3 * C)) (A1 * B2 + B1 * A2 + (A1 * B3 + B1 * A3)) (Sp.rad (A1 * B2 + B1 * A2 + (A1 * B3 + B1 * A3)) C), vi 0]) none), (25, 13, .call (zNxH5 A1 A2 A3 B1 B2 B3 C) none)] [(23, [11011, 11010, 902006, 3005, 3004, 3002, 3001]), (22, [10009, 10008, 902004, 6003, 3002, 3001])]) 1000 [false] (calls := [⟨true, false, 21, [rootF A1 B1 (Sp.rad B1 C), rootF (A2 + A3) (B2 + B3) (Sp.rad (B2 + B3) C)], [], tu [rootF (A1 * (A2 + A3) + B1 * (B2 + B3) * C) (A1 * (B2 + B3) + B1 * (A2 + A3)) (Sp.rad (A1 * (B2 + B3) + B1 * (A2 + A3)) C), vi 0], []⟩, ⟨true, false, 21, [rootF A1 B1 (Sp.rad B1 C), rootF A3 B3 (Sp.rad B3 C)], [], tu [rootF (A1 * A3 + B1 * B3 * C) (A1 * B3 + B1 * A3) (Sp.rad (A1 * B3 + B1 * A3) C), vi 0], []⟩, ⟨true, false, 20, [rootF (A1 * A2 + B1 * B2 * C) (A1 * B2 + B1 * A2) (Sp.rad (A1 * B2 + B1 * A2) C), rootF (A1 * A3 + B1 * B3 * C) (A1 * B3 + B1 * A3) (Sp.rad (A1 * B3 + B1 * A3) C)], [], tu [rootF (A1 * A2 + B1 * B2 * C + (A1 * A3 + B1 * B3 * C)) (A1 * B2 + B1 * A2 + (A1 * B3 + B1 * A3)) (Sp.rad (A1 * B2 + B1 * A2 + (A1 * B3 + B1 * A3)) C), vi 0], []⟩, ⟨true == true && true && true, false, 11, [rootF (A1 * (A2 + A3) + B1 * (B2 + B3) * C) (A1 * (B2 + B3) + B1 * (A2 + A3)) (Sp.rad (A1 * (B2 + B3) + B1 * (A2 + A3)) C), rootF (A1 * A2 + B1 * B2 * C + (A1 * A3 + B1 * B3 * C)) (A1 * B2 + B1 * A2 + (A1 * B3 + B1 * A3)) (Sp.rad (A1 * B2 + B1 * A2 + (A1 * B3 + B1 * A3)) C)], [], vb (decide (A1 * (A2 + A3) + B1 * (B2 + B3) * C = A1 * A2 + B1 * B2 * C + (A1 * A3 + B1 * B3 * C) /\ A1 * (B2 + B3) + B1 * (A2 + A3) = A1 * B2 + B1 * A2 + (A1 * B3 + B1 * A3) /\ Sp.rad (A1 * (B2 + B3) + B1 * (A2 + A3)) C = Sp.rad (A1 * B2 + B1 * A2 + (A1 * B3 + B1 * A3)) C)), []⟩]) (zNxH5 A1 A2 A3 B1 B2 B3 C) (by kernel_rfl) (bc (beq_f (fun h => d18 ((i_not i_dec).1 h))) (bc rfl (bc rfl (bc rfl (bc rfl (bc rfl (bc rfl (bc rfl (bc rfl (bc rfl (bc rfl (bc rfl (bc rfl (bc rfl (bc rfl (bc rfl (bc rfl (bc rfl (bc rfl (bc rfl (bc rfl b0))))))))))))))))))))) q0 (cc (fun _ => (@ev21_b (false) (false) (false) (false) (false) (false) (false) (false) (false) (false) (false) (false) (A1) (B1) (A2 + A3) (B2 + B3) (C) k8)) (cc (fun _ => (@ev21_b (false) (false) (false) (false) (false) (false) (false) (false) (false) (false) (false) (false) (A1) (B1) (A3) (B3) (C) k20)) (cc (fun _ => (@ev20_b (false) (false) (false) (false) (false) (false) (false) (false) (false) (false) (false) (false) (A1 * A2 + B1 * B2 * C) (A1 * B2 + B1 * A2) (A1 * A3 + B1 * B3 * C) (A1 * B3 + B1 * A3) (C) k21)) (cc (fun hc => ((@ev11 (false) (false) (false) (false) (false) (false) (false) (false) (false) (false) (false) (false) (A1 * (A2 + A3) + B1 * (B2 + B3) * C) (A1 * (B2 + B3) + B1 * (A2 + A3)) (Sp.rad (A1 * (B2 + B3) + B1 * (A2 + A3)) C) (A1 * A2 + B1 * B2 * C + (A1 * A3 + B1 * B3 * C)) (A1 * B2 + B1 * A2 + (A1 * B3 + B1 * A3)) (Sp.rad (A1 * B2 + B1 * A2 + (A1 * B3 + B1 * A3)) C) (k23 ((i_at (i_at (i_bt (i_var _)))).1 hc))) : Ev M1 (Conf.pure 11 [rootF (A1 * (A2 + A3) + B1 * (B2 + B3) * C) (A1 * (B2 + B3) + B1 * (A2 + A3)) (Sp.rad (A1 * (B2 + B3) + B1 * (A2 + A3)) C), rootF (A1 * A2 + B1 * B2 * C + (A1 * A3 + B1 * B3 * C)) (A1 * B2 + B1 * A2 + (A1 * B3 + B1 * A3)) (Sp.rad (A1 * B2 + B1 * A2 + (A1 * B3 + B1 * A3)) C)]) (zNxH5 A1 A2 A3 B1 B2 B3 C) [])) c0)))) H
end Go.Av

namespace Go.Av
open Go.Proofs
theorem okO_rad {k : Nat} {a b c : Rat} (ha : Sp.okT k a) (hb : Sp.okT k b) (hc : Sp.okT k c) (hk : k ≤ 8999) : Sp.okO a b (Sp.rad b c) :=
  ⟨okT_le ha (by omega), okT_le hb (by omega), okT_le (okT_rad hc) (by omega)⟩
theorem okT_sd {a b c d e f : Int} (h : Sp.okSd a b c d e f) : Sp.okT 10 (Sp.sdA a b c d e f) ∧ Sp.okT 10 (Sp.sdB b c e f) ∧ Sp.okT 10 (Sp.sdC c f) := by
  obtain ⟨ha, hb, hc, hd, he, hf⟩ := h
  have f1 : Sp.okF a (d + 1) := by unfold Sp.okF Sp.inI; omega
  have f2 : Sp.okF b (e + 1) := by unfold Sp.okF Sp.inI; omega
  have f3 : Sp.okF c (f + 1) := by unfold Sp.okF Sp.inI; omega
  exact ⟨okT_mkA (okT_qf f1) (okT_qf f2) (okT_qf f3), okT_le (okT_mkB (okT_qf f2)) (by omega), okT_le (okT_qf f3) (by omega)⟩
theorem okT_pA {k : Nat} {a b x y c : Rat} (ha : Sp.okT k a) (hb : Sp.okT k b) (hx : Sp.okT k x) (hy : Sp.okT k y) (hc : Sp.okT k c) : Sp.okT (5 * k + 1) (a * x + b * y * c) :=
  okT_le (okT_add (okT_mul ha hx) (okT_mul (okT_mul hb hy) hc)) (by omega)
theorem okT_pB {k : Nat} {a b x y : Rat} (ha : Sp.okT k a) (hb : Sp.okT k b) (hx : Sp.okT k x) (hy : Sp.okT k y) : Sp.okT (5 * k + 1) (a * y + b * x) :=
  okT_le (okT_add (okT_mul ha hy) (okT_mul hb hx)) (by omega)
theorem okT_s {k : Nat} {a x : Rat} (ha : Sp.okT k a) (hx : Sp.okT k x) : Sp.okT (5 * k + 1) (a + x) := okT_le (okT_add ha hx) (by omega)
theorem field_ok {a1 b1 c1 d1 e1 f1 a2 b2 c2 d2 e2 f2 a3 b3 c3 d3 e3 f3 : Int} {A1 B1 A2 B2 A3 B3 C : Rat} (h1 : Sp.okT 10 A1) (g1 : Sp.okT 10 B1) (h2 : Sp.okT 10 A2) (g2 : Sp.okT 10 B2) (h3 : Sp.okT 10 A3) (g3 : Sp.okT 10 B3) (hC : Sp.okT 10 C) :
    lwField3_at a1 b1 c1 d1 e1 f1 a2 b2 c2 d2 e2 f2 a3 b3 c3 d3 e3 f3 A1 B1 A2 B2 A3 B3 C (PureQ (.bool true)) := by
  have o1 := okO_rad h1 g1 hC (by omega)
  have o2 := okO_rad h2 g2 hC (by omega)
  have o3 := okO_rad h3 g3 hC (by omega)
  have c51 : Sp.okT 51 C := okT_le hC (by omega)
  have c256 : Sp.okT 256 C := okT_le hC (by omega)
  have up {r : Rat} (h : Sp.okT 10 r) : Sp.okT 51 r := okT_le h (by omega)
  have sA12 := okT_s h1 h2
  have sB12 := okT_s g1 g2
  have sA23 := okT_s h2 h3
  have sB23 := okT_s g2 g3
  have sA := okT_s sA12 (up h3)
  have sB := okT_s sB12 (up g3)
  have tA := okT_s (up h1) sA23
  have tB := okT_s (up g1) sB23
  have pA12 := okT_pA h1 g1 h2 g2 hC
  have pB12 := okT_pB h1 g1 h2 g2
  have pA23 := okT_pA h2 g2 h3 g3 hC
  have pB23 := okT_pB h2 g2 h3 g3
  have pA13 := okT_pA h1 g1 h3 g3 hC
  have pB13 := okT_pB h1 g1 h3 g3
  have qA := okT_pA pA12 pB12 (up h3) (up g3) c51
  have qB := okT_pB pA12 pB12 (up h3) (up g3)
  have rA := okT_pA (up h1) (up g1) pA23 pB23 c51
  have rB := okT_pB (up h1) (up g1) pA23 pB23
  have wA := okT_pA (up h1) (up g1) sA23 sB23 c51
  have wB := okT_pB (up h1) (up g1) sA23 sB23
  have vA := okT_s pA12 pA13
  have vB := okT_s pB12 pB13
  have e1 : A1 + A2 + A3 = A1 + (A2 + A3) := by grind
  have e2 : B1 + B2 + B3 = B1 + (B2 + B3) := by grind
  have e3 : (A1 * A2 + B1 * B2 * C) * A3 + (A1 * B2 + B1 * A2) * B3 * C = A1 * (A2 * A3 + B2 * B3 * C) + B1 * (A2 * B3 + B2 * A3) * C := by grind
  have e4 : (A1 * A2 + B1 * B2 * C) * B3 + (A1 * B2 + B1 * A2) * A3 = A1 * (A2 * B3 + B2 * A3) + B1 * (A2 * A3 + B2 * B3 * C) := by grind
  have e5 : A1 * (A2 + A3) + B1 * (B2 + B3) * C = A1 * A2 + B1 * B2 * C + (A1 * A3 + B1 * B3 * C) := by grind
  have e6 : A1 * (B2 + B3) + B1 * (A2 + A3) = A1 * B2 + B1 * A2 + (A1 * B3 + B1 * A3) := by grind
  refine lwField3 _ _ _ _ _ _ _ _ _ _ _ _ _ _ _ _ _ _ _ _ _ _ _ _ _ _ ⟨⟨o1, o2⟩, ⟨okO_rad sA12 sB12 c51 (by omega), o3⟩, ⟨o2, o3⟩, ⟨o1, okO_rad sA23 sB23 c51 (by omega)⟩, fun _ => ⟨okO_rad sA sB c256 (by omega), okO_rad tA tB c256 (by omega)⟩, fun k => absurd ⟨e1, e2, by rw [e2]⟩ k, fun _ => ⟨⟨okO_rad pA12 pB12 c51 (by omega), o3⟩, ⟨o1, okO_rad pA23 pB23 c51 (by omega)⟩, fun _ => ⟨okO_rad qA qB c256 (by omega), okO_rad rA rB c256 (by omega)⟩, fun k => absurd ⟨e3, e4, by rw [e4]⟩ k, fun _ => ⟨⟨o1, o3⟩, ⟨okO_rad pA12 pB12 c51 (by omega), okO_rad pA13 pB13 c51 (by omega)⟩, fun _ => ⟨okO_rad wA wB c256 (by omega), okO_rad vA vB c256 (by omega)⟩, ?_⟩⟩⟩
  rw [decide_eq_true ⟨e5, e6, by rw [e6]⟩]
theorem ev5 (a1 b1 c1 d1 e1 f1 a2 b2 c2 d2 e2 f2 a3 b3 c3 d3 e3 f3 : Int) (k1 : Sp.okSd a1 b1 c1 d1 e1 f1) (k2 : Sp.okSd a2 b2 c2 d2 e2 f2) (k3 : Sp.okSd a3 b3 c3 d3 e3 f3) : Ev M1 (.pure 5 [.agg [.int .i16 a1, .int .i16 b1, .int .u16 c1, .int .u8 d1, .int .u8 e1, .int .u8 f1, .int .i16 a2, .int .i16 b2, .int .u16 c2, .int .u8 d2, .int .u8 e2, .int .u8 f2, .int .i16 a3, .int .i16 b3, .int .u16 c3, .int .u8 d3, .int .u8 e3, .int .u8 f3]]) (.bool true) [] := by
  have m2 : Sp.okSd a2 b2 c1 d2 e2 f1 := ⟨k2.1, k2.2.1, k1.2.2.1, k2.2.2.2.1, k2.2.2.2.2.1, k1.2.2.2.2.2⟩
  have m3 : Sp.okSd a3 b3 c1 d3 e3 f1 := ⟨k3.1, k3.2.1, k1.2.2.1, k3.2.2.2.1, k3.2.2.2.2.1, k1.2.2.2.2.2⟩
  obtain ⟨x1, y1, z1⟩ := okT_sd k1
  obtain ⟨x2, y2, _⟩ := okT_sd m2
  obtain ⟨x3, y3, _⟩ := okT_sd m3
  exact call5 (lwField _ _ _ _ _ _ _ _ _ _ _ _ _ _ _ _ _ _ _ (lwField0 _ _ _ _ _ _ _ _ _ _ _ _ _ _ _ _ _ _ _ ⟨k1, lwField1 _ _ _ _ _ _ _ _ _ _ _ _ _ _ _ _ _ _ _ _ _ ⟨m2, lwField2 _ _ _ _ _ _ _ _ _ _ _ _ _ _ _ _ _ _ _ _ _ _ _ ⟨m3, field_ok x1 y1 x2 y2 x3 y3 z1⟩⟩⟩))
end Go.Av
