/- PATHS, written by a program of the prover's. -/
import Derived.Test.YtfndgoannijhpaaCycR1
namespace Go.Av
open Go.Proofs
set_option maxRecDepth 100000
def fi57 : Fi := ⟨16, [.tmp 4, .tmp 5]⟩
def kp57 : List (Nat × List Nat) := [(0, [1, 2]), (1, [6]), (2, [6, 12]), (3, [4, 5]), (4, [4, 5])]
def v57_at (sk fl : Bool) (ws : List Wd) (cm : List UInt8) (c : Int) (Q : AV → Heap → Prop) : Prop := Wp M1 (.run fi57 (atC (cd Try.f57) []) [(0, .agg [.bool sk, .vec fl 2 (ws.map Wd.a), .str cm]), (1, .int .u8 c)] []) Q
theorem call57 {args : List AV} {d : AV} (h : Wp M1 (.run fi57 [.code (cd Try.f57)] (argVars 0 args) []) (PureQ d)) : Ev M1 (.pure 57 args) d [] :=
  pure_pq Try.f57 fi57 (by kernel_rfl) (by kernel_rfl) (by kernel_rfl) (by kernel_rfl) h
theorem owncall57 {args : List AV} {L : Heap} {Q : AV → Heap → Prop} (h : Wp M1 (.run fi57 [.code (cd Try.f57)] (argVars 0 args) L) Q) : Wp M1 (.own 57 args L) Q :=
  own_wp Try.f57 fi57 (by kernel_rfl) (by kernel_rfl) (by kernel_rfl) (by kernel_rfl) h
theorem v57 (sk fl : Bool) (ws : List Wd) (cm : List UInt8) (c : Int) (dq : AV) (H :
    (ws.length < 1000000) ∧
    (((↑(Sp.codes c ws).length : Int) = 0) → AV.tup [AV.int IntKind.i64 0, AV.bool false] = dq) ∧
    (¬((↑(Sp.codes c ws).length : Int) = 0) → (0 < (Sp.codes c ws).length) ∧
      AV.tup [AV.int IntKind.i64 ((Sp.codes c ws).getD 0 default), AV.bool true] = dq)) :
  v57_at sk fl ws cm c (PureQ dq) := by
  unfold v57_at
  have k1 := H.1; have H := H.2
  have w2 : (List.map (AV.int IntKind.i64) (Sp.codes c ws)).length = (Sp.codes c ws).length := List.length_map ..
  have i3 : ((↑(List.map (AV.int IntKind.i64) (Sp.codes c ws)).length : Int) == 0) = true ↔ ((↑(Sp.codes c ws).length : Int) = 0) := (by rw [w2] <;> exact i_eq)
  rcases Classical.em ((↑(Sp.codes c ws).length : Int) = 0) with d4 | d4
  · have H := H.1 d4
    exact path_ret (G := given kp57 [(1, 2, .call (AV.vec false 1 (List.map (AV.int IntKind.i64) (Sp.codes c ws))) none)] []) 1000 [true] (k := ((atC (cd Try.f57) [1, 1, 0, 1, 0, 1])).tail) (env' := [(4, AV.int IntKind.i64 0), (5, AV.bool false)]) (L' := [{ elems := [AV.agg [AV.bool sk, AV.vec fl 2 (List.map Wd.a ws), AV.str cm]], es := 3, ver := 0, frozen := false, clean := false }]) (asm := [true, ((↑(List.map (AV.int IntKind.i64) (Sp.codes c ws)).length : Int) == 0) == true]) (eqs := []) (calls := [⟨true, false, 67, [AV.agg [AV.bool sk, AV.vec fl 2 (List.map Wd.a ws), AV.str cm], AV.int IntKind.u8 c], [], AV.vec false 1 (List.map (AV.int IntKind.i64) (Sp.codes c ws)), []⟩]) (AV.tup [AV.int IntKind.i64 0, AV.bool false]) (by kernel_rfl) (by kernel_rfl) (allB_cons rfl (allB_cons (beq_t (i3.2 d4)) allB_nil)) allP_nil (allC_cons (fun _ => ((@ev67 (sk) (fl) (ws) (cm) (c) k1) : Ev M1 (Conf.pure 67 [AV.agg [AV.bool sk, AV.vec fl 2 (List.map Wd.a ws), AV.str cm], AV.int IntKind.u8 c]) (AV.vec false 1 (List.map (AV.int IntKind.i64) (Sp.codes c ws))) [])) allC_nil) (pq_of (d := AV.tup [AV.int IntKind.i64 0, AV.bool false]) (bs := []) (by kernel_rfl) (by kernel_rfl) allB_nil (by kernel_rfl) H)
  · have H := H.2 d4
    have i5 : (decide (0 < (List.map (AV.int IntKind.i64) (Sp.codes c ws)).length)) = true ↔ (0 < (Sp.codes c ws).length) := (by rw [w2] <;> exact i_dec)
    have k6 := H.1; have H := H.2
    exact path_ret (G := given kp57 [(1, 2, .call (AV.vec false 1 (List.map (AV.int IntKind.i64) (Sp.codes c ws))) none), (4, 2, .elem (AV.int IntKind.i64 ((Sp.codes c ws).getD 0 default)))] []) 1000 [false] (k := ((atC (cd Try.f57) [1, 1, 1, 1])).tail) (env' := [(4, AV.int IntKind.i64 ((Sp.codes c ws).getD 0 default)), (5, AV.bool true)]) (L' := [{ elems := [AV.agg [AV.bool sk, AV.vec fl 2 (List.map Wd.a ws), AV.str cm]], es := 3, ver := 0, frozen := false, clean := false }]) (asm := [true, ((↑(List.map (AV.int IntKind.i64) (Sp.codes c ws)).length : Int) == 0) == false, true, decide (0 < (List.map (AV.int IntKind.i64) (Sp.codes c ws)).length)]) (eqs := [((List.map (AV.int IntKind.i64) (Sp.codes c ws)).get?Internal 0 = some (AV.int IntKind.i64 ((Sp.codes c ws).getD 0 default)))]) (calls := [⟨true, false, 67, [AV.agg [AV.bool sk, AV.vec fl 2 (List.map Wd.a ws), AV.str cm], AV.int IntKind.u8 c], [], AV.vec false 1 (List.map (AV.int IntKind.i64) (Sp.codes c ws)), []⟩]) (AV.tup [AV.int IntKind.i64 ((Sp.codes c ws).getD 0 default), AV.bool true]) (by kernel_rfl) (by kernel_rfl) (allB_cons rfl (allB_cons (beq_f (fun h => d4 (i3.1 h))) (allB_cons rfl (allB_cons (i5.2 k6) allB_nil)))) (allP_cons (el_map k6) allP_nil) (allC_cons (fun _ => ((@ev67 (sk) (fl) (ws) (cm) (c) k1) : Ev M1 (Conf.pure 67 [AV.agg [AV.bool sk, AV.vec fl 2 (List.map Wd.a ws), AV.str cm], AV.int IntKind.u8 c]) (AV.vec false 1 (List.map (AV.int IntKind.i64) (Sp.codes c ws))) [])) allC_nil) (pq_of (d := AV.tup [AV.int IntKind.i64 ((Sp.codes c ws).getD 0 default), AV.bool true]) (bs := []) (by kernel_rfl) (by kernel_rfl) allB_nil (by kernel_rfl) H)


end Go.Av
