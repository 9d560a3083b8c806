/- PATHS, written by a program of the prover's. -/
import Derived.Test.YtfndgoannijhpaaCycR2
namespace Go.Av
open Go.Proofs
set_option maxRecDepth 100000
def fi42 : Fi := ⟨17, [.tmp 5]⟩
def kp42 : List (Nat × List Nat) := [(0, [0, 1, 2]), (1, [1, 6, 7]), (2, [1, 6, 14]), (3, [5]), (4, [5])]
def fi44 : Fi := ⟨18, [.tmp 6]⟩
def kp44 : List (Nat × List Nat) := [(0, [1, 2, 3]), (1, [2, 7, 8]), (2, [2, 7, 15]), (3, [6]), (4, [6])]
def v42_at (sk fl : Bool) (ws : List Wd) (cm : List UInt8) (c d : Int) (Q : AV → Heap → Prop) : Prop := Wp M1 (.run fi42 (atC (cd Try.f42) []) [(0, .int .u8 c), (1, .int .i64 d), (2, .eptr 3 [.agg [.bool sk, .vec fl 2 (ws.map Wd.a), .str cm]] 0 0)] []) Q
def v44_at (sk fl : Bool) (ws : List Wd) (cm : List UInt8) (c d : Int) (Q : AV → Heap → Prop) : Prop := Wp M1 (.run fi44 (atC (cd Try.f44) []) [(0, .agg [.bool sk, .vec fl 2 (ws.map Wd.a), .str cm]), (1, .int .u8 c), (2, .int .i64 d)] []) Q
theorem call42 {args : List AV} {d : AV} (h : Wp M1 (.run fi42 [.code (cd Try.f42)] (argVars 0 args) []) (PureQ d)) : Ev M1 (.pure 42 args) d [] :=
  pure_pq Try.f42 fi42 (by kernel_rfl) (by kernel_rfl) (by kernel_rfl) (by kernel_rfl) h
theorem owncall42 {args : List AV} {L : Heap} {Q : AV → Heap → Prop} (h : Wp M1 (.run fi42 [.code (cd Try.f42)] (argVars 0 args) L) Q) : Wp M1 (.own 42 args L) Q :=
  own_wp Try.f42 fi42 (by kernel_rfl) (by kernel_rfl) (by kernel_rfl) (by kernel_rfl) h
theorem call44 {args : List AV} {d : AV} (h : Wp M1 (.run fi44 [.code (cd Try.f44)] (argVars 0 args) []) (PureQ d)) : Ev M1 (.pure 44 args) d [] :=
  pure_pq Try.f44 fi44 (by kernel_rfl) (by kernel_rfl) (by kernel_rfl) (by kernel_rfl) h
theorem owncall44 {args : List AV} {L : Heap} {Q : AV → Heap → Prop} (h : Wp M1 (.run fi44 [.code (cd Try.f44)] (argVars 0 args) L) Q) : Wp M1 (.own 44 args L) Q :=
  own_wp Try.f44 fi44 (by kernel_rfl) (by kernel_rfl) (by kernel_rfl) (by kernel_rfl) h
theorem v42 (sk fl : Bool) (ws : List Wd) (cm : List UInt8) (c d : Int) (dq : AV) (H :
    (ws.length < 1000000) ∧
    ((Sp.hasC c ws = true) → AV.int IntKind.i64 (Sp.val c ws) = dq) ∧
    (¬(Sp.hasC c ws = true) → AV.int IntKind.i64 d = dq)) :
  v42_at sk fl ws cm c d (PureQ dq) := by
  unfold v42_at
  have k1 := H.1; have H := H.2
  have i2 : (Sp.hasC c ws) = true ↔ (Sp.hasC c ws = true) := (i_var _)
  rcases Classical.em (Sp.hasC c ws = true) with d3 | d3
  · have H := H.1 d3
    exact path_ret (G := given kp42 [(1, 2, .call (AV.tup [AV.int IntKind.i64 (Sp.val c ws), AV.bool (Sp.hasC c ws)]) none)] []) 1000 [true] (k := ((atC (cd Try.f42) [1, 0, 1, 1, 0, 1])).tail) (env' := [(5, AV.int IntKind.i64 (Sp.val c ws))]) (L' := []) (asm := [(Sp.hasC c ws) == true]) (eqs := []) (calls := [⟨true, false, 43, [AV.agg [AV.bool sk, AV.vec fl 2 (List.map Wd.a ws), AV.str cm], AV.int IntKind.u8 c], [], AV.tup [AV.int IntKind.i64 (Sp.val c ws), AV.bool (Sp.hasC c ws)], []⟩]) (AV.int IntKind.i64 (Sp.val c ws)) (by kernel_rfl) (by kernel_rfl) (allB_cons (beq_t (i2.2 d3)) allB_nil) allP_nil (allC_cons (fun _ => ((@ev43 (sk) (fl) (ws) (cm) (c) k1) : Ev M1 (Conf.pure 43 [AV.agg [AV.bool sk, AV.vec fl 2 (List.map Wd.a ws), AV.str cm], AV.int IntKind.u8 c]) (AV.tup [AV.int IntKind.i64 (Sp.val c ws), AV.bool (Sp.hasC c ws)]) [])) allC_nil) (pq_of (d := AV.int IntKind.i64 (Sp.val c ws)) (bs := []) (by kernel_rfl) (by kernel_rfl) allB_nil (by kernel_rfl) H)
  · have H := H.2 d3
    exact path_ret (G := given kp42 [(1, 2, .call (AV.tup [AV.int IntKind.i64 (Sp.val c ws), AV.bool (Sp.hasC c ws)]) none)] []) 1000 [false] (k := ((atC (cd Try.f42) [1, 1, 1])).tail) (env' := [(5, AV.int IntKind.i64 d)]) (L' := []) (asm := [(Sp.hasC c ws) == false]) (eqs := []) (calls := [⟨true, false, 43, [AV.agg [AV.bool sk, AV.vec fl 2 (List.map Wd.a ws), AV.str cm], AV.int IntKind.u8 c], [], AV.tup [AV.int IntKind.i64 (Sp.val c ws), AV.bool (Sp.hasC c ws)], []⟩]) (AV.int IntKind.i64 d) (by kernel_rfl) (by kernel_rfl) (allB_cons (beq_f (fun h => d3 (i2.1 h))) allB_nil) allP_nil (allC_cons (fun _ => ((@ev43 (sk) (fl) (ws) (cm) (c) k1) : Ev M1 (Conf.pure 43 [AV.agg [AV.bool sk, AV.vec fl 2 (List.map Wd.a ws), AV.str cm], AV.int IntKind.u8 c]) (AV.tup [AV.int IntKind.i64 (Sp.val c ws), AV.bool (Sp.hasC c ws)]) [])) allC_nil) (pq_of (d := AV.int IntKind.i64 d) (bs := []) (by kernel_rfl) (by kernel_rfl) allB_nil (by kernel_rfl) H)

theorem v44 (sk fl : Bool) (ws : List Wd) (cm : List UInt8) (c d : Int) (dq : AV) (H :
    (ws.length < 1000000) ∧
    ((Sp.hasC c ws = true) → AV.int IntKind.i64 (Sp.val c ws) = dq) ∧
    (¬(Sp.hasC c ws = true) → AV.int IntKind.i64 d = dq)) :
  v44_at sk fl ws cm c d (PureQ dq) := by
  unfold v44_at
  have k1 := H.1; have H := H.2
  have i2 : (Sp.hasC c ws) = true ↔ (Sp.hasC c ws = true) := (i_var _)
  rcases Classical.em (Sp.hasC c ws = true) with d3 | d3
  · have H := H.1 d3
    exact path_ret (G := given kp44 [(1, 2, .call (AV.tup [AV.int IntKind.i64 (Sp.val c ws), AV.bool (Sp.hasC c ws)]) none)] []) 1000 [true] (k := ((atC (cd Try.f44) [1, 0, 1, 1, 0, 1])).tail) (env' := [(6, AV.int IntKind.i64 (Sp.val c ws))]) (L' := [{ elems := [AV.agg [AV.bool sk, AV.vec fl 2 (List.map Wd.a ws), AV.str cm]], es := 3, ver := 0, frozen := false, clean := false }]) (asm := [true, (Sp.hasC c ws) == true]) (eqs := []) (calls := [⟨true, false, 57, [AV.agg [AV.bool sk, AV.vec fl 2 (List.map Wd.a ws), AV.str cm], AV.int IntKind.u8 c], [], AV.tup [AV.int IntKind.i64 (Sp.val c ws), AV.bool (Sp.hasC c ws)], []⟩]) (AV.int IntKind.i64 (Sp.val c ws)) (by kernel_rfl) (by kernel_rfl) (allB_cons rfl (allB_cons (beq_t (i2.2 d3)) allB_nil)) allP_nil (allC_cons (fun _ => ((@ev57 (sk) (fl) (ws) (cm) (c) k1) : Ev M1 (Conf.pure 57 [AV.agg [AV.bool sk, AV.vec fl 2 (List.map Wd.a ws), AV.str cm], AV.int IntKind.u8 c]) (AV.tup [AV.int IntKind.i64 (Sp.val c ws), AV.bool (Sp.hasC c ws)]) [])) allC_nil) (pq_of (d := AV.int IntKind.i64 (Sp.val c ws)) (bs := []) (by kernel_rfl) (by kernel_rfl) allB_nil (by kernel_rfl) H)
  · have H := H.2 d3
    exact path_ret (G := given kp44 [(1, 2, .call (AV.tup [AV.int IntKind.i64 (Sp.val c ws), AV.bool (Sp.hasC c ws)]) none)] []) 1000 [false] (k := ((atC (cd Try.f44) [1, 1, 1])).tail) (env' := [(6, AV.int IntKind.i64 d)]) (L' := [{ elems := [AV.agg [AV.bool sk, AV.vec fl 2 (List.map Wd.a ws), AV.str cm]], es := 3, ver := 0, frozen := false, clean := false }]) (asm := [true, (Sp.hasC c ws) == false]) (eqs := []) (calls := [⟨true, false, 57, [AV.agg [AV.bool sk, AV.vec fl 2 (List.map Wd.a ws), AV.str cm], AV.int IntKind.u8 c], [], AV.tup [AV.int IntKind.i64 (Sp.val c ws), AV.bool (Sp.hasC c ws)], []⟩]) (AV.int IntKind.i64 d) (by kernel_rfl) (by kernel_rfl) (allB_cons rfl (allB_cons (beq_f (fun h => d3 (i2.1 h))) allB_nil)) allP_nil (allC_cons (fun _ => ((@ev57 (sk) (fl) (ws) (cm) (c) k1) : Ev M1 (Conf.pure 57 [AV.agg [AV.bool sk, AV.vec fl 2 (List.map Wd.a ws), AV.str cm], AV.int IntKind.u8 c]) (AV.tup [AV.int IntKind.i64 (Sp.val c ws), AV.bool (Sp.hasC c ws)]) [])) allC_nil) (pq_of (d := AV.int IntKind.i64 d) (bs := []) (by kernel_rfl) (by kernel_rfl) allB_nil (by kernel_rfl) H)


end Go.Av
