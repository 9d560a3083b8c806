/- PATHS, written by a program of the prover's. -/
import Derived.Test.YtablgkhmbcegkaaTourD
import Derived.Test.YtablgkhmbcegkaaAw
namespace Go.Av
open Go.Proofs
set_option maxRecDepth 100000
def fi13 : Fi := ⟨20, [.tmp 4, .tmp 5]⟩
def kp13 : List (Nat × List Nat) := [(0, [0, 1]), (1, [0, 1, 6]), (2, [0, 1, 6, 10]), (3, [4, 5]), (4, [0, 1, 16]), (5, [4, 5]), (6, [4, 5])]
def v13_at (fl fm : Bool) (gs : List G2) (o : List Int) (Q : AV → Heap → Prop) : Prop := Wp M1 (.run fi13 (atC (cd Try.f13) []) [(0, .vec fl 2 (gs.map G2.a)), (1, .vec fm 1 (o.map (.int .i64)))] []) Q
theorem call13 {args : List AV} {d : AV} (h : Wp M1 (.run fi13 [.code (cd Try.f13)] (argVars 0 args) []) (PureQ d)) : Ev M1 (.pure 13 args) d [] :=
  pure_pq Try.f13 fi13 (by kernel_rfl) (by kernel_rfl) (by kernel_rfl) (by kernel_rfl) h
theorem owncall13 {args : List AV} {L : Heap} {Q : AV → Heap → Prop} (h : Wp M1 (.run fi13 [.code (cd Try.f13)] (argVars 0 args) L) Q) : Wp M1 (.own 13 args L) Q :=
  own_wp Try.f13 fi13 (by kernel_rfl) (by kernel_rfl) (by kernel_rfl) (by kernel_rfl) h
theorem v13 (fl fm : Bool) (gs : List G2) (o : List Int) (dq : AV) (H :
    (gs.length ≤ 1000000) ∧
    ((¬Sp.checkE gs 200 = 0) → AV.tup [AV.int IntKind.i64 0, AV.int IntKind.i64 (Sp.checkE gs 200)] = dq) ∧
    (¬(¬Sp.checkE gs 200 = 0) → (0 ≤ (↑gs.length : Int) ∧ (↑gs.length : Int) ≤ 1000000) ∧
      ((¬(Sp.isOrd o (↑gs.length : Int) = true)) → AV.tup [AV.int IntKind.i64 0, AV.int IntKind.i64 1] = dq) ∧
      (¬(¬(Sp.isOrd o (↑gs.length : Int) = true)) → (Sp.okG gs) ∧
        (Sp.okO gs o) ∧
        (o.length ≤ 1000) ∧
        AV.tup [AV.int IntKind.i64 (Sp.way gs o), AV.int IntKind.i64 0] = dq))) :
  v13_at fl fm gs o (PureQ dq) := by
  unfold v13_at
  have k1 := H.1; have H := H.2
  have i2 : (Sp.checkE gs 200 != 0) = true ↔ (¬Sp.checkE gs 200 = 0) := i_ne
  rcases Classical.em (¬Sp.checkE gs 200 = 0) with d3 | d3
  · have H := H.1 d3
    exact path_ret (G := given kp13 [(1, 1, .call (AV.int IntKind.i64 (Sp.checkE gs 200)) none)] []) 1000 [true] (k := ((atC (cd Try.f13) [1, 0, 1, 1, 0, 1])).tail) (env' := [(4, AV.int IntKind.i64 0), (5, AV.int IntKind.i64 (Sp.checkE gs 200))]) (L' := []) (asm := [(Sp.checkE gs 200 != 0) == true]) (eqs := []) (calls := [⟨true, false, 31, [AV.vec fl 2 (List.map G2.a gs), AV.int IntKind.i64 200], [], AV.int IntKind.i64 (Sp.checkE gs 200), []⟩]) (AV.tup [AV.int IntKind.i64 0, AV.int IntKind.i64 (Sp.checkE gs 200)]) (by kernel_rfl) (by kernel_rfl) (allB_cons (beq_t (i2.2 d3)) allB_nil) allP_nil (allC_cons (fun _ => ((@ev31 (fl) (gs) (200) k1) : Ev M1 (Conf.pure 31 [AV.vec fl 2 (List.map G2.a gs), AV.int IntKind.i64 200]) (AV.int IntKind.i64 (Sp.checkE gs 200)) [])) allC_nil) (pq_of (d := AV.tup [AV.int IntKind.i64 0, AV.int IntKind.i64 (Sp.checkE gs 200)]) (bs := []) (by kernel_rfl) (by kernel_rfl) allB_nil (by kernel_rfl) H)
  · have H := H.2 d3
    have w4 : (List.map G2.a gs).length = gs.length := List.length_map ..
    have k5 := H.1; have H := H.2
    have i6 : (!Sp.isOrd o (↑gs.length : Int)) = true ↔ (¬(Sp.isOrd o (↑gs.length : Int) = true)) := (i_not (i_var _))
    rcases Classical.em (¬(Sp.isOrd o (↑gs.length : Int) = true)) with d7 | d7
    · have H := H.1 d7
      exact path_ret (G := given kp13 [(1, 1, .call (AV.int IntKind.i64 (Sp.checkE gs 200)) none), (4, 3, .call (AV.bool (Sp.isOrd o (↑gs.length : Int))) none)] []) 1000 [false, true] (k := ((atC (cd Try.f13) [1, 1, 0, 1, 0, 1])).tail) (env' := [(4, AV.int IntKind.i64 0), (5, AV.int IntKind.i64 1)]) (L' := []) (asm := [(Sp.checkE gs 200 != 0) == false, (!Sp.isOrd o (↑gs.length : Int)) == true]) (eqs := []) (calls := [⟨true, false, 31, [AV.vec fl 2 (List.map G2.a gs), AV.int IntKind.i64 200], [], AV.int IntKind.i64 (Sp.checkE gs 200), []⟩, ⟨true, false, 32, [AV.int IntKind.i64 (↑(List.map G2.a gs).length : Int), AV.vec fm 1 (List.map (AV.int IntKind.i64) o)], [], AV.bool (Sp.isOrd o (↑gs.length : Int)), []⟩]) (AV.tup [AV.int IntKind.i64 0, AV.int IntKind.i64 1]) (by kernel_rfl) (by kernel_rfl) (allB_cons (beq_f (fun h => d3 (i2.1 h))) (allB_cons (beq_t (i6.2 d7)) allB_nil)) allP_nil (allC_cons (fun _ => ((@ev31 (fl) (gs) (200) k1) : Ev M1 (Conf.pure 31 [AV.vec fl 2 (List.map G2.a gs), AV.int IntKind.i64 200]) (AV.int IntKind.i64 (Sp.checkE gs 200)) [])) (allC_cons (fun _ => ((by rw [w4] <;> exact (@ev32 (fm) (o) ((↑gs.length : Int)) k5)) : Ev M1 (Conf.pure 32 [AV.int IntKind.i64 (↑(List.map G2.a gs).length : Int), AV.vec fm 1 (List.map (AV.int IntKind.i64) o)]) (AV.bool (Sp.isOrd o (↑gs.length : Int))) [])) allC_nil)) (pq_of (d := AV.tup [AV.int IntKind.i64 0, AV.int IntKind.i64 1]) (bs := []) (by kernel_rfl) (by kernel_rfl) allB_nil (by kernel_rfl) H)
    · have H := H.2 d7
      have k8 := H.1; have H := H.2
      have k9 := H.1; have H := H.2
      have k10 := H.1; have H := H.2
      exact path_ret (G := given kp13 [(1, 1, .call (AV.int IntKind.i64 (Sp.checkE gs 200)) none), (4, 3, .call (AV.bool (Sp.isOrd o (↑gs.length : Int))) none), (6, 2, .call (AV.int IntKind.i64 (Sp.way gs o)) none)] []) 1000 [false, false] (k := ((atC (cd Try.f13) [1, 1, 1, 1])).tail) (env' := [(4, AV.int IntKind.i64 (Sp.way gs o)), (5, AV.int IntKind.i64 0)]) (L' := []) (asm := [(Sp.checkE gs 200 != 0) == false, (!Sp.isOrd o (↑gs.length : Int)) == false]) (eqs := []) (calls := [⟨true, false, 31, [AV.vec fl 2 (List.map G2.a gs), AV.int IntKind.i64 200], [], AV.int IntKind.i64 (Sp.checkE gs 200), []⟩, ⟨true, false, 32, [AV.int IntKind.i64 (↑(List.map G2.a gs).length : Int), AV.vec fm 1 (List.map (AV.int IntKind.i64) o)], [], AV.bool (Sp.isOrd o (↑gs.length : Int)), []⟩, ⟨true, false, 33, [AV.vec fl 2 (List.map G2.a gs), AV.vec fm 1 (List.map (AV.int IntKind.i64) o)], [], AV.int IntKind.i64 (Sp.way gs o), []⟩]) (AV.tup [AV.int IntKind.i64 (Sp.way gs o), AV.int IntKind.i64 0]) (by kernel_rfl) (by kernel_rfl) (allB_cons (beq_f (fun h => d3 (i2.1 h))) (allB_cons (beq_f (fun h => d7 (i6.1 h))) allB_nil)) allP_nil (allC_cons (fun _ => ((@ev31 (fl) (gs) (200) k1) : Ev M1 (Conf.pure 31 [AV.vec fl 2 (List.map G2.a gs), AV.int IntKind.i64 200]) (AV.int IntKind.i64 (Sp.checkE gs 200)) [])) (allC_cons (fun _ => ((by rw [w4] <;> exact (@ev32 (fm) (o) ((↑gs.length : Int)) k5)) : Ev M1 (Conf.pure 32 [AV.int IntKind.i64 (↑(List.map G2.a gs).length : Int), AV.vec fm 1 (List.map (AV.int IntKind.i64) o)]) (AV.bool (Sp.isOrd o (↑gs.length : Int))) [])) (allC_cons (fun _ => ((@ev33 (fl) (fm) (gs) (o) k8 k9 k10) : Ev M1 (Conf.pure 33 [AV.vec fl 2 (List.map G2.a gs), AV.vec fm 1 (List.map (AV.int IntKind.i64) o)]) (AV.int IntKind.i64 (Sp.way gs o)) [])) allC_nil))) (pq_of (d := AV.tup [AV.int IntKind.i64 (Sp.way gs o), AV.int IntKind.i64 0]) (bs := []) (by kernel_rfl) (by kernel_rfl) allB_nil (by kernel_rfl) H)


end Go.Av
