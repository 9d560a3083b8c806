/- PATHS, written by a program of the prover's. -/
import Derived.Test.YtablgkhmbcegkaaTourC
namespace Go.Av
open Go.Proofs
set_option maxRecDepth 100000
def fi12 : Fi := ⟨20, [.tmp 4, .tmp 5]⟩
def kp12 : List (Nat × List Nat) := [(0, [0, 1]), (1, [0, 1, 6]), (2, [0, 1, 6, 10]), (3, [4, 5]), (4, [0, 1, 16]), (5, [4, 5]), (6, [4, 5])]
def fi33 : Fi := ⟨32, [.tmp 4]⟩
def kp33 : List (Nat × List Nat) := [(0, [0, 1]), (1, [0, 1, 5]), (2, [0, 1, 5, 6]), (3, [0, 1, 5, 6, 10]), (4, [0, 1, 5, 6]), (5, [0, 1, 5, 6]), (6, [4])]
def v33_at (fl fm : Bool) (gs : List G2) (o : List Int) (Q : AV → Heap → Prop) : Prop := Wp M1 (.run fi33 (atC (cd Try.f33) []) [(0, .vec fl 2 (gs.map G2.a)), (1, .vec fm 1 (o.map (.int .i64)))] []) Q
def v33a_at (fl fm : Bool) (gs : List G2) (o : List Int) (s i : Int) (Q : AV → Heap → Prop) : Prop := Wp M1 (.run fi33 (atC (cd Try.f33) [1, 1, 0, 1, 0, 0]) [(0, .vec fl 2 (gs.map G2.a)), (1, .vec fm 1 (o.map (.int .i64))), (5, .int .i64 s), (6, .int .i64 i)] []) Q
def v12_at (fl fm : Bool) (gs : List G2) (o : List Int) (Q : AV → Heap → Prop) : Prop := Wp M1 (.run fi12 (atC (cd Try.f12) []) [(0, .vec fl 2 (gs.map G2.a)), (1, .vec fm 1 (o.map (.int .i64)))] []) Q
theorem call12 {args : List AV} {d : AV} (h : Wp M1 (.run fi12 [.code (cd Try.f12)] (argVars 0 args) []) (PureQ d)) : Ev M1 (.pure 12 args) d [] :=
  pure_pq Try.f12 fi12 (by kernel_rfl) (by kernel_rfl) (by kernel_rfl) (by kernel_rfl) h
theorem owncall12 {args : List AV} {L : Heap} {Q : AV → Heap → Prop} (h : Wp M1 (.run fi12 [.code (cd Try.f12)] (argVars 0 args) L) Q) : Wp M1 (.own 12 args L) Q :=
  own_wp Try.f12 fi12 (by kernel_rfl) (by kernel_rfl) (by kernel_rfl) (by kernel_rfl) h
theorem call33 {args : List AV} {d : AV} (h : Wp M1 (.run fi33 [.code (cd Try.f33)] (argVars 0 args) []) (PureQ d)) : Ev M1 (.pure 33 args) d [] :=
  pure_pq Try.f33 fi33 (by kernel_rfl) (by kernel_rfl) (by kernel_rfl) (by kernel_rfl) h
theorem owncall33 {args : List AV} {L : Heap} {Q : AV → Heap → Prop} (h : Wp M1 (.run fi33 [.code (cd Try.f33)] (argVars 0 args) L) Q) : Wp M1 (.own 33 args L) Q :=
  own_wp Try.f33 fi33 (by kernel_rfl) (by kernel_rfl) (by kernel_rfl) (by kernel_rfl) h
theorem v33 (fl fm : Bool) (gs : List G2) (o : List Int) (dq : AV) (H :
    v33a_at (fl) (fm) (gs) (o) (0) (1) (PureQ dq)) :
  v33_at fl fm gs o (PureQ dq) := by
  unfold v33_at
  exact path_wp (G := given kp33 [] []) 1000 [] ⟨(atC (cd Try.f33) [1, 1, 0, 1, 0, 0]), [(0, AV.vec fl 2 (List.map G2.a gs)), (1, AV.vec fm 1 (List.map (AV.int IntKind.i64) o)), (5, AV.int IntKind.i64 0), (6, AV.int IntKind.i64 1)], [], [], [], []⟩ (by kernel_rfl) allB_nil allP_nil allC_nil (H)

theorem v33a (fl fm : Bool) (gs : List G2) (o : List Int) (s i : Int) (dq : AV) (H :
    ((i < (↑o.length : Int)) → (-9223372036854775808 ≤ i - 1 ∧ i - 1 ≤ 9223372036854775807) ∧
      (Sp.inM (gs.getD (o.getD (i - 1).toNat default).toNat default).x ∧ Sp.inM (gs.getD (o.getD (i - 1).toNat default).toNat default).y ∧ Sp.inM (gs.getD (o.getD i.toNat default).toNat default).x ∧ Sp.inM (gs.getD (o.getD i.toNat default).toNat default).y) ∧
      (0 ≤ i - 1) ∧
      ((i - 1).toNat < o.length) ∧
      (0 ≤ o.getD (i - 1).toNat default) ∧
      ((o.getD (i - 1).toNat default).toNat < gs.length) ∧
      (0 ≤ i) ∧
      (i.toNat < o.length) ∧
      (0 ≤ o.getD i.toNat default) ∧
      ((o.getD i.toNat default).toNat < gs.length) ∧
      (-9223372036854775808 ≤ s + Sp.dist (gs.getD (o.getD (i - 1).toNat default).toNat default).x (gs.getD (o.getD (i - 1).toNat default).toNat default).y (gs.getD (o.getD i.toNat default).toNat default).x (gs.getD (o.getD i.toNat default).toNat default).y ∧ s + Sp.dist (gs.getD (o.getD (i - 1).toNat default).toNat default).x (gs.getD (o.getD (i - 1).toNat default).toNat default).y (gs.getD (o.getD i.toNat default).toNat default).x (gs.getD (o.getD i.toNat default).toNat default).y ≤ 9223372036854775807) ∧
      (-9223372036854775808 ≤ i + 1 ∧ i + 1 ≤ 9223372036854775807) ∧
      v33a_at (fl) (fm) (gs) (o) (s + Sp.dist (gs.getD (o.getD (i - 1).toNat default).toNat default).x (gs.getD (o.getD (i - 1).toNat default).toNat default).y (gs.getD (o.getD i.toNat default).toNat default).x (gs.getD (o.getD i.toNat default).toNat default).y) (i + 1) (PureQ dq)) ∧
    (¬(i < (↑o.length : Int)) → AV.int IntKind.i64 s = dq)) :
  v33a_at fl fm gs o s i (PureQ dq) := by
  unfold v33a_at
  have w1 : (List.map (AV.int IntKind.i64) o).length = o.length := List.length_map ..
  have i2 : (decide (i < (↑(List.map (AV.int IntKind.i64) o).length : Int))) = true ↔ (i < (↑o.length : Int)) := (by rw [w1] <;> exact i_dec)
  rcases Classical.em (i < (↑o.length : Int)) with d3 | d3
  · have H := H.1 d3
    have k4 := H.1; have H := H.2
    have w5 : IntKind.i64.wrap (i - 1) = i - 1 := wI64 k4
    have k6 := H.1; have H := H.2
    have i7 : (decide (0 ≤ IntKind.i64.wrap (i - 1))) = true ↔ (0 ≤ i - 1) := (by rw [w5] <;> exact i_dec)
    have k8 := H.1; have H := H.2
    have i9 : (decide ((IntKind.i64.wrap (i - 1)).toNat < (List.map (AV.int IntKind.i64) o).length)) = true ↔ ((i - 1).toNat < o.length) := (by rw [w1, w5] <;> exact i_dec)
    have k10 := H.1; have H := H.2
    have i11 : (decide (0 ≤ o.getD (i - 1).toNat default)) = true ↔ (0 ≤ o.getD (i - 1).toNat default) := i_dec
    have k12 := H.1; have H := H.2
    have w13 : (List.map G2.a gs).length = gs.length := List.length_map ..
    have i14 : (decide ((o.getD (i - 1).toNat default).toNat < (List.map G2.a gs).length)) = true ↔ ((o.getD (i - 1).toNat default).toNat < gs.length) := (by rw [w13] <;> exact i_dec)
    have k15 := H.1; have H := H.2
    have i16 : (decide (0 ≤ i)) = true ↔ (0 ≤ i) := i_dec
    have k17 := H.1; have H := H.2
    have i18 : (decide (i.toNat < (List.map (AV.int IntKind.i64) o).length)) = true ↔ (i.toNat < o.length) := (by rw [w1] <;> exact i_dec)
    have k19 := H.1; have H := H.2
    have i20 : (decide (0 ≤ o.getD i.toNat default)) = true ↔ (0 ≤ o.getD i.toNat default) := i_dec
    have k21 := H.1; have H := H.2
    have i22 : (decide ((o.getD i.toNat default).toNat < (List.map G2.a gs).length)) = true ↔ ((o.getD i.toNat default).toNat < gs.length) := (by rw [w13] <;> exact i_dec)
    have k23 := H.1; have H := H.2
    have k24 := H.1; have H := H.2
    have w25 : IntKind.i64.wrap (s + Sp.dist (gs.getD (o.getD (i - 1).toNat default).toNat default).x (gs.getD (o.getD (i - 1).toNat default).toNat default).y (gs.getD (o.getD i.toNat default).toNat default).x (gs.getD (o.getD i.toNat default).toNat default).y) = s + Sp.dist (gs.getD (o.getD (i - 1).toNat default).toNat default).x (gs.getD (o.getD (i - 1).toNat default).toNat default).y (gs.getD (o.getD i.toNat default).toNat default).x (gs.getD (o.getD i.toNat default).toNat default).y := wI64 k24
    have k26 := H.1; have H := H.2
    have w27 : IntKind.i64.wrap (i + 1) = i + 1 := wI64 k26
    exact path_wp (G := given kp33 [(5, 6, .elem (AV.int IntKind.i64 (o.getD (i - 1).toNat default))), (5, 8, .elem (AV.agg [AV.int IntKind.i64 (gs.getD (o.getD (i - 1).toNat default).toNat default).x, AV.int IntKind.i64 (gs.getD (o.getD (i - 1).toNat default).toNat default).y])), (5, 13, .elem (AV.int IntKind.i64 (o.getD i.toNat default))), (5, 15, .elem (AV.agg [AV.int IntKind.i64 (gs.getD (o.getD i.toNat default).toNat default).x, AV.int IntKind.i64 (gs.getD (o.getD i.toNat default).toNat default).y])), (5, 16, .call (AV.int IntKind.i64 (Sp.dist (gs.getD (o.getD (i - 1).toNat default).toNat default).x (gs.getD (o.getD (i - 1).toNat default).toNat default).y (gs.getD (o.getD i.toNat default).toNat default).x (gs.getD (o.getD i.toNat default).toNat default).y)) none)] []) 1000 [true] ⟨(atC (cd Try.f33) [1, 1, 0, 1, 0, 0]), [(0, AV.vec fl 2 (List.map G2.a gs)), (1, AV.vec fm 1 (List.map (AV.int IntKind.i64) o)), (5, AV.int IntKind.i64 (IntKind.i64.wrap (s + Sp.dist (gs.getD (o.getD (i - 1).toNat default).toNat default).x (gs.getD (o.getD (i - 1).toNat default).toNat default).y (gs.getD (o.getD i.toNat default).toNat default).x (gs.getD (o.getD i.toNat default).toNat default).y))), (6, AV.int IntKind.i64 (IntKind.i64.wrap (i + 1)))], [], [(decide (i < (↑(List.map (AV.int IntKind.i64) o).length : Int))) == true, decide (0 ≤ IntKind.i64.wrap (i - 1)), decide ((IntKind.i64.wrap (i - 1)).toNat < (List.map (AV.int IntKind.i64) o).length), decide (0 ≤ o.getD (i - 1).toNat default), decide ((o.getD (i - 1).toNat default).toNat < (List.map G2.a gs).length), decide (0 ≤ i), decide (i.toNat < (List.map (AV.int IntKind.i64) o).length), decide (0 ≤ o.getD i.toNat default), decide ((o.getD i.toNat default).toNat < (List.map G2.a gs).length)], [((List.map (AV.int IntKind.i64) o).get?Internal (IntKind.i64.wrap (i - 1)).toNat = some (AV.int IntKind.i64 (o.getD (i - 1).toNat default))), ((List.map G2.a gs).get?Internal (o.getD (i - 1).toNat default).toNat = some (AV.agg [AV.int IntKind.i64 (gs.getD (o.getD (i - 1).toNat default).toNat default).x, AV.int IntKind.i64 (gs.getD (o.getD (i - 1).toNat default).toNat default).y])), ((List.map (AV.int IntKind.i64) o).get?Internal i.toNat = some (AV.int IntKind.i64 (o.getD i.toNat default))), ((List.map G2.a gs).get?Internal (o.getD i.toNat default).toNat = some (AV.agg [AV.int IntKind.i64 (gs.getD (o.getD i.toNat default).toNat default).x, AV.int IntKind.i64 (gs.getD (o.getD i.toNat default).toNat default).y]))], [⟨true, false, 16, [AV.agg [AV.int IntKind.i64 (gs.getD (o.getD (i - 1).toNat default).toNat default).x, AV.int IntKind.i64 (gs.getD (o.getD (i - 1).toNat default).toNat default).y], AV.agg [AV.int IntKind.i64 (gs.getD (o.getD i.toNat default).toNat default).x, AV.int IntKind.i64 (gs.getD (o.getD i.toNat default).toNat default).y]], [], AV.int IntKind.i64 (Sp.dist (gs.getD (o.getD (i - 1).toNat default).toNat default).x (gs.getD (o.getD (i - 1).toNat default).toNat default).y (gs.getD (o.getD i.toNat default).toNat default).x (gs.getD (o.getD i.toNat default).toNat default).y), []⟩]⟩ (by kernel_rfl) (allB_cons (beq_t (i2.2 d3)) (allB_cons (i7.2 k8) (allB_cons (i9.2 k10) (allB_cons (i11.2 k12) (allB_cons (i14.2 k15) (allB_cons (i16.2 k17) (allB_cons (i18.2 k19) (allB_cons (i20.2 k21) (allB_cons (i22.2 k23) allB_nil))))))))) (allP_cons (by rw [w5] <;> exact (el_map k10)) (allP_cons (el_map k15) (allP_cons (el_map k19) (allP_cons (el_map k23) allP_nil)))) (allC_cons (fun _ => ((@ev16 ((gs.getD (o.getD (i - 1).toNat default).toNat default).x) ((gs.getD (o.getD (i - 1).toNat default).toNat default).y) ((gs.getD (o.getD i.toNat default).toNat default).x) ((gs.getD (o.getD i.toNat default).toNat default).y) k6) : Ev M1 (Conf.pure 16 [AV.agg [AV.int IntKind.i64 (gs.getD (o.getD (i - 1).toNat default).toNat default).x, AV.int IntKind.i64 (gs.getD (o.getD (i - 1).toNat default).toNat default).y], AV.agg [AV.int IntKind.i64 (gs.getD (o.getD i.toNat default).toNat default).x, AV.int IntKind.i64 (gs.getD (o.getD i.toNat default).toNat default).y]]) (AV.int IntKind.i64 (Sp.dist (gs.getD (o.getD (i - 1).toNat default).toNat default).x (gs.getD (o.getD (i - 1).toNat default).toNat default).y (gs.getD (o.getD i.toNat default).toNat default).x (gs.getD (o.getD i.toNat default).toNat default).y)) [])) allC_nil) (by rw [w25, w27] <;> exact H)
  · have H := H.2 d3
    exact path_ret (G := given kp33 [] []) 1000 [false] (k := ((atC (cd Try.f33) [1, 1, 1, 1])).tail) (env' := [(4, AV.int IntKind.i64 s)]) (L' := []) (asm := [(decide (i < (↑(List.map (AV.int IntKind.i64) o).length : Int))) == false]) (eqs := []) (calls := []) (AV.int IntKind.i64 s) (by kernel_rfl) (by kernel_rfl) (allB_cons (beq_f (fun h => d3 (i2.1 h))) allB_nil) allP_nil allC_nil (pq_of (d := AV.int IntKind.i64 s) (bs := []) (by kernel_rfl) (by kernel_rfl) allB_nil (by kernel_rfl) H)

theorem v12 (fl fm : Bool) (gs : List G2) (o : List Int) (dq : AV) (H :
    (gs.length ≤ 1000000) ∧
    ((¬Sp.checkE gs 200 = 0) → AV.tup [AV.int IntKind.i64 0, AV.int IntKind.i64 (Sp.checkE gs 200)] = dq) ∧
    (¬(¬Sp.checkE gs 200 = 0) → (0 ≤ (↑gs.length : Int) ∧ (↑gs.length : Int) ≤ 1000000) ∧
      ((¬(Sp.isOrd o (↑gs.length : Int) = true)) → AV.tup [AV.int IntKind.i64 0, AV.int IntKind.i64 1] = dq) ∧
      (¬(¬(Sp.isOrd o (↑gs.length : Int) = true)) → (Sp.okG gs) ∧
        (Sp.okO gs o) ∧
        (o.length ≤ 1000) ∧
        AV.tup [AV.int IntKind.i64 (Sp.way gs o), AV.int IntKind.i64 0] = dq))) :
  v12_at fl fm gs o (PureQ dq) := by
  unfold v12_at
  have k1 := H.1; have H := H.2
  have i2 : (Sp.checkE gs 200 != 0) = true ↔ (¬Sp.checkE gs 200 = 0) := i_ne
  rcases Classical.em (¬Sp.checkE gs 200 = 0) with d3 | d3
  · have H := H.1 d3
    exact path_ret (G := given kp12 [(1, 1, .call (AV.int IntKind.i64 (Sp.checkE gs 200)) none)] []) 1000 [true] (k := ((atC (cd Try.f12) [1, 0, 1, 1, 0, 1])).tail) (env' := [(4, AV.int IntKind.i64 0), (5, AV.int IntKind.i64 (Sp.checkE gs 200))]) (L' := []) (asm := [(Sp.checkE gs 200 != 0) == true]) (eqs := []) (calls := [⟨true, false, 28, [AV.vec fl 2 (List.map G2.a gs), AV.int IntKind.i64 200], [], AV.int IntKind.i64 (Sp.checkE gs 200), []⟩]) (AV.tup [AV.int IntKind.i64 0, AV.int IntKind.i64 (Sp.checkE gs 200)]) (by kernel_rfl) (by kernel_rfl) (allB_cons (beq_t (i2.2 d3)) allB_nil) allP_nil (allC_cons (fun _ => ((@ev28 (fl) (gs) (200) k1) : Ev M1 (Conf.pure 28 [AV.vec fl 2 (List.map G2.a gs), AV.int IntKind.i64 200]) (AV.int IntKind.i64 (Sp.checkE gs 200)) [])) allC_nil) (pq_of (d := AV.tup [AV.int IntKind.i64 0, AV.int IntKind.i64 (Sp.checkE gs 200)]) (bs := []) (by kernel_rfl) (by kernel_rfl) allB_nil (by kernel_rfl) H)
  · have H := H.2 d3
    have w4 : (List.map G2.a gs).length = gs.length := List.length_map ..
    have k5 := H.1; have H := H.2
    have i6 : (!Sp.isOrd o (↑gs.length : Int)) = true ↔ (¬(Sp.isOrd o (↑gs.length : Int) = true)) := (i_not (i_var _))
    rcases Classical.em (¬(Sp.isOrd o (↑gs.length : Int) = true)) with d7 | d7
    · have H := H.1 d7
      exact path_ret (G := given kp12 [(1, 1, .call (AV.int IntKind.i64 (Sp.checkE gs 200)) none), (4, 3, .call (AV.bool (Sp.isOrd o (↑gs.length : Int))) none)] []) 1000 [false, true] (k := ((atC (cd Try.f12) [1, 1, 0, 1, 0, 1])).tail) (env' := [(4, AV.int IntKind.i64 0), (5, AV.int IntKind.i64 1)]) (L' := []) (asm := [(Sp.checkE gs 200 != 0) == false, (!Sp.isOrd o (↑gs.length : Int)) == true]) (eqs := []) (calls := [⟨true, false, 28, [AV.vec fl 2 (List.map G2.a gs), AV.int IntKind.i64 200], [], AV.int IntKind.i64 (Sp.checkE gs 200), []⟩, ⟨true, false, 29, [AV.vec fm 1 (List.map (AV.int IntKind.i64) o), AV.int IntKind.i64 (↑(List.map G2.a gs).length : Int)], [], AV.bool (Sp.isOrd o (↑gs.length : Int)), []⟩]) (AV.tup [AV.int IntKind.i64 0, AV.int IntKind.i64 1]) (by kernel_rfl) (by kernel_rfl) (allB_cons (beq_f (fun h => d3 (i2.1 h))) (allB_cons (beq_t (i6.2 d7)) allB_nil)) allP_nil (allC_cons (fun _ => ((@ev28 (fl) (gs) (200) k1) : Ev M1 (Conf.pure 28 [AV.vec fl 2 (List.map G2.a gs), AV.int IntKind.i64 200]) (AV.int IntKind.i64 (Sp.checkE gs 200)) [])) (allC_cons (fun _ => ((by rw [w4] <;> exact (@ev29 (fm) (o) ((↑gs.length : Int)) k5)) : Ev M1 (Conf.pure 29 [AV.vec fm 1 (List.map (AV.int IntKind.i64) o), AV.int IntKind.i64 (↑(List.map G2.a gs).length : Int)]) (AV.bool (Sp.isOrd o (↑gs.length : Int))) [])) allC_nil)) (pq_of (d := AV.tup [AV.int IntKind.i64 0, AV.int IntKind.i64 1]) (bs := []) (by kernel_rfl) (by kernel_rfl) allB_nil (by kernel_rfl) H)
    · have H := H.2 d7
      have k8 := H.1; have H := H.2
      have k9 := H.1; have H := H.2
      have k10 := H.1; have H := H.2
      exact path_ret (G := given kp12 [(1, 1, .call (AV.int IntKind.i64 (Sp.checkE gs 200)) none), (4, 3, .call (AV.bool (Sp.isOrd o (↑gs.length : Int))) none), (6, 2, .call (AV.int IntKind.i64 (Sp.way gs o)) none)] []) 1000 [false, false] (k := ((atC (cd Try.f12) [1, 1, 1, 1])).tail) (env' := [(4, AV.int IntKind.i64 (Sp.way gs o)), (5, AV.int IntKind.i64 0)]) (L' := []) (asm := [(Sp.checkE gs 200 != 0) == false, (!Sp.isOrd o (↑gs.length : Int)) == false]) (eqs := []) (calls := [⟨true, false, 28, [AV.vec fl 2 (List.map G2.a gs), AV.int IntKind.i64 200], [], AV.int IntKind.i64 (Sp.checkE gs 200), []⟩, ⟨true, false, 29, [AV.vec fm 1 (List.map (AV.int IntKind.i64) o), AV.int IntKind.i64 (↑(List.map G2.a gs).length : Int)], [], AV.bool (Sp.isOrd o (↑gs.length : Int)), []⟩, ⟨true, false, 30, [AV.vec fl 2 (List.map G2.a gs), AV.vec fm 1 (List.map (AV.int IntKind.i64) o)], [], AV.int IntKind.i64 (Sp.way gs o), []⟩]) (AV.tup [AV.int IntKind.i64 (Sp.way gs o), AV.int IntKind.i64 0]) (by kernel_rfl) (by kernel_rfl) (allB_cons (beq_f (fun h => d3 (i2.1 h))) (allB_cons (beq_f (fun h => d7 (i6.1 h))) allB_nil)) allP_nil (allC_cons (fun _ => ((@ev28 (fl) (gs) (200) k1) : Ev M1 (Conf.pure 28 [AV.vec fl 2 (List.map G2.a gs), AV.int IntKind.i64 200]) (AV.int IntKind.i64 (Sp.checkE gs 200)) [])) (allC_cons (fun _ => ((by rw [w4] <;> exact (@ev29 (fm) (o) ((↑gs.length : Int)) k5)) : Ev M1 (Conf.pure 29 [AV.vec fm 1 (List.map (AV.int IntKind.i64) o), AV.int IntKind.i64 (↑(List.map G2.a gs).length : Int)]) (AV.bool (Sp.isOrd o (↑gs.length : Int))) [])) (allC_cons (fun _ => ((@ev30 (fl) (fm) (gs) (o) k8 k9 k10) : Ev M1 (Conf.pure 30 [AV.vec fl 2 (List.map G2.a gs), AV.vec fm 1 (List.map (AV.int IntKind.i64) o)]) (AV.int IntKind.i64 (Sp.way gs o)) [])) allC_nil))) (pq_of (d := AV.tup [AV.int IntKind.i64 (Sp.way gs o), AV.int IntKind.i64 0]) (bs := []) (by kernel_rfl) (by kernel_rfl) allB_nil (by kernel_rfl) H)


end Go.Av
