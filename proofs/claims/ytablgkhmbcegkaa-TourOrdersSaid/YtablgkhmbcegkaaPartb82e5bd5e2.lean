/- PART 4 of the texts of a claim, joined by a program: what each part shows stands at its head. -/
import Derived.Test.YtablgkhmbcegkaaPart25011fdff2

/- PATHS, written by a program of the prover's. -/
namespace Go.Av
open Go.Proofs
set_option maxRecDepth 100000
def fi12 : Fi := ⟨20, [.tmp 4, .tmp 5]⟩
def kp12 : List (Nat × List Nat) := [(0, [0, 1]), (1, [0, 1, 6]), (2, [0, 1, 6, 10]), (3, [4, 5]), (4, [0, 1, 16]), (5, [4, 5]), (6, [4, 5])]
def fi33 : Fi := ⟨32, [.tmp 4]⟩
def kp33 : List (Nat × List Nat) := [(0, [0, 1]), (1, [0, 1, 5]), (2, [0, 1, 5, 6]), (3, [0, 1, 5, 6, 10]), (4, [0, 1, 5, 6]), (5, [0, 1, 5, 6]), (6, [4])]
def v33_at (fl fm : Bool) (gs : List G2) (o : List Int) (Q : AV → Heap → Prop) : Prop := Wp M1 (.run fi33 (atC (cd Try.f33) []) [(0, .vec fl 2 (gs.map G2.a)), (1, .vec fm 1 (o.map (.int .i64)))] []) Q
def v33a_at (fl fm : Bool) (gs : List G2) (o : List Int) (s i : Int) (Q : AV → Heap → Prop) : Prop := Wp M1 (.run fi33 (atC (cd Try.f33) [1, 1, 0, 1, 0, 0]) [(0, .vec fl 2 (gs.map G2.a)), (1, .vec fm 1 (o.map (.int .i64))), (5, .int .i64 s), (6, .int .i64 i)] []) Q
def v12_at (fl fm : Bool) (gs : List G2) (o : List Int) (Q : AV → Heap → Prop) : Prop := Wp M1 (.run fi12 (atC (cd Try.f12) []) [(0, .vec fl 2 (gs.map G2.a)), (1, .vec fm 1 (o.map (.int .i64)))] []) Q
theorem call12 {args : List AV} {d : AV} (h : Wp M1 (.run fi12 [.code (cd Try.f12)] (argVars 0 args) []) (PureQ d)) : Ev M1 (.pure 12 args) d [] :=
  pure_pq Try.f12 fi12 (by kernel_rfl) (by kernel_rfl) (by kernel_rfl) (by kernel_rfl) h
theorem owncall12 {args : List AV} {L : Heap} {Q : AV → Heap → Prop} (h : Wp M1 (.run fi12 [.code (cd Try.f12)] (argVars 0 args) L) Q) : Wp M1 (.own 12 args L) Q :=
  own_wp Try.f12 fi12 (by kernel_rfl) (by kernel_rfl) (by kernel_rfl) (by kernel_rfl) h
theorem keepcall12 {args : List AV} {L : Heap} {v : AV} {K : Heap} (hk : keepOk L.length v K = true) (h : Wp M1 (.run fi12 [.code (cd Try.f12)] (argVars 0 args) L) (KeepQ v K)) : Ev M1 (.own 12 args L) v K :=
  own_keep Try.f12 fi12 (by kernel_rfl) (by kernel_rfl) (by kernel_rfl) (by kernel_rfl) hk h
theorem call33 {args : List AV} {d : AV} (h : Wp M1 (.run fi33 [.code (cd Try.f33)] (argVars 0 args) []) (PureQ d)) : Ev M1 (.pure 33 args) d [] :=
  pure_pq Try.f33 fi33 (by kernel_rfl) (by kernel_rfl) (by kernel_rfl) (by kernel_rfl) h
theorem owncall33 {args : List AV} {L : Heap} {Q : AV → Heap → Prop} (h : Wp M1 (.run fi33 [.code (cd Try.f33)] (argVars 0 args) L) Q) : Wp M1 (.own 33 args L) Q :=
  own_wp Try.f33 fi33 (by kernel_rfl) (by kernel_rfl) (by kernel_rfl) (by kernel_rfl) h
theorem keepcall33 {args : List AV} {L : Heap} {v : AV} {K : Heap} (hk : keepOk L.length v K = true) (h : Wp M1 (.run fi33 [.code (cd Try.f33)] (argVars 0 args) L) (KeepQ v K)) : Ev M1 (.own 33 args L) v K :=
  own_keep Try.f33 fi33 (by kernel_rfl) (by kernel_rfl) (by kernel_rfl) (by kernel_rfl) hk h
theorem v33 (fl fm : Bool) (gs : List G2) (o : List Int) (dq : AV) (H :
    v33a_at (fl) (fm) (gs) (o) (0) (1) (PureQ dq)) :
  v33_at fl fm gs o (PureQ dq) := by
  unfold v33_at
  exact path_wp (G := given kp33 [] []) 1000 [] ⟨(atC (cd Try.f33) [1, 1, 0, 1, 0, 0]), [(0, AV.vec fl 2 (List.map G2.a gs)), (1, AV.vec fm 1 (List.map (AV.int IntKind.i64) o)), (5, AV.int IntKind.i64 0), (6, AV.int IntKind.i64 1)], [], [], [], []⟩ (by kernel_rfl) allB_nil allP_nil allC_nil (H)

theorem v33a (fl fm : Bool) (gs : List G2) (o : List Int) (s i : Int) (dq : AV) (H :
    ((i < (↑o.length : Int)) → (-9223372036854775808 ≤ i - 1 ∧ i - 1 ≤ 9223372036854775807) ∧
      (Sp.inM (gs.getD (o.getD (i - 1).toNat default).toNat default).x ∧ Sp.inM (gs.getD (o.getD (i - 1).toNat default).toNat default).y ∧ Sp.inM (gs.getD (o.getD i.toNat default).toNat default).x ∧ Sp.inM (gs.getD (o.getD i.toNat default).toNat default).y) ∧
      (0 ≤ i - 1) ∧
      ((i - 1).toNat < o.length) ∧
      (0 ≤ o.getD (i - 1).toNat default) ∧
      ((o.getD (i - 1).toNat default).toNat < gs.length) ∧
      (0 ≤ i) ∧
      (i.toNat < o.length) ∧
      (0 ≤ o.getD i.toNat default) ∧
      ((o.getD i.toNat default).toNat < gs.length) ∧
      (-9223372036854775808 ≤ s + Sp.dist (gs.getD (o.getD (i - 1).toNat default).toNat default).x (gs.getD (o.getD (i - 1).toNat default).toNat default).y (gs.getD (o.getD i.toNat default).toNat default).x (gs.getD (o.getD i.toNat default).toNat default).y ∧ s + Sp.dist (gs.getD (o.getD (i - 1).toNat default).toNat default).x (gs.getD (o.getD (i - 1).toNat default).toNat default).y (gs.getD (o.getD i.toNat default).toNat default).x (gs.getD (o.getD i.toNat default).toNat default).y ≤ 9223372036854775807) ∧
      (-9223372036854775808 ≤ i + 1 ∧ i + 1 ≤ 9223372036854775807) ∧
      v33a_at (fl) (fm) (gs) (o) (s + Sp.dist (gs.getD (o.getD (i - 1).toNat default).toNat default).x (gs.getD (o.getD (i - 1).toNat default).toNat default).y (gs.getD (o.getD i.toNat default).toNat default).x (gs.getD (o.getD i.toNat default).toNat default).y) (i + 1) (PureQ dq)) ∧
    (¬(i < (↑o.length : Int)) → AV.int IntKind.i64 s = dq)) :
  v33a_at fl fm gs o s i (PureQ dq) := by
  unfold v33a_at
  have w1 : (List.map (AV.int IntKind.i64) o).length = o.length := List.length_map ..
  have i2 : (decide (i < (↑(List.map (AV.int IntKind.i64) o).length : Int))) = true ↔ (i < (↑o.length : Int)) := (by rw [w1] <;> exact i_dec)
  rcases Classical.em (i < (↑o.length : Int)) with d3 | d3
  · have H := H.1 d3
    have k4 := H.1; have H := H.2
    have w5 : IntKind.i64.wrap (i - 1) = i - 1 := wI64 k4
    have k6 := H.1; have H := H.2
    have i7 : (decide (0 ≤ IntKind.i64.wrap (i - 1))) = true ↔ (0 ≤ i - 1) := (by rw [w5] <;> exact i_dec)
    have k8 := H.1; have H := H.2
    have i9 : (decide ((IntKind.i64.wrap (i - 1)).toNat < (List.map (AV.int IntKind.i64) o).length)) = true ↔ ((i - 1).toNat < o.length) := (by rw [w1, w5] <;> exact i_dec)
    have k10 := H.1; have H := H.2
    have i11 : (decide (0 ≤ o.getD (i - 1).toNat default)) = true ↔ (0 ≤ o.getD (i - 1).toNat default) := i_dec
    have k12 := H.1; have H := H.2
    have w13 : (List.map G2.a gs).length = gs.length := List.length_map ..
    have i14 : (decide ((o.getD (i - 1).toNat default).toNat < (List.map G2.a gs).length)) = true ↔ ((o.getD (i - 1).toNat default).toNat < gs.length) := (by rw [w13] <;> exact i_dec)
    have k15 := H.1; have H := H.2
    have i16 : (decide (0 ≤ i)) = true ↔ (0 ≤ i) := i_dec
    have k17 := H.1; have H := H.2
    have i18 : (decide (i.toNat < (List.map (AV.int IntKind.i64) o).length)) = true ↔ (i.toNat < o.length) := (by rw [w1] <;> exact i_dec)
    have k19 := H.1; have H := H.2
    have i20 : (decide (0 ≤ o.getD i.toNat default)) = true ↔ (0 ≤ o.getD i.toNat default) := i_dec
    have k21 := H.1; have H := H.2
    have i22 : (decide ((o.getD i.toNat default).toNat < (List.map G2.a gs).length)) = true ↔ ((o.getD i.toNat default).toNat < gs.length) := (by rw [w13] <;> exact i_dec)
    have k23 := H.1; have H := H.2
    have k24 := H.1; have H := H.2
    have w25 : IntKind.i64.wrap (s + Sp.dist (gs.getD (o.getD (i - 1).toNat default).toNat default).x (gs.getD (o.getD (i - 1).toNat default).toNat default).y (gs.getD (o.getD i.toNat default).toNat default).x (gs.getD (o.getD i.toNat default).toNat default).y) = s + Sp.dist (gs.getD (o.getD (i - 1).toNat default).toNat default).x (gs.getD (o.getD (i - 1).toNat default).toNat default).y (gs.getD (o.getD i.toNat default).toNat default).x (gs.getD (o.getD i.toNat default).toNat default).y := wI64 k24
    have k26 := H.1; have H := H.2
    have w27 : IntKind.i64.wrap (i + 1) = i + 1 := wI64 k26
    exact path_wp (G := given kp33 [(5, 6, .elem (AV.int IntKind.i64 (o.getD (i - 1).toNat default))), (5, 8, .elem (AV.agg [AV.int IntKind.i64 (gs.getD (o.getD (i - 1).toNat default).toNat default).x, AV.int IntKind.i64 (gs.getD (o.getD (i - 1).toNat default).toNat default).y])), (5, 13, .elem (AV.int IntKind.i64 (o.getD i.toNat default))), (5, 15, .elem (AV.agg [AV.int IntKind.i64 (gs.getD (o.getD i.toNat default).toNat default).x, AV.int IntKind.i64 (gs.getD (o.getD i.toNat default).toNat default).y])), (5, 16, .call (AV.int IntKind.i64 (Sp.dist (gs.getD (o.getD (i - 1).toNat default).toNat default).x (gs.getD (o.getD (i - 1).toNat default).toNat default).y (gs.getD (o.getD i.toNat default).toNat default).x (gs.getD (o.getD i.toNat default).toNat default).y)) none)] []) 1000 [true] ⟨(atC (cd Try.f33) [1, 1, 0, 1, 0, 0]), [(0, AV.vec fl 2 (List.map G2.a gs)), (1, AV.vec fm 1 (List.map (AV.int IntKind.i64) o)), (5, AV.int IntKind.i64 (IntKind.i64.wrap (s + Sp.dist (gs.getD (o.getD (i - 1).toNat default).toNat default).x (gs.getD (o.getD (i - 1).toNat default).toNat default).y (gs.getD (o.getD i.toNat default).toNat default).x (gs.getD (o.getD i.toNat default).toNat default).y))), (6, AV.int IntKind.i64 (IntKind.i64.wrap (i + 1)))], [], [(decide (i < (↑(List.map (AV.int IntKind.i64) o).length : Int))) == true, decide (0 ≤ IntKind.i64.wrap (i - 1)), decide ((IntKind.i64.wrap (i - 1)).toNat < (List.map (AV.int IntKind.i64) o).length), decide (0 ≤ o.getD (i - 1).toNat default), decide ((o.getD (i - 1).toNat default).toNat < (List.map G2.a gs).length), decide (0 ≤ i), decide (i.toNat < (List.map (AV.int IntKind.i64) o).length), decide (0 ≤ o.getD i.toNat default), decide ((o.getD i.toNat default).toNat < (List.map G2.a gs).length)], [((List.map (AV.int IntKind.i64) o).get?Internal (IntKind.i64.wrap (i - 1)).toNat = some (AV.int IntKind.i64 (o.getD (i - 1).toNat default))), ((List.map G2.a gs).get?Internal (o.getD (i - 1).toNat default).toNat = some (AV.agg [AV.int IntKind.i64 (gs.getD (o.getD (i - 1).toNat default).toNat default).x, AV.int IntKind.i64 (gs.getD (o.getD (i - 1).toNat default).toNat default).y])), ((List.map (AV.int IntKind.i64) o).get?Internal i.toNat = some (AV.int IntKind.i64 (o.getD i.toNat default))), ((List.map G2.a gs).get?Internal (o.getD i.toNat default).toNat = some (AV.agg [AV.int IntKind.i64 (gs.getD (o.getD i.toNat default).toNat default).x, AV.int IntKind.i64 (gs.getD (o.getD i.toNat default).toNat default).y]))], [⟨true, false, 16, [AV.agg [AV.int IntKind.i64 (gs.getD (o.getD (i - 1).toNat default).toNat default).x, AV.int IntKind.i64 (gs.getD (o.getD (i - 1).toNat default).toNat default).y], AV.agg [AV.int IntKind.i64 (gs.getD (o.getD i.toNat default).toNat default).x, AV.int IntKind.i64 (gs.getD (o.getD i.toNat default).toNat default).y]], [], AV.int IntKind.i64 (Sp.dist (gs.getD (o.getD (i - 1).toNat default).toNat default).x (gs.getD (o.getD (i - 1).toNat default).toNat default).y (gs.getD (o.getD i.toNat default).toNat default).x (gs.getD (o.getD i.toNat default).toNat default).y), []⟩]⟩ (by kernel_rfl) (allB_cons (beq_t (i2.2 d3)) (allB_cons (i7.2 k8) (allB_cons (i9.2 k10) (allB_cons (i11.2 k12) (allB_cons (i14.2 k15) (allB_cons (i16.2 k17) (allB_cons (i18.2 k19) (allB_cons (i20.2 k21) (allB_cons (i22.2 k23) allB_nil))))))))) (allP_cons (by rw [w5] <;> exact (el_map k10)) (allP_cons (el_map k15) (allP_cons (el_map k19) (allP_cons (el_map k23) allP_nil)))) (allC_cons (fun _ => ((@ev16 ((gs.getD (o.getD (i - 1).toNat default).toNat default).x) ((gs.getD (o.getD (i - 1).toNat default).toNat default).y) ((gs.getD (o.getD i.toNat default).toNat default).x) ((gs.getD (o.getD i.toNat default).toNat default).y) k6) : Ev M1 (Conf.pure 16 [AV.agg [AV.int IntKind.i64 (gs.getD (o.getD (i - 1).toNat default).toNat default).x, AV.int IntKind.i64 (gs.getD (o.getD (i - 1).toNat default).toNat default).y], AV.agg [AV.int IntKind.i64 (gs.getD (o.getD i.toNat default).toNat default).x, AV.int IntKind.i64 (gs.getD (o.getD i.toNat default).toNat default).y]]) (AV.int IntKind.i64 (Sp.dist (gs.getD (o.getD (i - 1).toNat default).toNat default).x (gs.getD (o.getD (i - 1).toNat default).toNat default).y (gs.getD (o.getD i.toNat default).toNat default).x (gs.getD (o.getD i.toNat default).toNat default).y)) [])) allC_nil) (by rw [w25, w27] <;> exact H)
  · have H := H.2 d3
    exact path_ret (G := given kp33 [] []) 1000 [false] (k := ((atC (cd Try.f33) [1, 1, 1, 1])).tail) (env' := [(4, AV.int IntKind.i64 s)]) (L' := []) (asm := [(decide (i < (↑(List.map (AV.int IntKind.i64) o).length : Int))) == false]) (eqs := []) (calls := []) (AV.int IntKind.i64 s) (by kernel_rfl) (by kernel_rfl) (allB_cons (beq_f (fun h => d3 (i2.1 h))) allB_nil) allP_nil allC_nil (pq_of (d := AV.int IntKind.i64 s) (bs := []) (by kernel_rfl) (by kernel_rfl) allB_nil (by kernel_rfl) H)

theorem v12 (fl fm : Bool) (gs : List G2) (o : List Int) (dq : AV) (H :
    (Sp.mOk 200) ∧
    ((¬Sp.checkE gs 200 = 0) → AV.tup [AV.int IntKind.i64 0, AV.int IntKind.i64 (Sp.checkE gs 200)] = dq) ∧
    (¬(¬Sp.checkE gs 200 = 0) → (0 ≤ (↑gs.length : Int) ∧ (↑gs.length : Int) ≤ 1000000) ∧
      ((¬(Sp.isOrd o (↑gs.length : Int) = true)) → AV.tup [AV.int IntKind.i64 0, AV.int IntKind.i64 1] = dq) ∧
      (¬(¬(Sp.isOrd o (↑gs.length : Int) = true)) → (Sp.okG gs) ∧
        (Sp.okO gs o) ∧
        (o.length ≤ 1000) ∧
        AV.tup [AV.int IntKind.i64 (Sp.way gs o), AV.int IntKind.i64 0] = dq))) :
  v12_at fl fm gs o (PureQ dq) := by
  unfold v12_at
  have k1 := H.1; have H := H.2
  have i2 : (Sp.checkE gs 200 != 0) = true ↔ (¬Sp.checkE gs 200 = 0) := i_ne
  rcases Classical.em (¬Sp.checkE gs 200 = 0) with d3 | d3
  · have H := H.1 d3
    exact path_ret (G := given kp12 [(1, 1, .call (AV.int IntKind.i64 (Sp.checkE gs 200)) none)] []) 1000 [true] (k := ((atC (cd Try.f12) [1, 0, 1, 1, 0, 1])).tail) (env' := [(4, AV.int IntKind.i64 0), (5, AV.int IntKind.i64 (Sp.checkE gs 200))]) (L' := []) (asm := [(Sp.checkE gs 200 != 0) == true]) (eqs := []) (calls := [⟨true, false, 28, [AV.vec fl 2 (List.map G2.a gs), AV.int IntKind.i64 200], [], AV.int IntKind.i64 (Sp.checkE gs 200), []⟩]) (AV.tup [AV.int IntKind.i64 0, AV.int IntKind.i64 (Sp.checkE gs 200)]) (by kernel_rfl) (by kernel_rfl) (allB_cons (beq_t (i2.2 d3)) allB_nil) allP_nil (allC_cons (fun _ => ((@ev28 (fl) (gs) (200) k1) : Ev M1 (Conf.pure 28 [AV.vec fl 2 (List.map G2.a gs), AV.int IntKind.i64 200]) (AV.int IntKind.i64 (Sp.checkE gs 200)) [])) allC_nil) (pq_of (d := AV.tup [AV.int IntKind.i64 0, AV.int IntKind.i64 (Sp.checkE gs 200)]) (bs := []) (by kernel_rfl) (by kernel_rfl) allB_nil (by kernel_rfl) H)
  · have H := H.2 d3
    have w4 : (List.map G2.a gs).length = gs.length := List.length_map ..
    have k5 := H.1; have H := H.2
    have i6 : (!Sp.isOrd o (↑gs.length : Int)) = true ↔ (¬(Sp.isOrd o (↑gs.length : Int) = true)) := (i_not (i_var _))
    rcases Classical.em (¬(Sp.isOrd o (↑gs.length : Int) = true)) with d7 | d7
    · have H := H.1 d7
      exact path_ret (G := given kp12 [(1, 1, .call (AV.int IntKind.i64 (Sp.checkE gs 200)) none), (4, 3, .call (AV.bool (Sp.isOrd o (↑gs.length : Int))) none)] []) 1000 [false, true] (k := ((atC (cd Try.f12) [1, 1, 0, 1, 0, 1])).tail) (env' := [(4, AV.int IntKind.i64 0), (5, AV.int IntKind.i64 1)]) (L' := []) (asm := [(Sp.checkE gs 200 != 0) == false, (!Sp.isOrd o (↑gs.length : Int)) == true]) (eqs := []) (calls := [⟨true, false, 28, [AV.vec fl 2 (List.map G2.a gs), AV.int IntKind.i64 200], [], AV.int IntKind.i64 (Sp.checkE gs 200), []⟩, ⟨true, false, 29, [AV.vec fm 1 (List.map (AV.int IntKind.i64) o), AV.int IntKind.i64 (↑(List.map G2.a gs).length : Int)], [], AV.bool (Sp.isOrd o (↑gs.length : Int)), []⟩]) (AV.tup [AV.int IntKind.i64 0, AV.int IntKind.i64 1]) (by kernel_rfl) (by kernel_rfl) (allB_cons (beq_f (fun h => d3 (i2.1 h))) (allB_cons (beq_t (i6.2 d7)) allB_nil)) allP_nil (allC_cons (fun _ => ((@ev28 (fl) (gs) (200) k1) : Ev M1 (Conf.pure 28 [AV.vec fl 2 (List.map G2.a gs), AV.int IntKind.i64 200]) (AV.int IntKind.i64 (Sp.checkE gs 200)) [])) (allC_cons (fun _ => ((by rw [w4] <;> exact (@ev29 (fm) (o) ((↑gs.length : Int)) k5)) : Ev M1 (Conf.pure 29 [AV.vec fm 1 (List.map (AV.int IntKind.i64) o), AV.int IntKind.i64 (↑(List.map G2.a gs).length : Int)]) (AV.bool (Sp.isOrd o (↑gs.length : Int))) [])) allC_nil)) (pq_of (d := AV.tup [AV.int IntKind.i64 0, AV.int IntKind.i64 1]) (bs := []) (by kernel_rfl) (by kernel_rfl) allB_nil (by kernel_rfl) H)
    · have H := H.2 d7
      have k8 := H.1; have H := H.2
      have k9 := H.1; have H := H.2
      have k10 := H.1; have H := H.2
      exact path_ret (G := given kp12 [(1, 1, .call (AV.int IntKind.i64 (Sp.checkE gs 200)) none), (4, 3, .call (AV.bool (Sp.isOrd o (↑gs.length : Int))) none), (6, 2, .call (AV.int IntKind.i64 (Sp.way gs o)) none)] []) 1000 [false, false] (k := ((atC (cd Try.f12) [1, 1, 1, 1])).tail) (env' := [(4, AV.int IntKind.i64 (Sp.way gs o)), (5, AV.int IntKind.i64 0)]) (L' := []) (asm := [(Sp.checkE gs 200 != 0) == false, (!Sp.isOrd o (↑gs.length : Int)) == false]) (eqs := []) (calls := [⟨true, false, 28, [AV.vec fl 2 (List.map G2.a gs), AV.int IntKind.i64 200], [], AV.int IntKind.i64 (Sp.checkE gs 200), []⟩, ⟨true, false, 29, [AV.vec fm 1 (List.map (AV.int IntKind.i64) o), AV.int IntKind.i64 (↑(List.map G2.a gs).length : Int)], [], AV.bool (Sp.isOrd o (↑gs.length : Int)), []⟩, ⟨true, false, 30, [AV.vec fl 2 (List.map G2.a gs), AV.vec fm 1 (List.map (AV.int IntKind.i64) o)], [], AV.int IntKind.i64 (Sp.way gs o), []⟩]) (AV.tup [AV.int IntKind.i64 (Sp.way gs o), AV.int IntKind.i64 0]) (by kernel_rfl) (by kernel_rfl) (allB_cons (beq_f (fun h => d3 (i2.1 h))) (allB_cons (beq_f (fun h => d7 (i6.1 h))) allB_nil)) allP_nil (allC_cons (fun _ => ((@ev28 (fl) (gs) (200) k1) : Ev M1 (Conf.pure 28 [AV.vec fl 2 (List.map G2.a gs), AV.int IntKind.i64 200]) (AV.int IntKind.i64 (Sp.checkE gs 200)) [])) (allC_cons (fun _ => ((by rw [w4] <;> exact (@ev29 (fm) (o) ((↑gs.length : Int)) k5)) : Ev M1 (Conf.pure 29 [AV.vec fm 1 (List.map (AV.int IntKind.i64) o), AV.int IntKind.i64 (↑(List.map G2.a gs).length : Int)]) (AV.bool (Sp.isOrd o (↑gs.length : Int))) [])) (allC_cons (fun _ => ((@ev30 (fl) (fm) (gs) (o) k8 k9 k10) : Ev M1 (Conf.pure 30 [AV.vec fl 2 (List.map G2.a gs), AV.vec fm 1 (List.map (AV.int IntKind.i64) o)]) (AV.int IntKind.i64 (Sp.way gs o)) [])) allC_nil))) (pq_of (d := AV.tup [AV.int IntKind.i64 (Sp.way gs o), AV.int IntKind.i64 0]) (bs := []) (by kernel_rfl) (by kernel_rfl) allB_nil (by kernel_rfl) H)


end Go.Av

/- WHAT Length ANSWERS. -/
namespace Go.Av
open Go.Proofs

theorem loop33 {fl fm : Bool} {gs : List G2} {o : List Int} {dq : AV} (hg : Sp.okG gs) (ho : Sp.okO gs o) (hl : o.length ≤ 1000) : ∀ (k i : Nat) (s : Int), i + 1 + k = o.length → 0 ≤ s → s + 20000000 * k ≤ 20000000000 → AV.int .i64 (s + Sp.way gs (o.drop i)) = dq → v33a_at fl fm gs o s (i + 1 : Nat) (PureQ dq) := by
  intro k
  induction k with
  | zero =>
    intro i s hi h0 h1 hq
    rw [drop_getD (show i < o.length by omega), List.drop_eq_nil_of_le (by omega), Sp.way, Int.add_zero] at hq
    exact v33a _ _ _ _ _ _ _ ⟨fun h => by omega, fun _ => hq⟩
  | succ k ih =>
    intro i s hi h0 h1 hq
    rw [drop_getD (show i < o.length by omega), drop_getD (show i + 1 < o.length by omega), Sp.way, ← drop_getD (show i + 1 < o.length by omega)] at hq
    have m1 := ho _ (getD_mem (show i < o.length by omega))
    have m2 := ho _ (getD_mem (show i + 1 < o.length by omega))
    have hd := dAt_le hg (o.getD i default) (o.getD (i + 1) default)
    have e1 : (((i + 1 : Nat) : Int) - 1).toNat = i := by omega
    refine v33a _ _ _ _ _ _ _ ⟨fun _ => ?_, fun h => by omega⟩
    rw [e1, Int.toNat_natCast]
    refine ⟨by omega, ⟨(okG_at hg _).1, (okG_at hg _).2, (okG_at hg _).1, (okG_at hg _).2⟩, by omega, by omega, m1.1, by omega, by omega, by omega, m2.1, by omega, ?_, by omega, ?_⟩
    · show -9223372036854775808 ≤ s + Sp.dAt gs (o.getD i default) (o.getD (i + 1) default) ∧ s + Sp.dAt gs (o.getD i default) (o.getD (i + 1) default) ≤ 9223372036854775807
      omega
    · have := ih (i + 1) (s + Sp.dAt gs (o.getD i default) (o.getD (i + 1) default)) (by omega) (by omega) (by omega) (by rw [← hq, Int.add_assoc])
      exact this

theorem ev33 (fl fm : Bool) (gs : List G2) (o : List Int) (hg : Sp.okG gs) (ho : Sp.okO gs o) (hl : o.length ≤ 1000) : Ev M1 (.pure 33 [gsA fl gs, isA fm o]) (.int .i64 (Sp.way gs o)) [] := by
  refine call33 (v33 fl fm gs o _ ?_)
  cases o with
  | nil => exact v33a _ _ _ _ _ _ _ ⟨fun h => by simp at h, fun _ => rfl⟩
  | cons x o => exact loop33 hg ho hl o.length 0 0 (by simp; omega) (by omega) (by simp at hl; omega) (by simp)

namespace Sp
def lengthE (gs : List G2) (o : List Int) : Int := if checkE gs 200 = 0 then (if isOrd o gs.length = true then 0 else 1) else checkE gs 200
def lengthV (gs : List G2) (o : List Int) : Int := if lengthE gs o = 0 then way gs o else 0
end Sp

theorem isOrd_okO {gs : List G2} {o : List Int} (h : Sp.isOrd o gs.length = true) : Sp.okO gs o ∧ o.length = gs.length :=
  ⟨fun x hx => (isOrd_facts h).2.1 x hx, by have := (isOrd_facts h).1; omega⟩

theorem ev12 (fl fm : Bool) (gs : List G2) (o : List Int) : Ev M1 (.pure 12 [gsA fl gs, isA fm o]) (.tup [.int .i64 (Sp.lengthV gs o), .int .i64 (Sp.lengthE gs o)]) [] := by
  refine call12 (v12 fl fm gs o _ ⟨by simp [Sp.mOk], fun h => ?_, fun h => ⟨by have := (check_okG (Classical.not_not.1 h)).2; omega, fun k => ?_, fun k => ?_⟩⟩)
  · have e : Sp.lengthE gs o = Sp.checkE gs 200 := if_neg h
    rw [Sp.lengthV, e, if_neg h]
  · have h := Classical.not_not.1 h
    have e : Sp.lengthE gs o = 1 := by rw [Sp.lengthE, if_pos h, if_neg k]
    rw [Sp.lengthV, e, if_neg (by simp)]
  · have h := Classical.not_not.1 h
    have k := Classical.not_not.1 k
    have e : Sp.lengthE gs o = 0 := by rw [Sp.lengthE, if_pos h, if_pos k]
    obtain ⟨c1, c2⟩ := check_okG h
    obtain ⟨c3, c4⟩ := isOrd_okO k
    exact ⟨c1, c3, by omega, by rw [Sp.lengthV, e, if_pos rfl]⟩
end Go.Av

/- PATHS, written by a program of the prover's. -/
namespace Go.Av
open Go.Proofs
set_option maxRecDepth 100000
def fi42 : Fi := ⟨87, [.tmp 8]⟩
def kp42 : List (Nat × List Nat) := [(0, [0, 1, 2, 3]), (1, [0, 1, 2, 3, 9]), (2, [0, 1, 2, 3, 9, 10]), (3, [0, 1, 2, 3, 9, 10, 47]), (4, [0, 1, 2, 3, 9, 10]), (5, [9, 10]), (6, [8])]
def fi43 : Fi := ⟨28, []⟩
def kp43 : List (Nat × List Nat) := [(0, [0, 2, 3]), (1, [0, 2, 3, 9]), (2, [0, 2, 3]), (3, [0, 2, 3])]
def fi44 : Fi := ⟨33, [.tmp 6]⟩
def kp44 : List (Nat × List Nat) := [(0, [0, 1, 2]), (1, [1, 2, 7]), (2, [1, 2, 7, 13]), (3, [1, 2, 7]), (4, [1, 2, 7]), (5, [6])]
def v42_at (fl fm : Bool) (gs : List G2) (o : List Int) (i j : Int) (Q : AV → Heap → Prop) : Prop := Wp M1 (.run fi42 (atC (cd Try.f42) []) [(0, .vec fl 2 (gs.map G2.a)), (1, .vec fm 1 (o.map (.int .i64))), (2, .int .i64 i), (3, .int .i64 j)] []) Q
def v43_at (o : List Int) (v lo len : Nat) (Q : AV → Heap → Prop) : Prop := Wp M1 (.run fi43 (atC (cd Try.f43) []) [(0, .ref 0 v lo len)] [⟨o.map (.int .i64), 1, v, false, true⟩]) Q
def v43a_at (o : List Int) (v lo len : Nat) (i j : Int) (Q : AV → Heap → Prop) : Prop := Wp M1 (.run fi43 (atC (cd Try.f43) [1, 0, 0]) [(0, .ref 0 v lo len), (2, .int .i64 i), (3, .int .i64 j)] [⟨o.map (.int .i64), 1, v, false, true⟩]) Q
def v44_at (fm : Bool) (y : Int) (o : List Int) (i j : Int) (Q : AV → Heap → Prop) : Prop := Wp M1 (.run fi44 (atC (cd Try.f44) []) [(0, .vec fm 1 ((y :: o).map (.int .i64))), (1, .int .i64 i), (2, .int .i64 j)] []) Q
def v44a_at (o : List Int) (v : Nat) (i j : Int) (Q : AV → Heap → Prop) : Prop := Wp M1 (.run fi44 (atC (cd Try.f44) [1, 1, 0, 0, 0]) [(1, .int .i64 i), (2, .int .i64 j), (7, .row 0 v)] [⟨o.map (.int .i64), 1, v, false, true⟩]) Q
theorem call42 {args : List AV} {d : AV} (h : Wp M1 (.run fi42 [.code (cd Try.f42)] (argVars 0 args) []) (PureQ d)) : Ev M1 (.pure 42 args) d [] :=
  pure_pq Try.f42 fi42 (by kernel_rfl) (by kernel_rfl) (by kernel_rfl) (by kernel_rfl) h
theorem owncall42 {args : List AV} {L : Heap} {Q : AV → Heap → Prop} (h : Wp M1 (.run fi42 [.code (cd Try.f42)] (argVars 0 args) L) Q) : Wp M1 (.own 42 args L) Q :=
  own_wp Try.f42 fi42 (by kernel_rfl) (by kernel_rfl) (by kernel_rfl) (by kernel_rfl) h
theorem keepcall42 {args : List AV} {L : Heap} {v : AV} {K : Heap} (hk : keepOk L.length v K = true) (h : Wp M1 (.run fi42 [.code (cd Try.f42)] (argVars 0 args) L) (KeepQ v K)) : Ev M1 (.own 42 args L) v K :=
  own_keep Try.f42 fi42 (by kernel_rfl) (by kernel_rfl) (by kernel_rfl) (by kernel_rfl) hk h
theorem call43 {args : List AV} {d : AV} (h : Wp M1 (.run fi43 [.code (cd Try.f43)] (argVars 0 args) []) (PureQ d)) : Ev M1 (.pure 43 args) d [] :=
  pure_pq Try.f43 fi43 (by kernel_rfl) (by kernel_rfl) (by kernel_rfl) (by kernel_rfl) h
theorem owncall43 {args : List AV} {L : Heap} {Q : AV → Heap → Prop} (h : Wp M1 (.run fi43 [.code (cd Try.f43)] (argVars 0 args) L) Q) : Wp M1 (.own 43 args L) Q :=
  own_wp Try.f43 fi43 (by kernel_rfl) (by kernel_rfl) (by kernel_rfl) (by kernel_rfl) h
theorem keepcall43 {args : List AV} {L : Heap} {v : AV} {K : Heap} (hk : keepOk L.length v K = true) (h : Wp M1 (.run fi43 [.code (cd Try.f43)] (argVars 0 args) L) (KeepQ v K)) : Ev M1 (.own 43 args L) v K :=
  own_keep Try.f43 fi43 (by kernel_rfl) (by kernel_rfl) (by kernel_rfl) (by kernel_rfl) hk h
theorem call44 {args : List AV} {d : AV} (h : Wp M1 (.run fi44 [.code (cd Try.f44)] (argVars 0 args) []) (PureQ d)) : Ev M1 (.pure 44 args) d [] :=
  pure_pq Try.f44 fi44 (by kernel_rfl) (by kernel_rfl) (by kernel_rfl) (by kernel_rfl) h
theorem owncall44 {args : List AV} {L : Heap} {Q : AV → Heap → Prop} (h : Wp M1 (.run fi44 [.code (cd Try.f44)] (argVars 0 args) L) Q) : Wp M1 (.own 44 args L) Q :=
  own_wp Try.f44 fi44 (by kernel_rfl) (by kernel_rfl) (by kernel_rfl) (by kernel_rfl) h
theorem keepcall44 {args : List AV} {L : Heap} {v : AV} {K : Heap} (hk : keepOk L.length v K = true) (h : Wp M1 (.run fi44 [.code (cd Try.f44)] (argVars 0 args) L) (KeepQ v K)) : Ev M1 (.own 44 args L) v K :=
  own_keep Try.f44 fi44 (by kernel_rfl) (by kernel_rfl) (by kernel_rfl) (by kernel_rfl) hk h
theorem v42 (fl fm : Bool) (gs : List G2) (o : List Int) (i j : Int)  (dq : AV) (H :
    (-9223372036854775808 ≤ i - 1 ∧ i - 1 ≤ 9223372036854775807) ∧
    (Sp.inM (gs.getD (o.getD (i - 1).toNat default).toNat default).x ∧ Sp.inM (gs.getD (o.getD (i - 1).toNat default).toNat default).y ∧ Sp.inM (gs.getD (o.getD i.toNat default).toNat default).x ∧ Sp.inM (gs.getD (o.getD i.toNat default).toNat default).y) ∧
    (0 ≤ i - 1) ∧
    ((i - 1).toNat < o.length) ∧
    (0 ≤ o.getD (i - 1).toNat default) ∧
    ((o.getD (i - 1).toNat default).toNat < gs.length) ∧
    (0 ≤ i) ∧
    (i.toNat < o.length) ∧
    (0 ≤ o.getD i.toNat default) ∧
    ((o.getD i.toNat default).toNat < gs.length) ∧
    (Sp.inM (gs.getD (o.getD (i - 1).toNat default).toNat default).x ∧ Sp.inM (gs.getD (o.getD (i - 1).toNat default).toNat default).y ∧ Sp.inM (gs.getD (o.getD j.toNat default).toNat default).x ∧ Sp.inM (gs.getD (o.getD j.toNat default).toNat default).y) ∧
    (0 ≤ j) ∧
    (j.toNat < o.length) ∧
    (0 ≤ o.getD j.toNat default) ∧
    ((o.getD j.toNat default).toNat < gs.length) ∧
    (-9223372036854775808 ≤ j + 1 ∧ j + 1 ≤ 9223372036854775807) ∧
    ((j + 1 < (↑o.length : Int)) → (Sp.inM (gs.getD (o.getD j.toNat default).toNat default).x ∧ Sp.inM (gs.getD (o.getD j.toNat default).toNat default).y ∧ Sp.inM (gs.getD (o.getD (j + 1).toNat default).toNat default).x ∧ Sp.inM (gs.getD (o.getD (j + 1).toNat default).toNat default).y) ∧
      (0 ≤ j + 1) ∧
      ((j + 1).toNat < o.length) ∧
      (0 ≤ o.getD (j + 1).toNat default) ∧
      ((o.getD (j + 1).toNat default).toNat < gs.length) ∧
      (-9223372036854775808 ≤ Sp.dist (gs.getD (o.getD (i - 1).toNat default).toNat default).x (gs.getD (o.getD (i - 1).toNat default).toNat default).y (gs.getD (o.getD i.toNat default).toNat default).x (gs.getD (o.getD i.toNat default).toNat default).y + Sp.dist (gs.getD (o.getD j.toNat default).toNat default).x (gs.getD (o.getD j.toNat default).toNat default).y (gs.getD (o.getD (j + 1).toNat default).toNat default).x (gs.getD (o.getD (j + 1).toNat default).toNat default).y ∧ Sp.dist (gs.getD (o.getD (i - 1).toNat default).toNat default).x (gs.getD (o.getD (i - 1).toNat default).toNat default).y (gs.getD (o.getD i.toNat default).toNat default).x (gs.getD (o.getD i.toNat default).toNat default).y + Sp.dist (gs.getD (o.getD j.toNat default).toNat default).x (gs.getD (o.getD j.toNat default).toNat default).y (gs.getD (o.getD (j + 1).toNat default).toNat default).x (gs.getD (o.getD (j + 1).toNat default).toNat default).y ≤ 9223372036854775807) ∧
      (Sp.inM (gs.getD (o.getD i.toNat default).toNat default).x ∧ Sp.inM (gs.getD (o.getD i.toNat default).toNat default).y ∧ Sp.inM (gs.getD (o.getD (j + 1).toNat default).toNat default).x ∧ Sp.inM (gs.getD (o.getD (j + 1).toNat default).toNat default).y) ∧
      (-9223372036854775808 ≤ Sp.dist (gs.getD (o.getD (i - 1).toNat default).toNat default).x (gs.getD (o.getD (i - 1).toNat default).toNat default).y (gs.getD (o.getD j.toNat default).toNat default).x (gs.getD (o.getD j.toNat default).toNat default).y + Sp.dist (gs.getD (o.getD i.toNat default).toNat default).x (gs.getD (o.getD i.toNat default).toNat default).y (gs.getD (o.getD (j + 1).toNat default).toNat default).x (gs.getD (o.getD (j + 1).toNat default).toNat default).y ∧ Sp.dist (gs.getD (o.getD (i - 1).toNat default).toNat default).x (gs.getD (o.getD (i - 1).toNat default).toNat default).y (gs.getD (o.getD j.toNat default).toNat default).x (gs.getD (o.getD j.toNat default).toNat default).y + Sp.dist (gs.getD (o.getD i.toNat default).toNat default).x (gs.getD (o.getD i.toNat default).toNat default).y (gs.getD (o.getD (j + 1).toNat default).toNat default).x (gs.getD (o.getD (j + 1).toNat default).toNat default).y ≤ 9223372036854775807) ∧
      (-9223372036854775808 ≤ Sp.dist (gs.getD (o.getD (i - 1).toNat default).toNat default).x (gs.getD (o.getD (i - 1).toNat default).toNat default).y (gs.getD (o.getD i.toNat default).toNat default).x (gs.getD (o.getD i.toNat default).toNat default).y + Sp.dist (gs.getD (o.getD j.toNat default).toNat default).x (gs.getD (o.getD j.toNat default).toNat default).y (gs.getD (o.getD (j + 1).toNat default).toNat default).x (gs.getD (o.getD (j + 1).toNat default).toNat default).y - (Sp.dist (gs.getD (o.getD (i - 1).toNat default).toNat default).x (gs.getD (o.getD (i - 1).toNat default).toNat default).y (gs.getD (o.getD j.toNat default).toNat default).x (gs.getD (o.getD j.toNat default).toNat default).y + Sp.dist (gs.getD (o.getD i.toNat default).toNat default).x (gs.getD (o.getD i.toNat default).toNat default).y (gs.getD (o.getD (j + 1).toNat default).toNat default).x (gs.getD (o.getD (j + 1).toNat default).toNat default).y) ∧ Sp.dist (gs.getD (o.getD (i - 1).toNat default).toNat default).x (gs.getD (o.getD (i - 1).toNat default).toNat default).y (gs.getD (o.getD i.toNat default).toNat default).x (gs.getD (o.getD i.toNat default).toNat default).y + Sp.dist (gs.getD (o.getD j.toNat default).toNat default).x (gs.getD (o.getD j.toNat default).toNat default).y (gs.getD (o.getD (j + 1).toNat default).toNat default).x (gs.getD (o.getD (j + 1).toNat default).toNat default).y - (Sp.dist (gs.getD (o.getD (i - 1).toNat default).toNat default).x (gs.getD (o.getD (i - 1).toNat default).toNat default).y (gs.getD (o.getD j.toNat default).toNat default).x (gs.getD (o.getD j.toNat default).toNat default).y + Sp.dist (gs.getD (o.getD i.toNat default).toNat default).x (gs.getD (o.getD i.toNat default).toNat default).y (gs.getD (o.getD (j + 1).toNat default).toNat default).x (gs.getD (o.getD (j + 1).toNat default).toNat default).y) ≤ 9223372036854775807) ∧
      AV.int IntKind.i64 (Sp.dist (gs.getD (o.getD (i - 1).toNat default).toNat default).x (gs.getD (o.getD (i - 1).toNat default).toNat default).y (gs.getD (o.getD i.toNat default).toNat default).x (gs.getD (o.getD i.toNat default).toNat default).y + Sp.dist (gs.getD (o.getD j.toNat default).toNat default).x (gs.getD (o.getD j.toNat default).toNat default).y (gs.getD (o.getD (j + 1).toNat default).toNat default).x (gs.getD (o.getD (j + 1).toNat default).toNat default).y - (Sp.dist (gs.getD (o.getD (i - 1).toNat default).toNat default).x (gs.getD (o.getD (i - 1).toNat default).toNat default).y (gs.getD (o.getD j.toNat default).toNat default).x (gs.getD (o.getD j.toNat default).toNat default).y + Sp.dist (gs.getD (o.getD i.toNat default).toNat default).x (gs.getD (o.getD i.toNat default).toNat default).y (gs.getD (o.getD (j + 1).toNat default).toNat default).x (gs.getD (o.getD (j + 1).toNat default).toNat default).y)) = dq) ∧
    (¬(j + 1 < (↑o.length : Int)) → (-9223372036854775808 ≤ Sp.dist (gs.getD (o.getD (i - 1).toNat default).toNat default).x (gs.getD (o.getD (i - 1).toNat default).toNat default).y (gs.getD (o.getD i.toNat default).toNat default).x (gs.getD (o.getD i.toNat default).toNat default).y - Sp.dist (gs.getD (o.getD (i - 1).toNat default).toNat default).x (gs.getD (o.getD (i - 1).toNat default).toNat default).y (gs.getD (o.getD j.toNat default).toNat default).x (gs.getD (o.getD j.toNat default).toNat default).y ∧ Sp.dist (gs.getD (o.getD (i - 1).toNat default).toNat default).x (gs.getD (o.getD (i - 1).toNat default).toNat default).y (gs.getD (o.getD i.toNat default).toNat default).x (gs.getD (o.getD i.toNat default).toNat default).y - Sp.dist (gs.getD (o.getD (i - 1).toNat default).toNat default).x (gs.getD (o.getD (i - 1).toNat default).toNat default).y (gs.getD (o.getD j.toNat default).toNat default).x (gs.getD (o.getD j.toNat default).toNat default).y ≤ 9223372036854775807) ∧
      AV.int IntKind.i64 (Sp.dist (gs.getD (o.getD (i - 1).toNat default).toNat default).x (gs.getD (o.getD (i - 1).toNat default).toNat default).y (gs.getD (o.getD i.toNat default).toNat default).x (gs.getD (o.getD i.toNat default).toNat default).y - Sp.dist (gs.getD (o.getD (i - 1).toNat default).toNat default).x (gs.getD (o.getD (i - 1).toNat default).toNat default).y (gs.getD (o.getD j.toNat default).toNat default).x (gs.getD (o.getD j.toNat default).toNat default).y) = dq)) :
  v42_at fl fm gs o i j (PureQ dq) := by
  unfold v42_at
  have k1 := H.1; have H := H.2
  have w2 : IntKind.i64.wrap (i - 1) = i - 1 := wI64 k1
  have k3 := H.1; have H := H.2
  have i4 : (decide (0 ≤ IntKind.i64.wrap (i - 1))) = true ↔ (0 ≤ i - 1) := (by rw [w2] <;> exact i_dec)
  have k5 := H.1; have H := H.2
  have w6 : (List.map (AV.int IntKind.i64) o).length = o.length := List.length_map ..
  have i7 : (decide ((IntKind.i64.wrap (i - 1)).toNat < (List.map (AV.int IntKind.i64) o).length)) = true ↔ ((i - 1).toNat < o.length) := (by rw [w2, w6] <;> exact i_dec)
  have k8 := H.1; have H := H.2
  have i9 : (decide (0 ≤ o.getD (i - 1).toNat default)) = true ↔ (0 ≤ o.getD (i - 1).toNat default) := i_dec
  have k10 := H.1; have H := H.2
  have w11 : (List.map G2.a gs).length = gs.length := List.length_map ..
  have i12 : (decide ((o.getD (i - 1).toNat default).toNat < (List.map G2.a gs).length)) = true ↔ ((o.getD (i - 1).toNat default).toNat < gs.length) := (by rw [w11] <;> exact i_dec)
  have k13 := H.1; have H := H.2
  have i14 : (decide (0 ≤ i)) = true ↔ (0 ≤ i) := i_dec
  have k15 := H.1; have H := H.2
  have i16 : (decide (i.toNat < (List.map (AV.int IntKind.i64) o).length)) = true ↔ (i.toNat < o.length) := (by rw [w6] <;> exact i_dec)
  have k17 := H.1; have H := H.2
  have i18 : (decide (0 ≤ o.getD i.toNat default)) = true ↔ (0 ≤ o.getD i.toNat default) := i_dec
  have k19 := H.1; have H := H.2
  have i20 : (decide ((o.getD i.toNat default).toNat < (List.map G2.a gs).length)) = true ↔ ((o.getD i.toNat default).toNat < gs.length) := (by rw [w11] <;> exact i_dec)
  have k21 := H.1; have H := H.2
  have k22 := H.1; have H := H.2
  have i23 : (decide (0 ≤ IntKind.i64.wrap (i - 1))) = true ↔ (0 ≤ i - 1) := (by rw [w2] <;> exact i_dec)
  have i24 : (decide ((IntKind.i64.wrap (i - 1)).toNat < (List.map (AV.int IntKind.i64) o).length)) = true ↔ ((i - 1).toNat < o.length) := (by rw [w2, w6] <;> exact i_dec)
  have i25 : (decide (0 ≤ o.getD (i - 1).toNat default)) = true ↔ (0 ≤ o.getD (i - 1).toNat default) := i_dec
  have i26 : (decide ((o.getD (i - 1).toNat default).toNat < (List.map G2.a gs).length)) = true ↔ ((o.getD (i - 1).toNat default).toNat < gs.length) := (by rw [w11] <;> exact i_dec)
  have i27 : (decide (0 ≤ j)) = true ↔ (0 ≤ j) := i_dec
  have k28 := H.1; have H := H.2
  have i29 : (decide (j.toNat < (List.map (AV.int IntKind.i64) o).length)) = true ↔ (j.toNat < o.length) := (by rw [w6] <;> exact i_dec)
  have k30 := H.1; have H := H.2
  have i31 : (decide (0 ≤ o.getD j.toNat default)) = true ↔ (0 ≤ o.getD j.toNat default) := i_dec
  have k32 := H.1; have H := H.2
  have i33 : (decide ((o.getD j.toNat default).toNat < (List.map G2.a gs).length)) = true ↔ ((o.getD j.toNat default).toNat < gs.length) := (by rw [w11] <;> exact i_dec)
  have k34 := H.1; have H := H.2
  have k35 := H.1; have H := H.2
  have w36 : IntKind.i64.wrap (j + 1) = j + 1 := wI64 k35
  have i37 : (decide (IntKind.i64.wrap (j + 1) < (↑(List.map (AV.int IntKind.i64) o).length : Int))) = true ↔ (j + 1 < (↑o.length : Int)) := (by rw [w6, w36] <;> exact i_dec)
  rcases Classical.em (j + 1 < (↑o.length : Int)) with d38 | d38
  · have H := H.1 d38
    have k39 := H.1; have H := H.2
    have i40 : (decide (0 ≤ j)) = true ↔ (0 ≤ j) := i_dec
    have i41 : (decide (j.toNat < (List.map (AV.int IntKind.i64) o).length)) = true ↔ (j.toNat < o.length) := (by rw [w6] <;> exact i_dec)
    have i42 : (decide (0 ≤ o.getD j.toNat default)) = true ↔ (0 ≤ o.getD j.toNat default) := i_dec
    have i43 : (decide ((o.getD j.toNat default).toNat < (List.map G2.a gs).length)) = true ↔ ((o.getD j.toNat default).toNat < gs.length) := (by rw [w11] <;> exact i_dec)
    have i44 : (decide (0 ≤ IntKind.i64.wrap (j + 1))) = true ↔ (0 ≤ j + 1) := (by rw [w36] <;> exact i_dec)
    have k45 := H.1; have H := H.2
    have i46 : (decide ((IntKind.i64.wrap (j + 1)).toNat < (List.map (AV.int IntKind.i64) o).length)) = true ↔ ((j + 1).toNat < o.length) := (by rw [w6, w36] <;> exact i_dec)
    have k47 := H.1; have H := H.2
    have i48 : (decide (0 ≤ o.getD (j + 1).toNat default)) = true ↔ (0 ≤ o.getD (j + 1).toNat default) := i_dec
    have k49 := H.1; have H := H.2
    have i50 : (decide ((o.getD (j + 1).toNat default).toNat < (List.map G2.a gs).length)) = true ↔ ((o.getD (j + 1).toNat default).toNat < gs.length) := (by rw [w11] <;> exact i_dec)
    have k51 := H.1; have H := H.2
    have k52 := H.1; have H := H.2
    have w53 : IntKind.i64.wrap (Sp.dist (gs.getD (o.getD (i - 1).toNat default).toNat default).x (gs.getD (o.getD (i - 1).toNat default).toNat default).y (gs.getD (o.getD i.toNat default).toNat default).x (gs.getD (o.getD i.toNat default).toNat default).y + Sp.dist (gs.getD (o.getD j.toNat default).toNat default).x (gs.getD (o.getD j.toNat default).toNat default).y (gs.getD (o.getD (j + 1).toNat default).toNat default).x (gs.getD (o.getD (j + 1).toNat default).toNat default).y) = Sp.dist (gs.getD (o.getD (i - 1).toNat default).toNat default).x (gs.getD (o.getD (i - 1).toNat default).toNat default).y (gs.getD (o.getD i.toNat default).toNat default).x (gs.getD (o.getD i.toNat default).toNat default).y + Sp.dist (gs.getD (o.getD j.toNat default).toNat default).x (gs.getD (o.getD j.toNat default).toNat default).y (gs.getD (o.getD (j + 1).toNat default).toNat default).x (gs.getD (o.getD (j + 1).toNat default).toNat default).y := wI64 k52
    have k54 := H.1; have H := H.2
    have i55 : (decide (0 ≤ i)) = true ↔ (0 ≤ i) := i_dec
    have i56 : (decide (i.toNat < (List.map (AV.int IntKind.i64) o).length)) = true ↔ (i.toNat < o.length) := (by rw [w6] <;> exact i_dec)
    have i57 : (decide (0 ≤ o.getD i.toNat default)) = true ↔ (0 ≤ o.getD i.toNat default) := i_dec
    have i58 : (decide ((o.getD i.toNat default).toNat < (List.map G2.a gs).length)) = true ↔ ((o.getD i.toNat default).toNat < gs.length) := (by rw [w11] <;> exact i_dec)
    have i59 : (decide (0 ≤ IntKind.i64.wrap (j + 1))) = true ↔ (0 ≤ j + 1) := (by rw [w36] <;> exact i_dec)
    have i60 : (decide ((IntKind.i64.wrap (j + 1)).toNat < (List.map (AV.int IntKind.i64) o).length)) = true ↔ ((j + 1).toNat < o.length) := (by rw [w6, w36] <;> exact i_dec)
    have i61 : (decide (0 ≤ o.getD (j + 1).toNat default)) = true ↔ (0 ≤ o.getD (j + 1).toNat default) := i_dec
    have i62 : (decide ((o.getD (j + 1).toNat default).toNat < (List.map G2.a gs).length)) = true ↔ ((o.getD (j + 1).toNat default).toNat < gs.length) := (by rw [w11] <;> exact i_dec)
    have k63 := H.1; have H := H.2
    have w64 : IntKind.i64.wrap (Sp.dist (gs.getD (o.getD (i - 1).toNat default).toNat default).x (gs.getD (o.getD (i - 1).toNat default).toNat default).y (gs.getD (o.getD j.toNat default).toNat default).x (gs.getD (o.getD j.toNat default).toNat default).y + Sp.dist (gs.getD (o.getD i.toNat default).toNat default).x (gs.getD (o.getD i.toNat default).toNat default).y (gs.getD (o.getD (j + 1).toNat default).toNat default).x (gs.getD (o.getD (j + 1).toNat default).toNat default).y) = Sp.dist (gs.getD (o.getD (i - 1).toNat default).toNat default).x (gs.getD (o.getD (i - 1).toNat default).toNat default).y (gs.getD (o.getD j.toNat default).toNat default).x (gs.getD (o.getD j.toNat default).toNat default).y + Sp.dist (gs.getD (o.getD i.toNat default).toNat default).x (gs.getD (o.getD i.toNat default).toNat default).y (gs.getD (o.getD (j + 1).toNat default).toNat default).x (gs.getD (o.getD (j + 1).toNat default).toNat default).y := wI64 k63
    have k65 := H.1; have H := H.2
    have w66 : IntKind.i64.wrap (Sp.dist (gs.getD (o.getD (i - 1).toNat default).toNat default).x (gs.getD (o.getD (i - 1).toNat default).toNat default).y (gs.getD (o.getD i.toNat default).toNat default).x (gs.getD (o.getD i.toNat default).toNat default).y + Sp.dist (gs.getD (o.getD j.toNat default).toNat default).x (gs.getD (o.getD j.toNat default).toNat default).y (gs.getD (o.getD (j + 1).toNat default).toNat default).x (gs.getD (o.getD (j + 1).toNat default).toNat default).y - (Sp.dist (gs.getD (o.getD (i - 1).toNat default).toNat default).x (gs.getD (o.getD (i - 1).toNat default).toNat default).y (gs.getD (o.getD j.toNat default).toNat default).x (gs.getD (o.getD j.toNat default).toNat default).y + Sp.dist (gs.getD (o.getD i.toNat default).toNat default).x (gs.getD (o.getD i.toNat default).toNat default).y (gs.getD (o.getD (j + 1).toNat default).toNat default).x (gs.getD (o.getD (j + 1).toNat default).toNat default).y)) = Sp.dist (gs.getD (o.getD (i - 1).toNat default).toNat default).x (gs.getD (o.getD (i - 1).toNat default).toNat default).y (gs.getD (o.getD i.toNat default).toNat default).x (gs.getD (o.getD i.toNat default).toNat default).y + Sp.dist (gs.getD (o.getD j.toNat default).toNat default).x (gs.getD (o.getD j.toNat default).toNat default).y (gs.getD (o.getD (j + 1).toNat default).toNat default).x (gs.getD (o.getD (j + 1).toNat default).toNat default).y - (Sp.dist (gs.getD (o.getD (i - 1).toNat default).toNat default).x (gs.getD (o.getD (i - 1).toNat default).toNat default).y (gs.getD (o.getD j.toNat default).toNat default).x (gs.getD (o.getD j.toNat default).toNat default).y + Sp.dist (gs.getD (o.getD i.toNat default).toNat default).x (gs.getD (o.getD i.toNat default).toNat default).y (gs.getD (o.getD (j + 1).toNat default).toNat default).x (gs.getD (o.getD (j + 1).toNat default).toNat default).y) := wI64 k65
    exact path_ret (G := given kp42 [(1, 5, .elem (AV.int IntKind.i64 (o.getD (i - 1).toNat default))), (1, 7, .elem (AV.agg [AV.int IntKind.i64 (gs.getD (o.getD (i - 1).toNat default).toNat default).x, AV.int IntKind.i64 (gs.getD (o.getD (i - 1).toNat default).toNat default).y])), (1, 12, .elem (AV.int IntKind.i64 (o.getD i.toNat default))), (1, 14, .elem (AV.agg [AV.int IntKind.i64 (gs.getD (o.getD i.toNat default).toNat default).x, AV.int IntKind.i64 (gs.getD (o.getD i.toNat default).toNat default).y])), (1, 15, .call (AV.int IntKind.i64 (Sp.dist (gs.getD (o.getD (i - 1).toNat default).toNat default).x (gs.getD (o.getD (i - 1).toNat default).toNat default).y (gs.getD (o.getD i.toNat default).toNat default).x (gs.getD (o.getD i.toNat default).toNat default).y)) none), (2, 5, .elem (AV.int IntKind.i64 (o.getD (i - 1).toNat default))), (2, 7, .elem (AV.agg [AV.int IntKind.i64 (gs.getD (o.getD (i - 1).toNat default).toNat default).x, AV.int IntKind.i64 (gs.getD (o.getD (i - 1).toNat default).toNat default).y])), (2, 12, .elem (AV.int IntKind.i64 (o.getD j.toNat default))), (2, 14, .elem (AV.agg [AV.int IntKind.i64 (gs.getD (o.getD j.toNat default).toNat default).x, AV.int IntKind.i64 (gs.getD (o.getD j.toNat default).toNat default).y])), (2, 15, .call (AV.int IntKind.i64 (Sp.dist (gs.getD (o.getD (i - 1).toNat default).toNat default).x (gs.getD (o.getD (i - 1).toNat default).toNat default).y (gs.getD (o.getD j.toNat default).toNat default).x (gs.getD (o.getD j.toNat default).toNat default).y)) none), (4, 5, .elem (AV.int IntKind.i64 (o.getD j.toNat default))), (4, 7, .elem (AV.agg [AV.int IntKind.i64 (gs.getD (o.getD j.toNat default).toNat default).x, AV.int IntKind.i64 (gs.getD (o.getD j.toNat default).toNat default).y])), (4, 13, .elem (AV.int IntKind.i64 (o.getD (j + 1).toNat default))), (4, 15, .elem (AV.agg [AV.int IntKind.i64 (gs.getD (o.getD (j + 1).toNat default).toNat default).x, AV.int IntKind.i64 (gs.getD (o.getD (j + 1).toNat default).toNat default).y])), (4, 16, .call (AV.int IntKind.i64 (Sp.dist (gs.getD (o.getD j.toNat default).toNat default).x (gs.getD (o.getD j.toNat default).toNat default).y (gs.getD (o.getD (j + 1).toNat default).toNat default).x (gs.getD (o.getD (j + 1).toNat default).toNat default).y)) none), (5, 5, .elem (AV.int IntKind.i64 (o.getD i.toNat default))), (5, 7, .elem (AV.agg [AV.int IntKind.i64 (gs.getD (o.getD i.toNat default).toNat default).x, AV.int IntKind.i64 (gs.getD (o.getD i.toNat default).toNat default).y])), (5, 13, .elem (AV.int IntKind.i64 (o.getD (j + 1).toNat default))), (5, 15, .elem (AV.agg [AV.int IntKind.i64 (gs.getD (o.getD (j + 1).toNat default).toNat default).x, AV.int IntKind.i64 (gs.getD (o.getD (j + 1).toNat default).toNat default).y])), (5, 16, .call (AV.int IntKind.i64 (Sp.dist (gs.getD (o.getD i.toNat default).toNat default).x (gs.getD (o.getD i.toNat default).toNat default).y (gs.getD (o.getD (j + 1).toNat default).toNat default).x (gs.getD (o.getD (j + 1).toNat default).toNat default).y)) none)] []) 1000 [true] (k := ((atC (cd Try.f42) [1, 1, 1, 1, 1])).tail) (env' := [(8, AV.int IntKind.i64 (IntKind.i64.wrap (IntKind.i64.wrap (Sp.dist (gs.getD (o.getD (i - 1).toNat default).toNat default).x (gs.getD (o.getD (i - 1).toNat default).toNat default).y (gs.getD (o.getD i.toNat default).toNat default).x (gs.getD (o.getD i.toNat default).toNat default).y + Sp.dist (gs.getD (o.getD j.toNat default).toNat default).x (gs.getD (o.getD j.toNat default).toNat default).y (gs.getD (o.getD (j + 1).toNat default).toNat default).x (gs.getD (o.getD (j + 1).toNat default).toNat default).y) - IntKind.i64.wrap (Sp.dist (gs.getD (o.getD (i - 1).toNat default).toNat default).x (gs.getD (o.getD (i - 1).toNat default).toNat default).y (gs.getD (o.getD j.toNat default).toNat default).x (gs.getD (o.getD j.toNat default).toNat default).y + Sp.dist (gs.getD (o.getD i.toNat default).toNat default).x (gs.getD (o.getD i.toNat default).toNat default).y (gs.getD (o.getD (j + 1).toNat default).toNat default).x (gs.getD (o.getD (j + 1).toNat default).toNat default).y))))]) (L' := []) (asm := [decide (0 ≤ IntKind.i64.wrap (i - 1)), decide ((IntKind.i64.wrap (i - 1)).toNat < (List.map (AV.int IntKind.i64) o).length), decide (0 ≤ o.getD (i - 1).toNat default), decide ((o.getD (i - 1).toNat default).toNat < (List.map G2.a gs).length), decide (0 ≤ i), decide (i.toNat < (List.map (AV.int IntKind.i64) o).length), decide (0 ≤ o.getD i.toNat default), decide ((o.getD i.toNat default).toNat < (List.map G2.a gs).length), decide (0 ≤ IntKind.i64.wrap (i - 1)), decide ((IntKind.i64.wrap (i - 1)).toNat < (List.map (AV.int IntKind.i64) o).length), decide (0 ≤ o.getD (i - 1).toNat default), decide ((o.getD (i - 1).toNat default).toNat < (List.map G2.a gs).length), decide (0 ≤ j), decide (j.toNat < (List.map (AV.int IntKind.i64) o).length), decide (0 ≤ o.getD j.toNat default), decide ((o.getD j.toNat default).toNat < (List.map G2.a gs).length), (decide (IntKind.i64.wrap (j + 1) < (↑(List.map (AV.int IntKind.i64) o).length : Int))) == true, decide (0 ≤ j), decide (j.toNat < (List.map (AV.int IntKind.i64) o).length), decide (0 ≤ o.getD j.toNat default), decide ((o.getD j.toNat default).toNat < (List.map G2.a gs).length), decide (0 ≤ IntKind.i64.wrap (j + 1)), decide ((IntKind.i64.wrap (j + 1)).toNat < (List.map (AV.int IntKind.i64) o).length), decide (0 ≤ o.getD (j + 1).toNat default), decide ((o.getD (j + 1).toNat default).toNat < (List.map G2.a gs).length), decide (0 ≤ i), decide (i.toNat < (List.map (AV.int IntKind.i64) o).length), decide (0 ≤ o.getD i.toNat default), decide ((o.getD i.toNat default).toNat < (List.map G2.a gs).length), decide (0 ≤ IntKind.i64.wrap (j + 1)), decide ((IntKind.i64.wrap (j + 1)).toNat < (List.map (AV.int IntKind.i64) o).length), decide (0 ≤ o.getD (j + 1).toNat default), decide ((o.getD (j + 1).toNat default).toNat < (List.map G2.a gs).length)]) (eqs := [((List.map (AV.int IntKind.i64) o).get?Internal (IntKind.i64.wrap (i - 1)).toNat = some (AV.int IntKind.i64 (o.getD (i - 1).toNat default))), ((List.map G2.a gs).get?Internal (o.getD (i - 1).toNat default).toNat = some (AV.agg [AV.int IntKind.i64 (gs.getD (o.getD (i - 1).toNat default).toNat default).x, AV.int IntKind.i64 (gs.getD (o.getD (i - 1).toNat default).toNat default).y])), ((List.map (AV.int IntKind.i64) o).get?Internal i.toNat = some (AV.int IntKind.i64 (o.getD i.toNat default))), ((List.map G2.a gs).get?Internal (o.getD i.toNat default).toNat = some (AV.agg [AV.int IntKind.i64 (gs.getD (o.getD i.toNat default).toNat default).x, AV.int IntKind.i64 (gs.getD (o.getD i.toNat default).toNat default).y])), ((List.map (AV.int IntKind.i64) o).get?Internal (IntKind.i64.wrap (i - 1)).toNat = some (AV.int IntKind.i64 (o.getD (i - 1).toNat default))), ((List.map G2.a gs).get?Internal (o.getD (i - 1).toNat default).toNat = some (AV.agg [AV.int IntKind.i64 (gs.getD (o.getD (i - 1).toNat default).toNat default).x, AV.int IntKind.i64 (gs.getD (o.getD (i - 1).toNat default).toNat default).y])), ((List.map (AV.int IntKind.i64) o).get?Internal j.toNat = some (AV.int IntKind.i64 (o.getD j.toNat default))), ((List.map G2.a gs).get?Internal (o.getD j.toNat default).toNat = some (AV.agg [AV.int IntKind.i64 (gs.getD (o.getD j.toNat default).toNat default).x, AV.int IntKind.i64 (gs.getD (o.getD j.toNat default).toNat default).y])), ((List.map (AV.int IntKind.i64) o).get?Internal j.toNat = some (AV.int IntKind.i64 (o.getD j.toNat default))), ((List.map G2.a gs).get?Internal (o.getD j.toNat default).toNat = some (AV.agg [AV.int IntKind.i64 (gs.getD (o.getD j.toNat default).toNat default).x, AV.int IntKind.i64 (gs.getD (o.getD j.toNat default).toNat default).y])), ((List.map (AV.int IntKind.i64) o).get?Internal (IntKind.i64.wrap (j + 1)).toNat = some (AV.int IntKind.i64 (o.getD (j + 1).toNat default))), ((List.map G2.a gs).get?Internal (o.getD (j + 1).toNat default).toNat = some (AV.agg [AV.int IntKind.i64 (gs.getD (o.getD (j + 1).toNat default).toNat default).x, AV.int IntKind.i64 (gs.getD (o.getD (j + 1).toNat default).toNat default).y])), ((List.map (AV.int IntKind.i64) o).get?Internal i.toNat = some (AV.int IntKind.i64 (o.getD i.toNat default))), ((List.map G2.a gs).get?Internal (o.getD i.toNat default).toNat = some (AV.agg [AV.int IntKind.i64 (gs.getD (o.getD i.toNat default).toNat default).x, AV.int IntKind.i64 (gs.getD (o.getD i.toNat default).toNat default).y])), ((List.map (AV.int IntKind.i64) o).get?Internal (IntKind.i64.wrap (j + 1)).toNat = some (AV.int IntKind.i64 (o.getD (j + 1).toNat default))), ((List.map G2.a gs).get?Internal (o.getD (j + 1).toNat default).toNat = some (AV.agg [AV.int IntKind.i64 (gs.getD (o.getD (j + 1).toNat default).toNat default).x, AV.int IntKind.i64 (gs.getD (o.getD (j + 1).toNat default).toNat default).y]))]) (calls := [⟨true, false, 15, [AV.agg [AV.int IntKind.i64 (gs.getD (o.getD (i - 1).toNat default).toNat default).x, AV.int IntKind.i64 (gs.getD (o.getD (i - 1).toNat default).toNat default).y], AV.agg [AV.int IntKind.i64 (gs.getD (o.getD i.toNat default).toNat default).x, AV.int IntKind.i64 (gs.getD (o.getD i.toNat default).toNat default).y]], [], AV.int IntKind.i64 (Sp.dist (gs.getD (o.getD (i - 1).toNat default).toNat default).x (gs.getD (o.getD (i - 1).toNat default).toNat default).y (gs.getD (o.getD i.toNat default).toNat default).x (gs.getD (o.getD i.toNat default).toNat default).y), []⟩, ⟨true, false, 15, [AV.agg [AV.int IntKind.i64 (gs.getD (o.getD (i - 1).toNat default).toNat default).x, AV.int IntKind.i64 (gs.getD (o.getD (i - 1).toNat default).toNat default).y], AV.agg [AV.int IntKind.i64 (gs.getD (o.getD j.toNat default).toNat default).x, AV.int IntKind.i64 (gs.getD (o.getD j.toNat default).toNat default).y]], [], AV.int IntKind.i64 (Sp.dist (gs.getD (o.getD (i - 1).toNat default).toNat default).x (gs.getD (o.getD (i - 1).toNat default).toNat default).y (gs.getD (o.getD j.toNat default).toNat default).x (gs.getD (o.getD j.toNat default).toNat default).y), []⟩, ⟨true, false, 15, [AV.agg [AV.int IntKind.i64 (gs.getD (o.getD j.toNat default).toNat default).x, AV.int IntKind.i64 (gs.getD (o.getD j.toNat default).toNat default).y], AV.agg [AV.int IntKind.i64 (gs.getD (o.getD (j + 1).toNat default).toNat default).x, AV.int IntKind.i64 (gs.getD (o.getD (j + 1).toNat default).toNat default).y]], [], AV.int IntKind.i64 (Sp.dist (gs.getD (o.getD j.toNat default).toNat default).x (gs.getD (o.getD j.toNat default).toNat default).y (gs.getD (o.getD (j + 1).toNat default).toNat default).x (gs.getD (o.getD (j + 1).toNat default).toNat default).y), []⟩, ⟨true, false, 15, [AV.agg [AV.int IntKind.i64 (gs.getD (o.getD i.toNat default).toNat default).x, AV.int IntKind.i64 (gs.getD (o.getD i.toNat default).toNat default).y], AV.agg [AV.int IntKind.i64 (gs.getD (o.getD (j + 1).toNat default).toNat default).x, AV.int IntKind.i64 (gs.getD (o.getD (j + 1).toNat default).toNat default).y]], [], AV.int IntKind.i64 (Sp.dist (gs.getD (o.getD i.toNat default).toNat default).x (gs.getD (o.getD i.toNat default).toNat default).y (gs.getD (o.getD (j + 1).toNat default).toNat default).x (gs.getD (o.getD (j + 1).toNat default).toNat default).y), []⟩]) (AV.int IntKind.i64 (IntKind.i64.wrap (IntKind.i64.wrap (Sp.dist (gs.getD (o.getD (i - 1).toNat default).toNat default).x (gs.getD (o.getD (i - 1).toNat default).toNat default).y (gs.getD (o.getD i.toNat default).toNat default).x (gs.getD (o.getD i.toNat default).toNat default).y + Sp.dist (gs.getD (o.getD j.toNat default).toNat default).x (gs.getD (o.getD j.toNat default).toNat default).y (gs.getD (o.getD (j + 1).toNat default).toNat default).x (gs.getD (o.getD (j + 1).toNat default).toNat default).y) - IntKind.i64.wrap (Sp.dist (gs.getD (o.getD (i - 1).toNat default).toNat default).x (gs.getD (o.getD (i - 1).toNat default).toNat default).y (gs.getD (o.getD j.toNat default).toNat default).x (gs.getD (o.getD j.toNat default).toNat default).y + Sp.dist (gs.getD (o.getD i.toNat default).toNat default).x (gs.getD (o.getD i.toNat default).toNat default).y (gs.getD (o.getD (j + 1).toNat default).toNat default).x (gs.getD (o.getD (j + 1).toNat default).toNat default).y)))) (by kernel_rfl) (by kernel_rfl) (allB_cons (i4.2 k5) (allB_cons (i7.2 k8) (allB_cons (i9.2 k10) (allB_cons (i12.2 k13) (allB_cons (i14.2 k15) (allB_cons (i16.2 k17) (allB_cons (i18.2 k19) (allB_cons (i20.2 k21) (allB_cons (i23.2 k5) (allB_cons (i24.2 k8) (allB_cons (i25.2 k10) (allB_cons (i26.2 k13) (allB_cons (i27.2 k28) (allB_cons (i29.2 k30) (allB_cons (i31.2 k32) (allB_cons (i33.2 k34) (allB_cons (beq_t (i37.2 d38)) (allB_cons (i40.2 k28) (allB_cons (i41.2 k30) (allB_cons (i42.2 k32) (allB_cons (i43.2 k34) (allB_cons (i44.2 k45) (allB_cons (i46.2 k47) (allB_cons (i48.2 k49) (allB_cons (i50.2 k51) (allB_cons (i55.2 k15) (allB_cons (i56.2 k17) (allB_cons (i57.2 k19) (allB_cons (i58.2 k21) (allB_cons (i59.2 k45) (allB_cons (i60.2 k47) (allB_cons (i61.2 k49) (allB_cons (i62.2 k51) allB_nil))))))))))))))))))))))))))))))))) (allP_cons (by rw [w2] <;> exact (el_map k8)) (allP_cons (el_map k13) (allP_cons (el_map k17) (allP_cons (el_map k21) (allP_cons (by rw [w2] <;> exact (el_map k8)) (allP_cons (el_map k13) (allP_cons (el_map k30) (allP_cons (el_map k34) (allP_cons (el_map k30) (allP_cons (el_map k34) (allP_cons (by rw [w36] <;> exact (el_map k47)) (allP_cons (el_map k51) (allP_cons (el_map k17) (allP_cons (el_map k21) (allP_cons (by rw [w36] <;> exact (el_map k47)) (allP_cons (el_map k51) allP_nil)))))))))))))))) (allC_cons (fun _ => ((@ev15 ((gs.getD (o.getD (i - 1).toNat default).toNat default).x) ((gs.getD (o.getD (i - 1).toNat default).toNat default).y) ((gs.getD (o.getD i.toNat default).toNat default).x) ((gs.getD (o.getD i.toNat default).toNat default).y) k3) : Ev M1 (Conf.pure 15 [AV.agg [AV.int IntKind.i64 (gs.getD (o.getD (i - 1).toNat default).toNat default).x, AV.int IntKind.i64 (gs.getD (o.getD (i - 1).toNat default).toNat default).y], AV.agg [AV.int IntKind.i64 (gs.getD (o.getD i.toNat default).toNat default).x, AV.int IntKind.i64 (gs.getD (o.getD i.toNat default).toNat default).y]]) (AV.int IntKind.i64 (Sp.dist (gs.getD (o.getD (i - 1).toNat default).toNat default).x (gs.getD (o.getD (i - 1).toNat default).toNat default).y (gs.getD (o.getD i.toNat default).toNat default).x (gs.getD (o.getD i.toNat default).toNat default).y)) [])) (allC_cons (fun _ => ((@ev15 ((gs.getD (o.getD (i - 1).toNat default).toNat default).x) ((gs.getD (o.getD (i - 1).toNat default).toNat default).y) ((gs.getD (o.getD j.toNat default).toNat default).x) ((gs.getD (o.getD j.toNat default).toNat default).y) k22) : Ev M1 (Conf.pure 15 [AV.agg [AV.int IntKind.i64 (gs.getD (o.getD (i - 1).toNat default).toNat default).x, AV.int IntKind.i64 (gs.getD (o.getD (i - 1).toNat default).toNat default).y], AV.agg [AV.int IntKind.i64 (gs.getD (o.getD j.toNat default).toNat default).x, AV.int IntKind.i64 (gs.getD (o.getD j.toNat default).toNat default).y]]) (AV.int IntKind.i64 (Sp.dist (gs.getD (o.getD (i - 1).toNat default).toNat default).x (gs.getD (o.getD (i - 1).toNat default).toNat default).y (gs.getD (o.getD j.toNat default).toNat default).x (gs.getD (o.getD j.toNat default).toNat default).y)) [])) (allC_cons (fun _ => ((@ev15 ((gs.getD (o.getD j.toNat default).toNat default).x) ((gs.getD (o.getD j.toNat default).toNat default).y) ((gs.getD (o.getD (j + 1).toNat default).toNat default).x) ((gs.getD (o.getD (j + 1).toNat default).toNat default).y) k39) : Ev M1 (Conf.pure 15 [AV.agg [AV.int IntKind.i64 (gs.getD (o.getD j.toNat default).toNat default).x, AV.int IntKind.i64 (gs.getD (o.getD j.toNat default).toNat default).y], AV.agg [AV.int IntKind.i64 (gs.getD (o.getD (j + 1).toNat default).toNat default).x, AV.int IntKind.i64 (gs.getD (o.getD (j + 1).toNat default).toNat default).y]]) (AV.int IntKind.i64 (Sp.dist (gs.getD (o.getD j.toNat default).toNat default).x (gs.getD (o.getD j.toNat default).toNat default).y (gs.getD (o.getD (j + 1).toNat default).toNat default).x (gs.getD (o.getD (j + 1).toNat default).toNat default).y)) [])) (allC_cons (fun _ => ((@ev15 ((gs.getD (o.getD i.toNat default).toNat default).x) ((gs.getD (o.getD i.toNat default).toNat default).y) ((gs.getD (o.getD (j + 1).toNat default).toNat default).x) ((gs.getD (o.getD (j + 1).toNat default).toNat default).y) k54) : Ev M1 (Conf.pure 15 [AV.agg [AV.int IntKind.i64 (gs.getD (o.getD i.toNat default).toNat default).x, AV.int IntKind.i64 (gs.getD (o.getD i.toNat default).toNat default).y], AV.agg [AV.int IntKind.i64 (gs.getD (o.getD (j + 1).toNat default).toNat default).x, AV.int IntKind.i64 (gs.getD (o.getD (j + 1).toNat default).toNat default).y]]) (AV.int IntKind.i64 (Sp.dist (gs.getD (o.getD i.toNat default).toNat default).x (gs.getD (o.getD i.toNat default).toNat default).y (gs.getD (o.getD (j + 1).toNat default).toNat default).x (gs.getD (o.getD (j + 1).toNat default).toNat default).y)) [])) allC_nil)))) (pq_of (d := AV.int IntKind.i64 (IntKind.i64.wrap (IntKind.i64.wrap (Sp.dist (gs.getD (o.getD (i - 1).toNat default).toNat default).x (gs.getD (o.getD (i - 1).toNat default).toNat default).y (gs.getD (o.getD i.toNat default).toNat default).x (gs.getD (o.getD i.toNat default).toNat default).y + Sp.dist (gs.getD (o.getD j.toNat default).toNat default).x (gs.getD (o.getD j.toNat default).toNat default).y (gs.getD (o.getD (j + 1).toNat default).toNat default).x (gs.getD (o.getD (j + 1).toNat default).toNat default).y) - IntKind.i64.wrap (Sp.dist (gs.getD (o.getD (i - 1).toNat default).toNat default).x (gs.getD (o.getD (i - 1).toNat default).toNat default).y (gs.getD (o.getD j.toNat default).toNat default).x (gs.getD (o.getD j.toNat default).toNat default).y + Sp.dist (gs.getD (o.getD i.toNat default).toNat default).x (gs.getD (o.getD i.toNat default).toNat default).y (gs.getD (o.getD (j + 1).toNat default).toNat default).x (gs.getD (o.getD (j + 1).toNat default).toNat default).y)))) (bs := []) (by kernel_rfl) (by kernel_rfl) allB_nil (by kernel_rfl) (by rw [w53, w64, w66] <;> exact H))
  · have H := H.2 d38
    have k67 := H.1; have H := H.2
    have w68 : IntKind.i64.wrap (Sp.dist (gs.getD (o.getD (i - 1).toNat default).toNat default).x (gs.getD (o.getD (i - 1).toNat default).toNat default).y (gs.getD (o.getD i.toNat default).toNat default).x (gs.getD (o.getD i.toNat default).toNat default).y - Sp.dist (gs.getD (o.getD (i - 1).toNat default).toNat default).x (gs.getD (o.getD (i - 1).toNat default).toNat default).y (gs.getD (o.getD j.toNat default).toNat default).x (gs.getD (o.getD j.toNat default).toNat default).y) = Sp.dist (gs.getD (o.getD (i - 1).toNat default).toNat default).x (gs.getD (o.getD (i - 1).toNat default).toNat default).y (gs.getD (o.getD i.toNat default).toNat default).x (gs.getD (o.getD i.toNat default).toNat default).y - Sp.dist (gs.getD (o.getD (i - 1).toNat default).toNat default).x (gs.getD (o.getD (i - 1).toNat default).toNat default).y (gs.getD (o.getD j.toNat default).toNat default).x (gs.getD (o.getD j.toNat default).toNat default).y := wI64 k67
    exact path_ret (G := given kp42 [(1, 5, .elem (AV.int IntKind.i64 (o.getD (i - 1).toNat default))), (1, 7, .elem (AV.agg [AV.int IntKind.i64 (gs.getD (o.getD (i - 1).toNat default).toNat default).x, AV.int IntKind.i64 (gs.getD (o.getD (i - 1).toNat default).toNat default).y])), (1, 12, .elem (AV.int IntKind.i64 (o.getD i.toNat default))), (1, 14, .elem (AV.agg [AV.int IntKind.i64 (gs.getD (o.getD i.toNat default).toNat default).x, AV.int IntKind.i64 (gs.getD (o.getD i.toNat default).toNat default).y])), (1, 15, .call (AV.int IntKind.i64 (Sp.dist (gs.getD (o.getD (i - 1).toNat default).toNat default).x (gs.getD (o.getD (i - 1).toNat default).toNat default).y (gs.getD (o.getD i.toNat default).toNat default).x (gs.getD (o.getD i.toNat default).toNat default).y)) none), (2, 5, .elem (AV.int IntKind.i64 (o.getD (i - 1).toNat default))), (2, 7, .elem (AV.agg [AV.int IntKind.i64 (gs.getD (o.getD (i - 1).toNat default).toNat default).x, AV.int IntKind.i64 (gs.getD (o.getD (i - 1).toNat default).toNat default).y])), (2, 12, .elem (AV.int IntKind.i64 (o.getD j.toNat default))), (2, 14, .elem (AV.agg [AV.int IntKind.i64 (gs.getD (o.getD j.toNat default).toNat default).x, AV.int IntKind.i64 (gs.getD (o.getD j.toNat default).toNat default).y])), (2, 15, .call (AV.int IntKind.i64 (Sp.dist (gs.getD (o.getD (i - 1).toNat default).toNat default).x (gs.getD (o.getD (i - 1).toNat default).toNat default).y (gs.getD (o.getD j.toNat default).toNat default).x (gs.getD (o.getD j.toNat default).toNat default).y)) none)] []) 1000 [false] (k := ((atC (cd Try.f42) [1, 1, 1, 1, 1])).tail) (env' := [(8, AV.int IntKind.i64 (IntKind.i64.wrap (Sp.dist (gs.getD (o.getD (i - 1).toNat default).toNat default).x (gs.getD (o.getD (i - 1).toNat default).toNat default).y (gs.getD (o.getD i.toNat default).toNat default).x (gs.getD (o.getD i.toNat default).toNat default).y - Sp.dist (gs.getD (o.getD (i - 1).toNat default).toNat default).x (gs.getD (o.getD (i - 1).toNat default).toNat default).y (gs.getD (o.getD j.toNat default).toNat default).x (gs.getD (o.getD j.toNat default).toNat default).y)))]) (L' := []) (asm := [decide (0 ≤ IntKind.i64.wrap (i - 1)), decide ((IntKind.i64.wrap (i - 1)).toNat < (List.map (AV.int IntKind.i64) o).length), decide (0 ≤ o.getD (i - 1).toNat default), decide ((o.getD (i - 1).toNat default).toNat < (List.map G2.a gs).length), decide (0 ≤ i), decide (i.toNat < (List.map (AV.int IntKind.i64) o).length), decide (0 ≤ o.getD i.toNat default), decide ((o.getD i.toNat default).toNat < (List.map G2.a gs).length), decide (0 ≤ IntKind.i64.wrap (i - 1)), decide ((IntKind.i64.wrap (i - 1)).toNat < (List.map (AV.int IntKind.i64) o).length), decide (0 ≤ o.getD (i - 1).toNat default), decide ((o.getD (i - 1).toNat default).toNat < (List.map G2.a gs).length), decide (0 ≤ j), decide (j.toNat < (List.map (AV.int IntKind.i64) o).length), decide (0 ≤ o.getD j.toNat default), decide ((o.getD j.toNat default).toNat < (List.map G2.a gs).length), (decide (IntKind.i64.wrap (j + 1) < (↑(List.map (AV.int IntKind.i64) o).length : Int))) == false]) (eqs := [((List.map (AV.int IntKind.i64) o).get?Internal (IntKind.i64.wrap (i - 1)).toNat = some (AV.int IntKind.i64 (o.getD (i - 1).toNat default))), ((List.map G2.a gs).get?Internal (o.getD (i - 1).toNat default).toNat = some (AV.agg [AV.int IntKind.i64 (gs.getD (o.getD (i - 1).toNat default).toNat default).x, AV.int IntKind.i64 (gs.getD (o.getD (i - 1).toNat default).toNat default).y])), ((List.map (AV.int IntKind.i64) o).get?Internal i.toNat = some (AV.int IntKind.i64 (o.getD i.toNat default))), ((List.map G2.a gs).get?Internal (o.getD i.toNat default).toNat = some (AV.agg [AV.int IntKind.i64 (gs.getD (o.getD i.toNat default).toNat default).x, AV.int IntKind.i64 (gs.getD (o.getD i.toNat default).toNat default).y])), ((List.map (AV.int IntKind.i64) o).get?Internal (IntKind.i64.wrap (i - 1)).toNat = some (AV.int IntKind.i64 (o.getD (i - 1).toNat default))), ((List.map G2.a gs).get?Internal (o.getD (i - 1).toNat default).toNat = some (AV.agg [AV.int IntKind.i64 (gs.getD (o.getD (i - 1).toNat default).toNat default).x, AV.int IntKind.i64 (gs.getD (o.getD (i - 1).toNat default).toNat default).y])), ((List.map (AV.int IntKind.i64) o).get?Internal j.toNat = some (AV.int IntKind.i64 (o.getD j.toNat default))), ((List.map G2.a gs).get?Internal (o.getD j.toNat default).toNat = some (AV.agg [AV.int IntKind.i64 (gs.getD (o.getD j.toNat default).toNat default).x, AV.int IntKind.i64 (gs.getD (o.getD j.toNat default).toNat default).y]))]) (calls := [⟨true, false, 15, [AV.agg [AV.int IntKind.i64 (gs.getD (o.getD (i - 1).toNat default).toNat default).x, AV.int IntKind.i64 (gs.getD (o.getD (i - 1).toNat default).toNat default).y], AV.agg [AV.int IntKind.i64 (gs.getD (o.getD i.toNat default).toNat default).x, AV.int IntKind.i64 (gs.getD (o.getD i.toNat default).toNat default).y]], [], AV.int IntKind.i64 (Sp.dist (gs.getD (o.getD (i - 1).toNat default).toNat default).x (gs.getD (o.getD (i - 1).toNat default).toNat default).y (gs.getD (o.getD i.toNat default).toNat default).x (gs.getD (o.getD i.toNat default).toNat default).y), []⟩, ⟨true, false, 15, [AV.agg [AV.int IntKind.i64 (gs.getD (o.getD (i - 1).toNat default).toNat default).x, AV.int IntKind.i64 (gs.getD (o.getD (i - 1).toNat default).toNat default).y], AV.agg [AV.int IntKind.i64 (gs.getD (o.getD j.toNat default).toNat default).x, AV.int IntKind.i64 (gs.getD (o.getD j.toNat default).toNat default).y]], [], AV.int IntKind.i64 (Sp.dist (gs.getD (o.getD (i - 1).toNat default).toNat default).x (gs.getD (o.getD (i - 1).toNat default).toNat default).y (gs.getD (o.getD j.toNat default).toNat default).x (gs.getD (o.getD j.toNat default).toNat default).y), []⟩]) (AV.int IntKind.i64 (IntKind.i64.wrap (Sp.dist (gs.getD (o.getD (i - 1).toNat default).toNat default).x (gs.getD (o.getD (i - 1).toNat default).toNat default).y (gs.getD (o.getD i.toNat default).toNat default).x (gs.getD (o.getD i.toNat default).toNat default).y - Sp.dist (gs.getD (o.getD (i - 1).toNat default).toNat default).x (gs.getD (o.getD (i - 1).toNat default).toNat default).y (gs.getD (o.getD j.toNat default).toNat default).x (gs.getD (o.getD j.toNat default).toNat default).y))) (by kernel_rfl) (by kernel_rfl) (allB_cons (i4.2 k5) (allB_cons (i7.2 k8) (allB_cons (i9.2 k10) (allB_cons (i12.2 k13) (allB_cons (i14.2 k15) (allB_cons (i16.2 k17) (allB_cons (i18.2 k19) (allB_cons (i20.2 k21) (allB_cons (i23.2 k5) (allB_cons (i24.2 k8) (allB_cons (i25.2 k10) (allB_cons (i26.2 k13) (allB_cons (i27.2 k28) (allB_cons (i29.2 k30) (allB_cons (i31.2 k32) (allB_cons (i33.2 k34) (allB_cons (beq_f (fun h => d38 (i37.1 h))) allB_nil))))))))))))))))) (allP_cons (by rw [w2] <;> exact (el_map k8)) (allP_cons (el_map k13) (allP_cons (el_map k17) (allP_cons (el_map k21) (allP_cons (by rw [w2] <;> exact (el_map k8)) (allP_cons (el_map k13) (allP_cons (el_map k30) (allP_cons (el_map k34) allP_nil)))))))) (allC_cons (fun _ => ((@ev15 ((gs.getD (o.getD (i - 1).toNat default).toNat default).x) ((gs.getD (o.getD (i - 1).toNat default).toNat default).y) ((gs.getD (o.getD i.toNat default).toNat default).x) ((gs.getD (o.getD i.toNat default).toNat default).y) k3) : Ev M1 (Conf.pure 15 [AV.agg [AV.int IntKind.i64 (gs.getD (o.getD (i - 1).toNat default).toNat default).x, AV.int IntKind.i64 (gs.getD (o.getD (i - 1).toNat default).toNat default).y], AV.agg [AV.int IntKind.i64 (gs.getD (o.getD i.toNat default).toNat default).x, AV.int IntKind.i64 (gs.getD (o.getD i.toNat default).toNat default).y]]) (AV.int IntKind.i64 (Sp.dist (gs.getD (o.getD (i - 1).toNat default).toNat default).x (gs.getD (o.getD (i - 1).toNat default).toNat default).y (gs.getD (o.getD i.toNat default).toNat default).x (gs.getD (o.getD i.toNat default).toNat default).y)) [])) (allC_cons (fun _ => ((@ev15 ((gs.getD (o.getD (i - 1).toNat default).toNat default).x) ((gs.getD (o.getD (i - 1).toNat default).toNat default).y) ((gs.getD (o.getD j.toNat default).toNat default).x) ((gs.getD (o.getD j.toNat default).toNat default).y) k22) : Ev M1 (Conf.pure 15 [AV.agg [AV.int IntKind.i64 (gs.getD (o.getD (i - 1).toNat default).toNat default).x, AV.int IntKind.i64 (gs.getD (o.getD (i - 1).toNat default).toNat default).y], AV.agg [AV.int IntKind.i64 (gs.getD (o.getD j.toNat default).toNat default).x, AV.int IntKind.i64 (gs.getD (o.getD j.toNat default).toNat default).y]]) (AV.int IntKind.i64 (Sp.dist (gs.getD (o.getD (i - 1).toNat default).toNat default).x (gs.getD (o.getD (i - 1).toNat default).toNat default).y (gs.getD (o.getD j.toNat default).toNat default).x (gs.getD (o.getD j.toNat default).toNat default).y)) [])) allC_nil)) (pq_of (d := AV.int IntKind.i64 (IntKind.i64.wrap (Sp.dist (gs.getD (o.getD (i - 1).toNat default).toNat default).x (gs.getD (o.getD (i - 1).toNat default).toNat default).y (gs.getD (o.getD i.toNat default).toNat default).x (gs.getD (o.getD i.toNat default).toNat default).y - Sp.dist (gs.getD (o.getD (i - 1).toNat default).toNat default).x (gs.getD (o.getD (i - 1).toNat default).toNat default).y (gs.getD (o.getD j.toNat default).toNat default).x (gs.getD (o.getD j.toNat default).toNat default).y))) (bs := []) (by kernel_rfl) (by kernel_rfl) allB_nil (by kernel_rfl) (by rw [w68] <;> exact H))

theorem v43 (o : List Int) (v lo len : Nat)  (Q : AV → Heap → Prop) (H :
    (-9223372036854775808 ≤ (↑len : Int) - 1 ∧ (↑len : Int) - 1 ≤ 9223372036854775807) ∧
    v43a_at (o) (v) (lo) (len) (0) ((↑len : Int) - 1) Q) :
  v43_at o v lo len Q := by
  unfold v43_at
  have k1 := H.1; have H := H.2
  have w2 : IntKind.i64.wrap ((↑len : Int) - 1) = (↑len : Int) - 1 := wI64 k1
  exact path_wp (G := given kp43 [] []) 1000 [] ⟨(atC (cd Try.f43) [1, 0, 0]), [(0, AV.ref 0 v lo len), (2, AV.int IntKind.i64 0), (3, AV.int IntKind.i64 (IntKind.i64.wrap ((↑len : Int) - 1)))], [{ elems := List.map (AV.int IntKind.i64) o, es := 1, ver := v, frozen := false, clean := true }], [v == v], [], []⟩ (by kernel_rfl) (allB_cons (beq_self_eq_true _) allB_nil) allP_nil allC_nil (by rw [w2] <;> exact H)

theorem v43a (o : List Int) (v lo len : Nat) (i j : Int)  (Q : AV → Heap → Prop) (H :
    ((i < j) → (0 ≤ j) ∧
      (j.toNat < len) ∧
      (0 ≤ i) ∧
      (i.toNat < len) ∧
      (lo + j.toNat < o.length) ∧
      (lo + i.toNat < o.length) ∧
      (lo + j.toNat < (o.set (lo + i.toNat) (o.getD (lo + j.toNat) default)).length) ∧
      (-9223372036854775808 ≤ i + 1 ∧ i + 1 ≤ 9223372036854775807) ∧
      (-9223372036854775808 ≤ j - 1 ∧ j - 1 ≤ 9223372036854775807) ∧
      v43a_at ((o.set (lo + i.toNat) (o.getD (lo + j.toNat) default)).set (lo + j.toNat) (o.getD (lo + i.toNat) default)) (v) (lo) (len) (i + 1) (j - 1) Q) ∧
    (¬(i < j) → Q (AV.tup []) [{ elems := List.map (AV.int IntKind.i64) o, es := 1, ver := v, frozen := false, clean := true }])) :
  v43a_at o v lo len i j Q := by
  unfold v43a_at
  have i1 : (decide (i < j)) = true ↔ (i < j) := i_dec
  rcases Classical.em (i < j) with d2 | d2
  · have H := H.1 d2
    have w3 : (List.map (AV.int IntKind.i64) o).set (lo + i.toNat) (AV.int IntKind.i64 (o.getD (lo + j.toNat) default)) = List.map (AV.int IntKind.i64) (o.set (lo + i.toNat) (o.getD (lo + j.toNat) default)) := (lm_set rfl rfl)
    have i4 : (decide (0 ≤ j)) = true ↔ (0 ≤ j) := i_dec
    have k5 := H.1; have H := H.2
    have i6 : (decide (j.toNat < len)) = true ↔ (j.toNat < len) := i_dec
    have k7 := H.1; have H := H.2
    have i8 : (decide (0 ≤ i)) = true ↔ (0 ≤ i) := i_dec
    have k9 := H.1; have H := H.2
    have i10 : (decide (i.toNat < len)) = true ↔ (i.toNat < len) := i_dec
    have k11 := H.1; have H := H.2
    have i12 : (decide (0 ≤ i)) = true ↔ (0 ≤ i) := i_dec
    have i13 : (decide (i.toNat < len)) = true ↔ (i.toNat < len) := i_dec
    have i14 : (decide (0 ≤ j)) = true ↔ (0 ≤ j) := i_dec
    have i15 : (decide (j.toNat < len)) = true ↔ (j.toNat < len) := i_dec
    have k16 := H.1; have H := H.2
    have k17 := H.1; have H := H.2
    have k18 := H.1; have H := H.2
    have w19 : (List.map (AV.int IntKind.i64) (o.set (lo + i.toNat) (o.getD (lo + j.toNat) default))).set (lo + j.toNat) (AV.int IntKind.i64 (o.getD (lo + i.toNat) default)) = List.map (AV.int IntKind.i64) ((o.set (lo + i.toNat) (o.getD (lo + j.toNat) default)).set (lo + j.toNat) (o.getD (lo + i.toNat) default)) := (lm_set rfl rfl)
    have k20 := H.1; have H := H.2
    have w21 : IntKind.i64.wrap (i + 1) = i + 1 := wI64 k20
    have k22 := H.1; have H := H.2
    have w23 : IntKind.i64.wrap (j - 1) = j - 1 := wI64 k22
    exact path_wp (G := given kp43 [(3, 7, .elem (AV.int IntKind.i64 (o.getD (lo + j.toNat) default))), (3, 11, .elem (AV.int IntKind.i64 (o.getD (lo + i.toNat) default))), (3, 13, .elem (AV.int IntKind.i64 (o.getD (lo + i.toNat) default))), (3, 15, .elem (AV.int IntKind.i64 ((o.set (lo + i.toNat) (o.getD (lo + j.toNat) default)).getD (lo + j.toNat) default)))] []) 1000 [true] ⟨(atC (cd Try.f43) [1, 0, 0]), [(0, AV.ref 0 v lo len), (2, AV.int IntKind.i64 (IntKind.i64.wrap (i + 1))), (3, AV.int IntKind.i64 (IntKind.i64.wrap (j - 1)))], [{ elems := ((List.map (AV.int IntKind.i64) o).set (lo + i.toNat) (AV.int IntKind.i64 (o.getD (lo + j.toNat) default))).set (lo + j.toNat) (AV.int IntKind.i64 (o.getD (lo + i.toNat) default)), es := 1, ver := v, frozen := false, clean := true }], [(decide (i < j)) == true, v == v, decide (0 ≤ j), decide (j.toNat < len), v == v, v == v, decide (0 ≤ i), decide (i.toNat < len), v == v, v == v, decide (0 ≤ i), decide (i.toNat < len), v == v, v == v, decide (0 ≤ j), decide (j.toNat < len), v == v], [((List.map (AV.int IntKind.i64) o).get?Internal (lo + j.toNat) = some (AV.int IntKind.i64 (o.getD (lo + j.toNat) default))), ((List.map (AV.int IntKind.i64) o).get?Internal (lo + i.toNat) = some (AV.int IntKind.i64 (o.getD (lo + i.toNat) default))), ((List.map (AV.int IntKind.i64) o).get?Internal (lo + i.toNat) = some (AV.int IntKind.i64 (o.getD (lo + i.toNat) default))), (((List.map (AV.int IntKind.i64) o).set (lo + i.toNat) (AV.int IntKind.i64 (o.getD (lo + j.toNat) default))).get?Internal (lo + j.toNat) = some (AV.int IntKind.i64 ((o.set (lo + i.toNat) (o.getD (lo + j.toNat) default)).getD (lo + j.toNat) default)))], []⟩ (by kernel_rfl) (allB_cons (beq_t (i1.2 d2)) (allB_cons (beq_self_eq_true _) (allB_cons (i4.2 k5) (allB_cons (i6.2 k7) (allB_cons (beq_self_eq_true _) (allB_cons (beq_self_eq_true _) (allB_cons (i8.2 k9) (allB_cons (i10.2 k11) (allB_cons (beq_self_eq_true _) (allB_cons (beq_self_eq_true _) (allB_cons (i12.2 k9) (allB_cons (i13.2 k11) (allB_cons (beq_self_eq_true _) (allB_cons (beq_self_eq_true _) (allB_cons (i14.2 k5) (allB_cons (i15.2 k7) (allB_cons (beq_self_eq_true _) allB_nil))))))))))))))))) (allP_cons (el_map k16) (allP_cons (el_map k17) (allP_cons (el_map k17) (allP_cons (by rw [w3] <;> exact (el_map k18)) allP_nil)))) allC_nil (by rw [w3, w19, w21, w23] <;> exact H)
  · have H := H.2 d2
    exact path_end (G := given kp43 [] []) 1000 [false] (env' := [(0, AV.ref 0 v lo len), (2, AV.int IntKind.i64 i), (3, AV.int IntKind.i64 j), (9, AV.bool (decide (i < j)))]) (L' := [{ elems := List.map (AV.int IntKind.i64) o, es := 1, ver := v, frozen := false, clean := true }]) (asm := [(decide (i < j)) == false]) (eqs := []) (calls := []) (AV.tup []) (by kernel_rfl) (by kernel_rfl) (allB_cons (beq_f (fun h => d2 (i1.1 h))) allB_nil) allP_nil allC_nil H

theorem v44 (fm : Bool) (y : Int) (o : List Int) (i j : Int)  (dq : AV) (H :
    ((0 + (o.length + 1)) * 8 ≤ 1099511627776) ∧
    Wp M1 (.run fi44 (atC (cd Try.f44) [1, 1, 0, 0, 0]) [(1, AV.int IntKind.i64 i), (2, AV.int IntKind.i64 j), (7, AV.row 0 0)] [{ elems := AV.int IntKind.i64 y :: List.map (AV.int IntKind.i64) o, es := 1, ver := 0, frozen := false, clean := true }]) (PureQ dq)) :
  v44_at fm y o i j (PureQ dq) := by
  unfold v44_at
  have w1 : (List.map (AV.int IntKind.i64) o).length = o.length := List.length_map ..
  have i2 : (decide ((0 + ((List.map (AV.int IntKind.i64) o).length + 1)) * 8 ≤ 1099511627776)) = true ↔ ((0 + (o.length + 1)) * 8 ≤ 1099511627776) := (by rw [w1] <;> exact i_dec)
  have k3 := H.1; have H := H.2
  exact path_wp (G := given kp44 [] []) 1000 [] ⟨(atC (cd Try.f44) [1, 1, 0, 0, 0]), [(1, AV.int IntKind.i64 i), (2, AV.int IntKind.i64 j), (7, AV.row 0 0)], [{ elems := AV.int IntKind.i64 y :: List.map (AV.int IntKind.i64) o, es := 1, ver := 0, frozen := false, clean := true }], [decide ((0 + ((List.map (AV.int IntKind.i64) o).length + 1)) * 8 ≤ 1099511627776)], [], []⟩ (by kernel_rfl) (allB_cons (i2.2 k3) allB_nil) allP_nil allC_nil (H)

theorem v44a (o : List Int) (v : Nat) (i j : Int)  (dq : AV) (H :
    ((i < j) → (0 ≤ j) ∧
      (j.toNat < o.length) ∧
      (0 ≤ i) ∧
      (i.toNat < o.length) ∧
      (j.toNat < (o.set i.toNat (o.getD j.toNat default)).length) ∧
      (-9223372036854775808 ≤ i + 1 ∧ i + 1 ≤ 9223372036854775807) ∧
      (-9223372036854775808 ≤ j - 1 ∧ j - 1 ≤ 9223372036854775807) ∧
      v44a_at ((o.set i.toNat (o.getD j.toNat default)).set j.toNat (o.getD i.toNat default)) (v) (i + 1) (j - 1) (PureQ dq)) ∧
    (¬(i < j) → Weak (AV.vec false 1 (List.map (AV.int IntKind.i64) o)) dq)) :
  v44a_at o v i j (PureQ dq) := by
  unfold v44a_at
  have i1 : (decide (i < j)) = true ↔ (i < j) := i_dec
  rcases Classical.em (i < j) with d2 | d2
  · have H := H.1 d2
    have w3 : (List.map (AV.int IntKind.i64) o).set i.toNat (AV.int IntKind.i64 (o.getD j.toNat default)) = List.map (AV.int IntKind.i64) (o.set i.toNat (o.getD j.toNat default)) := (lm_set rfl rfl)
    have i4 : (decide (0 ≤ j)) = true ↔ (0 ≤ j) := i_dec
    have k5 := H.1; have H := H.2
    have w6 : (List.map (AV.int IntKind.i64) o).length = o.length := List.length_map ..
    have i7 : (decide (j.toNat < (List.map (AV.int IntKind.i64) o).length)) = true ↔ (j.toNat < o.length) := (by rw [w6] <;> exact i_dec)
    have k8 := H.1; have H := H.2
    have i9 : (decide (0 ≤ i)) = true ↔ (0 ≤ i) := i_dec
    have k10 := H.1; have H := H.2
    have i11 : (decide (i.toNat < (List.map (AV.int IntKind.i64) o).length)) = true ↔ (i.toNat < o.length) := (by rw [w6] <;> exact i_dec)
    have k12 := H.1; have H := H.2
    have i13 : (decide (0 ≤ i)) = true ↔ (0 ≤ i) := i_dec
    have i14 : (decide (i.toNat < (List.map (AV.int IntKind.i64) o).length)) = true ↔ (i.toNat < o.length) := (by rw [w6] <;> exact i_dec)
    have i15 : (decide (0 ≤ j)) = true ↔ (0 ≤ j) := i_dec
    have w16 : (List.map (AV.int IntKind.i64) (o.set i.toNat (o.getD j.toNat default))).length = (o.set i.toNat (o.getD j.toNat default)).length := List.length_map ..
    have i17 : (decide (j.toNat < ((List.map (AV.int IntKind.i64) o).set i.toNat (AV.int IntKind.i64 (o.getD j.toNat default))).length)) = true ↔ (j.toNat < (o.set i.toNat (o.getD j.toNat default)).length) := (by rw [w3, w16] <;> exact i_dec)
    have k18 := H.1; have H := H.2
    have w19 : (List.map (AV.int IntKind.i64) (o.set i.toNat (o.getD j.toNat default))).set j.toNat (AV.int IntKind.i64 (o.getD i.toNat default)) = List.map (AV.int IntKind.i64) ((o.set i.toNat (o.getD j.toNat default)).set j.toNat (o.getD i.toNat default)) := (lm_set rfl rfl)
    have k20 := H.1; have H := H.2
    have w21 : IntKind.i64.wrap (i + 1) = i + 1 := wI64 k20
    have k22 := H.1; have H := H.2
    have w23 : IntKind.i64.wrap (j - 1) = j - 1 := wI64 k22
    exact path_wp (G := given kp44 [(3, 7, .elem (AV.int IntKind.i64 (o.getD j.toNat default))), (3, 11, .elem (AV.int IntKind.i64 (o.getD i.toNat default))), (3, 13, .elem (AV.int IntKind.i64 (o.getD i.toNat default))), (3, 15, .elem (AV.int IntKind.i64 ((o.set i.toNat (o.getD j.toNat default)).getD j.toNat default)))] []) 1000 [true] ⟨(atC (cd Try.f44) [1, 1, 0, 0, 0]), [(1, AV.int IntKind.i64 (IntKind.i64.wrap (i + 1))), (2, AV.int IntKind.i64 (IntKind.i64.wrap (j - 1))), (7, AV.row 0 v)], [{ elems := ((List.map (AV.int IntKind.i64) o).set i.toNat (AV.int IntKind.i64 (o.getD j.toNat default))).set j.toNat (AV.int IntKind.i64 (o.getD i.toNat default)), es := 1, ver := v, frozen := false, clean := true }], [(decide (i < j)) == true, v == v, decide (0 ≤ j), decide (j.toNat < (List.map (AV.int IntKind.i64) o).length), v == v, v == v, decide (0 ≤ i), decide (i.toNat < (List.map (AV.int IntKind.i64) o).length), v == v, v == v, decide (0 ≤ i), decide (i.toNat < (List.map (AV.int IntKind.i64) o).length), v == v, v == v, decide (0 ≤ j), decide (j.toNat < ((List.map (AV.int IntKind.i64) o).set i.toNat (AV.int IntKind.i64 (o.getD j.toNat default))).length), v == v], [((List.map (AV.int IntKind.i64) o).get?Internal j.toNat = some (AV.int IntKind.i64 (o.getD j.toNat default))), ((List.map (AV.int IntKind.i64) o).get?Internal i.toNat = some (AV.int IntKind.i64 (o.getD i.toNat default))), ((List.map (AV.int IntKind.i64) o).get?Internal i.toNat = some (AV.int IntKind.i64 (o.getD i.toNat default))), (((List.map (AV.int IntKind.i64) o).set i.toNat (AV.int IntKind.i64 (o.getD j.toNat default))).get?Internal j.toNat = some (AV.int IntKind.i64 ((o.set i.toNat (o.getD j.toNat default)).getD j.toNat default)))], []⟩ (by kernel_rfl) (allB_cons (beq_t (i1.2 d2)) (allB_cons (beq_self_eq_true _) (allB_cons (i4.2 k5) (allB_cons (i7.2 k8) (allB_cons (beq_self_eq_true _) (allB_cons (beq_self_eq_true _) (allB_cons (i9.2 k10) (allB_cons (i11.2 k12) (allB_cons (beq_self_eq_true _) (allB_cons (beq_self_eq_true _) (allB_cons (i13.2 k10) (allB_cons (i14.2 k12) (allB_cons (beq_self_eq_true _) (allB_cons (beq_self_eq_true _) (allB_cons (i15.2 k5) (allB_cons (i17.2 k18) (allB_cons (beq_self_eq_true _) allB_nil))))))))))))))))) (allP_cons (el_map k8) (allP_cons (el_map k12) (allP_cons (el_map k12) (allP_cons (by rw [w3] <;> exact (el_map k18)) allP_nil)))) allC_nil (by rw [w3, w19, w21, w23] <;> exact H)
  · have H := H.2 d2
    exact path_ret (G := given kp44 [] []) 1000 [false] (k := ((atC (cd Try.f44) [1, 1, 1, 1])).tail) (env' := [(6, AV.row 0 v)]) (L' := [{ elems := List.map (AV.int IntKind.i64) o, es := 1, ver := v, frozen := false, clean := true }]) (asm := [(decide (i < j)) == false]) (eqs := []) (calls := []) (AV.row 0 v) (by kernel_rfl) (by kernel_rfl) (allB_cons (beq_f (fun h => d2 (i1.1 h))) allB_nil) allP_nil allC_nil (pq_weak (d := AV.vec false 1 (List.map (AV.int IntKind.i64) o)) (bs := [v == v]) (by kernel_rfl) (by kernel_rfl) (allB_cons (beq_self_eq_true _) allB_nil) (by kernel_rfl) H)


end Go.Av

/- PATHS, written by a program of the prover's. -/
namespace Go.Av
open Go.Proofs
set_option maxRecDepth 100000
def fi36 : Fi := ⟨165, [.tmp 4, .tmp 5]⟩
def kp36 : List (Nat × List Nat) := [(0, [0, 1]), (1, [0, 1, 6]), (2, [0, 1, 6, 21]), (3, [4, 5]), (4, [0, 1, 6, 7]), (5, [0, 1, 6, 7, 8]), (6, [0, 1, 6, 7, 8, 9]), (7, [0, 1, 6, 7, 8, 9]), (8, [0, 1, 6, 7, 8, 9, 35, 36]), (9, [0, 1, 6, 7, 8, 9, 35, 36, 37]), (10, [0, 1, 6, 7, 8, 9, 10, 35, 36]), (11, [0, 1, 6, 7, 8, 9, 35, 36]), (12, [0, 1, 6, 7, 8, 9, 35, 36]), (13, [0, 1, 6, 7, 8, 9, 11]), (14, [0, 1, 6, 7, 8, 9, 11, 62, 63]), (15, [0, 1, 6, 7, 8, 9, 11, 62, 63, 64]), (16, [0, 1, 6, 7, 8, 9, 11, 12, 62, 63]), (17, [0, 1, 6, 7, 8, 9, 11, 12, 62, 63, 66, 67]), (18, [0, 1, 6, 7, 8, 9, 11, 12, 62, 63, 66, 67, 68]), (19, [0, 1, 6, 7, 8, 9, 11, 12, 13, 62, 63, 66, 67]), (20, [0, 1, 6, 7, 8, 9, 11, 12, 13, 62, 63, 66, 67, 89]), (21, [0, 1, 6, 7, 8, 9, 11, 12, 62, 63, 66, 67]), (22, [0, 1, 6, 7, 8, 9, 11, 12, 62, 63, 66, 67]), (23, [0, 1, 6, 7, 8, 9, 11, 12, 62, 63]), (24, [0, 1, 6, 7, 8, 9, 11, 12, 62, 63]), (25, [0, 1, 6, 7, 8, 9, 11, 12, 62, 63]), (26, [0, 1, 6, 7, 8, 9, 11, 12, 62, 63]), (27, [0, 1, 6, 7, 8, 9, 11, 12, 62, 63, 117, 118]), (28, [0, 1, 6, 7, 8, 9, 11, 12, 62, 63, 117, 118, 119]), (29, [0, 1, 6, 7, 8, 9, 11, 12, 14, 62, 63, 117, 118]), (30, [0, 1, 6, 7, 8, 9, 11, 12, 14, 15, 62, 63, 117, 118]), (31, [0, 1, 6, 7, 8, 9, 11, 12, 14, 15, 62, 63, 117, 118, 152]), (32, [0, 1, 6, 7, 8, 9, 11, 12, 62, 63, 117, 118]), (33, [0, 1, 6, 7, 8, 9, 11, 12, 62, 63, 117, 118]), (34, [0, 1, 6, 7, 8, 9, 11, 62, 63]), (35, [4, 5])]
def v36_at (fl fw : Bool) (gs : List G2) (w : List Int) (Q : AV → Heap → Prop) : Prop := Wp M1 (.run fi36 (atC (cd Try.f36) []) [(0, .vec fl 2 (gs.map G2.a)), (1, .vec fw 1 (w.map (.int .i64)))] []) Q
def v36a_at (fl fw : Bool) (gs : List G2) (w : List Int) (ps co fr : List Int) (dn : List Bool) (n i : Int) (Q : AV → Heap → Prop) : Prop := Wp M1 (.run fi36 (atC (cd Try.f36) [1, 1, 1, 1, 1, 1, 1, 0, 1, 0, 0]) [(0, .vec fl 2 (gs.map G2.a)), (1, .vec fw 1 (w.map (.int .i64))), (6, .row 0 0), (7, .row 1 0), (8, .row 2 0), (9, .row 3 0), (35, .int .i64 n), (36, .int .i64 i)] [⟨ps.map (.int .i64), 1, 0, false, true⟩, ⟨dn.map .bool, 1, 0, false, true⟩, ⟨co.map (.int .i64), 1, 0, false, true⟩, ⟨fr.map (.int .i64), 1, 0, false, true⟩]) Q
def v36b_at (fl fw : Bool) (gs : List G2) (w : List Int) (ps co fr : List Int) (dn : List Bool) (s n i : Int) (Q : AV → Heap → Prop) : Prop := Wp M1 (.run fi36 (atC (cd Try.f36) [1, 1, 1, 1, 1, 1, 1, 1, 1, 0, 1, 0, 0]) [(0, .vec fl 2 (gs.map G2.a)), (1, .vec fw 1 (w.map (.int .i64))), (6, .row 0 0), (7, .row 1 0), (8, .row 2 0), (9, .row 3 0), (11, .int .i64 s), (62, .int .i64 n), (63, .int .i64 i)] [⟨ps.map (.int .i64), 1, 0, false, true⟩, ⟨dn.map .bool, 1, 0, false, true⟩, ⟨co.map (.int .i64), 1, 0, false, true⟩, ⟨fr.map (.int .i64), 1, 0, false, true⟩]) Q
def v36c_at (fl fw : Bool) (gs : List G2) (w : List Int) (ps co fr : List Int) (dn : List Bool) (s nx n i m j : Int) (Q : AV → Heap → Prop) : Prop := Wp M1 (.run fi36 (atC (cd Try.f36) [1, 1, 1, 1, 1, 1, 1, 1, 1, 0, 1, 0, 0, 1, 1, 0, 0, 1, 0, 1, 0, 0]) [(0, .vec fl 2 (gs.map G2.a)), (1, .vec fw 1 (w.map (.int .i64))), (6, .row 0 0), (7, .row 1 0), (8, .row 2 0), (9, .row 3 0), (11, .int .i64 s), (12, .int .i64 nx), (62, .int .i64 n), (63, .int .i64 i), (66, .int .i64 m), (67, .int .i64 j)] [⟨ps.map (.int .i64), 1, 0, false, true⟩, ⟨dn.map .bool, 1, 0, false, true⟩, ⟨co.map (.int .i64), 1, 0, false, true⟩, ⟨fr.map (.int .i64), 1, 0, false, true⟩]) Q
def v36d_at (fl fw : Bool) (gs : List G2) (w : List Int) (ps co fr : List Int) (dn : List Bool) (s nx n i m j : Int) (Q : AV → Heap → Prop) : Prop := Wp M1 (.run fi36 (atC (cd Try.f36) [1, 1, 1, 1, 1, 1, 1, 1, 1, 0, 1, 0, 0, 1, 1, 0, 0, 1, 1, 1, 1, 1, 1, 1, 0, 0]) [(0, .vec fl 2 (gs.map G2.a)), (1, .vec fw 1 (w.map (.int .i64))), (6, .row 0 0), (7, .row 1 0), (8, .row 2 0), (9, .row 3 0), (11, .int .i64 s), (12, .int .i64 nx), (62, .int .i64 n), (63, .int .i64 i), (117, .int .i64 m), (118, .int .i64 j)] [⟨ps.map (.int .i64), 1, 0, false, true⟩, ⟨dn.map .bool, 1, 0, false, true⟩, ⟨co.map (.int .i64), 1, 0, false, true⟩, ⟨fr.map (.int .i64), 1, 0, false, true⟩]) Q
theorem call36 {args : List AV} {d : AV} (h : Wp M1 (.run fi36 [.code (cd Try.f36)] (argVars 0 args) []) (PureQ d)) : Ev M1 (.pure 36 args) d [] :=
  pure_pq Try.f36 fi36 (by kernel_rfl) (by kernel_rfl) (by kernel_rfl) (by kernel_rfl) h
theorem owncall36 {args : List AV} {L : Heap} {Q : AV → Heap → Prop} (h : Wp M1 (.run fi36 [.code (cd Try.f36)] (argVars 0 args) L) Q) : Wp M1 (.own 36 args L) Q :=
  own_wp Try.f36 fi36 (by kernel_rfl) (by kernel_rfl) (by kernel_rfl) (by kernel_rfl) h
theorem keepcall36 {args : List AV} {L : Heap} {v : AV} {K : Heap} (hk : keepOk L.length v K = true) (h : Wp M1 (.run fi36 [.code (cd Try.f36)] (argVars 0 args) L) (KeepQ v K)) : Ev M1 (.own 36 args L) v K :=
  own_keep Try.f36 fi36 (by kernel_rfl) (by kernel_rfl) (by kernel_rfl) (by kernel_rfl) hk h
theorem v36 (fl fw : Bool) (gs : List G2) (w : List Int) (dq : AV) (H :
    (0 ≤ (↑gs.length : Int)) ∧
    ((↑gs.length : Int) * 8 ≤ 1099511627776) ∧
    ((↑gs.length : Int) ≤ 1099511627776) ∧
    (((↑gs.length : Int) = 0) → Weak (AV.tup [AV.int IntKind.i64 0, AV.vec false 1 (List.map (AV.int IntKind.i64) (List.replicate (↑gs.length : Int).toNat (0 : Int)))]) dq) ∧
    (¬((↑gs.length : Int) = 0) → ((↑gs.length : Int) * 1 ≤ 1099511627776) ∧
      (0 < (List.replicate (↑gs.length : Int).toNat false).length) ∧
      v36a_at (fl) (fw) (gs) (w) (List.replicate (↑gs.length : Int).toNat (0 : Int)) (List.replicate (↑gs.length : Int).toNat (0 : Int)) (List.replicate (↑gs.length : Int).toNat (0 : Int)) ((List.replicate (↑gs.length : Int).toNat false).set 0 true) ((↑gs.length : Int)) (0) (PureQ dq))) :
  v36_at fl fw gs w (PureQ dq) := by
  unfold v36_at
  have w1 : (List.map G2.a gs).length = gs.length := List.length_map ..
  have i2 : (decide (0 ≤ (↑(List.map G2.a gs).length : Int))) = true ↔ (0 ≤ (↑gs.length : Int)) := (by rw [w1] <;> exact i_dec)
  have k3 := H.1; have H := H.2
  have i4 : (decide ((↑(List.map G2.a gs).length : Int) ≤ (↑(List.map G2.a gs).length : Int))) = true ↔ ((↑gs.length : Int) ≤ (↑gs.length : Int)) := (by rw [w1] <;> exact i_dec)
  have i5 : (decide ((↑(List.map G2.a gs).length : Int) * 8 ≤ 1099511627776)) = true ↔ ((↑gs.length : Int) * 8 ≤ 1099511627776) := (by rw [w1] <;> exact i_dec)
  have k6 := H.1; have H := H.2
  have i7 : (decide ((↑(List.map G2.a gs).length : Int) ≤ 1099511627776)) = true ↔ ((↑gs.length : Int) ≤ 1099511627776) := (by rw [w1] <;> exact i_dec)
  have k8 := H.1; have H := H.2
  have w9 : List.replicate (↑gs.length : Int).toNat (AV.int IntKind.i64 0) = List.map (AV.int IntKind.i64) (List.replicate (↑gs.length : Int).toNat (0 : Int)) := (lm_rep rfl)
  have i10 : ((↑(List.map G2.a gs).length : Int) == 0) = true ↔ ((↑gs.length : Int) = 0) := (by rw [w1] <;> exact i_eq)
  rcases Classical.em ((↑gs.length : Int) = 0) with d11 | d11
  · have H := H.1 d11
    exact path_ret (G := given kp36 [] []) 1000 [true] (k := ((atC (cd Try.f36) [1, 1, 0, 1, 0, 1])).tail) (env' := [(4, AV.int IntKind.i64 0), (5, AV.row 0 0)]) (L' := [{ elems := List.replicate (↑(List.map G2.a gs).length : Int).toNat (AV.int IntKind.i64 0), es := 1, ver := 0, frozen := false, clean := true }]) (asm := [decide (0 ≤ (↑(List.map G2.a gs).length : Int)), decide ((↑(List.map G2.a gs).length : Int) ≤ (↑(List.map G2.a gs).length : Int)), decide ((↑(List.map G2.a gs).length : Int) * 8 ≤ 1099511627776), decide ((↑(List.map G2.a gs).length : Int) ≤ 1099511627776), ((↑(List.map G2.a gs).length : Int) == 0) == true]) (eqs := []) (calls := []) (AV.tup [AV.int IntKind.i64 0, AV.row 0 0]) (by kernel_rfl) (by kernel_rfl) (allB_cons (i2.2 k3) (allB_cons (i4.2 (by omega)) (allB_cons (i5.2 k6) (allB_cons (i7.2 k8) (allB_cons (beq_t (i10.2 d11)) allB_nil))))) allP_nil allC_nil (pq_weak (d := AV.tup [AV.int IntKind.i64 0, AV.vec false 1 (List.replicate (↑(List.map G2.a gs).length : Int).toNat (AV.int IntKind.i64 0))]) (bs := [0 == 0]) (by kernel_rfl) (by kernel_rfl) (allB_cons (beq_self_eq_true _) allB_nil) (by kernel_rfl) (by rw [w1, w9] <;> exact H))
  · have H := H.2 d11
    have i12 : (decide (0 ≤ (↑(List.map G2.a gs).length : Int))) = true ↔ (0 ≤ (↑gs.length : Int)) := (by rw [w1] <;> exact i_dec)
    have i13 : (decide ((↑(List.map G2.a gs).length : Int) ≤ (↑(List.map G2.a gs).length : Int))) = true ↔ ((↑gs.length : Int) ≤ (↑gs.length : Int)) := (by rw [w1] <;> exact i_dec)
    have i14 : (decide ((↑(List.map G2.a gs).length : Int) * 1 ≤ 1099511627776)) = true ↔ ((↑gs.length : Int) * 1 ≤ 1099511627776) := (by rw [w1] <;> exact i_dec)
    have k15 := H.1; have H := H.2
    have i16 : (decide ((↑(List.map G2.a gs).length : Int) ≤ 1099511627776)) = true ↔ ((↑gs.length : Int) ≤ 1099511627776) := (by rw [w1] <;> exact i_dec)
    have w17 : List.replicate (↑gs.length : Int).toNat (AV.bool false) = List.map AV.bool (List.replicate (↑gs.length : Int).toNat false) := (lm_rep rfl)
    have i18 : (decide (0 ≤ (↑(List.map G2.a gs).length : Int))) = true ↔ (0 ≤ (↑gs.length : Int)) := (by rw [w1] <;> exact i_dec)
    have i19 : (decide ((↑(List.map G2.a gs).length : Int) ≤ (↑(List.map G2.a gs).length : Int))) = true ↔ ((↑gs.length : Int) ≤ (↑gs.length : Int)) := (by rw [w1] <;> exact i_dec)
    have i20 : (decide ((↑(List.map G2.a gs).length : Int) * 8 ≤ 1099511627776)) = true ↔ ((↑gs.length : Int) * 8 ≤ 1099511627776) := (by rw [w1] <;> exact i_dec)
    have i21 : (decide ((↑(List.map G2.a gs).length : Int) ≤ 1099511627776)) = true ↔ ((↑gs.length : Int) ≤ 1099511627776) := (by rw [w1] <;> exact i_dec)
    have i22 : (decide (0 ≤ (↑(List.map G2.a gs).length : Int))) = true ↔ (0 ≤ (↑gs.length : Int)) := (by rw [w1] <;> exact i_dec)
    have i23 : (decide ((↑(List.map G2.a gs).length : Int) ≤ (↑(List.map G2.a gs).length : Int))) = true ↔ ((↑gs.length : Int) ≤ (↑gs.length : Int)) := (by rw [w1] <;> exact i_dec)
    have i24 : (decide ((↑(List.map G2.a gs).length : Int) * 8 ≤ 1099511627776)) = true ↔ ((↑gs.length : Int) * 8 ≤ 1099511627776) := (by rw [w1] <;> exact i_dec)
    have i25 : (decide ((↑(List.map G2.a gs).length : Int) ≤ 1099511627776)) = true ↔ ((↑gs.length : Int) ≤ 1099511627776) := (by rw [w1] <;> exact i_dec)
    have w26 : (List.map AV.bool (List.replicate (↑gs.length : Int).toNat false)).length = (List.replicate (↑gs.length : Int).toNat false).length := List.length_map ..
    have i27 : (decide (0 < (List.replicate (↑(List.map G2.a gs).length : Int).toNat (AV.bool false)).length)) = true ↔ (0 < (List.replicate (↑gs.length : Int).toNat false).length) := (by rw [w1, w17, w26] <;> exact i_dec)
    have k28 := H.1; have H := H.2
    have w29 : (List.map AV.bool (List.replicate (↑gs.length : Int).toNat false)).set 0 (AV.bool true) = List.map AV.bool ((List.replicate (↑gs.length : Int).toNat false).set 0 true) := (lm_set rfl rfl)
    exact path_wp (G := given kp36 [(7, 2, .elem (AV.bool ((List.replicate (↑gs.length : Int).toNat false).getD 0 default)))] []) 1000 [false] ⟨(atC (cd Try.f36) [1, 1, 1, 1, 1, 1, 1, 0, 1, 0, 0]), [(0, AV.vec fl 2 (List.map G2.a gs)), (1, AV.vec fw 1 (List.map (AV.int IntKind.i64) w)), (6, AV.row 0 0), (7, AV.row 1 0), (8, AV.row 2 0), (9, AV.row 3 0), (35, AV.int IntKind.i64 (↑(List.map G2.a gs).length : Int)), (36, AV.int IntKind.i64 0)], [{ elems := List.replicate (↑(List.map G2.a gs).length : Int).toNat (AV.int IntKind.i64 0), es := 1, ver := 0, frozen := false, clean := true }, { elems := (List.replicate (↑(List.map G2.a gs).length : Int).toNat (AV.bool false)).set 0 (AV.bool true), es := 1, ver := 0, frozen := false, clean := true }, { elems := List.replicate (↑(List.map G2.a gs).length : Int).toNat (AV.int IntKind.i64 0), es := 1, ver := 0, frozen := false, clean := true }, { elems := List.replicate (↑(List.map G2.a gs).length : Int).toNat (AV.int IntKind.i64 0), es := 1, ver := 0, frozen := false, clean := true }], [decide (0 ≤ (↑(List.map G2.a gs).length : Int)), decide ((↑(List.map G2.a gs).length : Int) ≤ (↑(List.map G2.a gs).length : Int)), decide ((↑(List.map G2.a gs).length : Int) * 8 ≤ 1099511627776), decide ((↑(List.map G2.a gs).length : Int) ≤ 1099511627776), ((↑(List.map G2.a gs).length : Int) == 0) == false, decide (0 ≤ (↑(List.map G2.a gs).length : Int)), decide ((↑(List.map G2.a gs).length : Int) ≤ (↑(List.map G2.a gs).length : Int)), decide ((↑(List.map G2.a gs).length : Int) * 1 ≤ 1099511627776), decide ((↑(List.map G2.a gs).length : Int) ≤ 1099511627776), decide (0 ≤ (↑(List.map G2.a gs).length : Int)), decide ((↑(List.map G2.a gs).length : Int) ≤ (↑(List.map G2.a gs).length : Int)), decide ((↑(List.map G2.a gs).length : Int) * 8 ≤ 1099511627776), decide ((↑(List.map G2.a gs).length : Int) ≤ 1099511627776), decide (0 ≤ (↑(List.map G2.a gs).length : Int)), decide ((↑(List.map G2.a gs).length : Int) ≤ (↑(List.map G2.a gs).length : Int)), decide ((↑(List.map G2.a gs).length : Int) * 8 ≤ 1099511627776), decide ((↑(List.map G2.a gs).length : Int) ≤ 1099511627776), true, true, decide (0 < (List.replicate (↑(List.map G2.a gs).length : Int).toNat (AV.bool false)).length), true], [((List.replicate (↑(List.map G2.a gs).length : Int).toNat (AV.bool false)).get?Internal 0 = some (AV.bool ((List.replicate (↑gs.length : Int).toNat false).getD 0 default)))], []⟩ (by kernel_rfl) (allB_cons (i2.2 k3) (allB_cons (i4.2 (by omega)) (allB_cons (i5.2 k6) (allB_cons (i7.2 k8) (allB_cons (beq_f (fun h => d11 (i10.1 h))) (allB_cons (i12.2 k3) (allB_cons (i13.2 (by omega)) (allB_cons (i14.2 k15) (allB_cons (i16.2 k8) (allB_cons (i18.2 k3) (allB_cons (i19.2 (by omega)) (allB_cons (i20.2 k6) (allB_cons (i21.2 k8) (allB_cons (i22.2 k3) (allB_cons (i23.2 (by omega)) (allB_cons (i24.2 k6) (allB_cons (i25.2 k8) (allB_cons rfl (allB_cons rfl (allB_cons (i27.2 k28) (allB_cons rfl allB_nil))))))))))))))))))))) (allP_cons (by rw [w1, w17] <;> exact (el_map k28)) allP_nil) allC_nil (by rw [w1, w9, w17, w29] <;> exact H)

theorem v36a (fl fw : Bool) (gs : List G2) (w : List Int) (ps co fr : List Int) (dn : List Bool) (n i : Int) (dq : AV) (H :
    ((i < n) → (Sp.inM (gs.getD 0 default).x ∧ Sp.inM (gs.getD 0 default).y ∧ Sp.inM (gs.getD i.toNat default).x ∧ Sp.inM (gs.getD i.toNat default).y) ∧
      (0 < gs.length) ∧
      (0 ≤ i) ∧
      (i.toNat < gs.length) ∧
      (0 < w.length) ∧
      (i.toNat < w.length) ∧
      (i.toNat < co.length) ∧
      (-9223372036854775808 ≤ Sp.dist (gs.getD 0 default).x (gs.getD 0 default).y (gs.getD i.toNat default).x (gs.getD i.toNat default).y + w.getD 0 default ∧ Sp.dist (gs.getD 0 default).x (gs.getD 0 default).y (gs.getD i.toNat default).x (gs.getD i.toNat default).y + w.getD 0 default ≤ 9223372036854775807) ∧
      (-9223372036854775808 ≤ Sp.dist (gs.getD 0 default).x (gs.getD 0 default).y (gs.getD i.toNat default).x (gs.getD i.toNat default).y + w.getD 0 default + w.getD i.toNat default ∧ Sp.dist (gs.getD 0 default).x (gs.getD 0 default).y (gs.getD i.toNat default).x (gs.getD i.toNat default).y + w.getD 0 default + w.getD i.toNat default ≤ 9223372036854775807) ∧
      (-9223372036854775808 ≤ i + 1 ∧ i + 1 ≤ 9223372036854775807) ∧
      v36a_at (fl) (fw) (gs) (w) (ps) (co.set i.toNat (Sp.dist (gs.getD 0 default).x (gs.getD 0 default).y (gs.getD i.toNat default).x (gs.getD i.toNat default).y + w.getD 0 default + w.getD i.toNat default)) (fr) (dn) (n) (i + 1) (PureQ dq)) ∧
    (¬(i < n) → (-9223372036854775808 ≤ (↑gs.length : Int) - 1 ∧ (↑gs.length : Int) - 1 ≤ 9223372036854775807) ∧
      v36b_at (fl) (fw) (gs) (w) (ps) (co) (fr) (dn) (0) ((↑gs.length : Int) - 1) (0) (PureQ dq))) :
  v36a_at fl fw gs w ps co fr dn n i (PureQ dq) := by
  unfold v36a_at
  have i1 : (decide (i < n)) = true ↔ (i < n) := i_dec
  rcases Classical.em (i < n) with d2 | d2
  · have H := H.1 d2
    have k3 := H.1; have H := H.2
    have w4 : (List.map G2.a gs).length = gs.length := List.length_map ..
    have i5 : (decide (0 < (List.map G2.a gs).length)) = true ↔ (0 < gs.length) := (by rw [w4] <;> exact i_dec)
    have k6 := H.1; have H := H.2
    have i7 : (decide (0 ≤ i)) = true ↔ (0 ≤ i) := i_dec
    have k8 := H.1; have H := H.2
    have i9 : (decide (i.toNat < (List.map G2.a gs).length)) = true ↔ (i.toNat < gs.length) := (by rw [w4] <;> exact i_dec)
    have k10 := H.1; have H := H.2
    have w11 : (List.map (AV.int IntKind.i64) w).length = w.length := List.length_map ..
    have i12 : (decide (0 < (List.map (AV.int IntKind.i64) w).length)) = true ↔ (0 < w.length) := (by rw [w11] <;> exact i_dec)
    have k13 := H.1; have H := H.2
    have i14 : (decide (0 ≤ i)) = true ↔ (0 ≤ i) := i_dec
    have i15 : (decide (i.toNat < (List.map (AV.int IntKind.i64) w).length)) = true ↔ (i.toNat < w.length) := (by rw [w11] <;> exact i_dec)
    have k16 := H.1; have H := H.2
    have i17 : (decide (0 ≤ i)) = true ↔ (0 ≤ i) := i_dec
    have w18 : (List.map (AV.int IntKind.i64) co).length = co.length := List.length_map ..
    have i19 : (decide (i.toNat < (List.map (AV.int IntKind.i64) co).length)) = true ↔ (i.toNat < co.length) := (by rw [w18] <;> exact i_dec)
    have k20 := H.1; have H := H.2
    have k21 := H.1; have H := H.2
    have w22 : IntKind.i64.wrap (Sp.dist (gs.getD 0 default).x (gs.getD 0 default).y (gs.getD i.toNat default).x (gs.getD i.toNat default).y + w.getD 0 default) = Sp.dist (gs.getD 0 default).x (gs.getD 0 default).y (gs.getD i.toNat default).x (gs.getD i.toNat default).y + w.getD 0 default := wI64 k21
    have k23 := H.1; have H := H.2
    have w24 : IntKind.i64.wrap (Sp.dist (gs.getD 0 default).x (gs.getD 0 default).y (gs.getD i.toNat default).x (gs.getD i.toNat default).y + w.getD 0 default + w.getD i.toNat default) = Sp.dist (gs.getD 0 default).x (gs.getD 0 default).y (gs.getD i.toNat default).x (gs.getD i.toNat default).y + w.getD 0 default + w.getD i.toNat default := wI64 k23
    have w25 : (List.map (AV.int IntKind.i64) co).set i.toNat (AV.int IntKind.i64 (Sp.dist (gs.getD 0 default).x (gs.getD 0 default).y (gs.getD i.toNat default).x (gs.getD i.toNat default).y + w.getD 0 default + w.getD i.toNat default)) = List.map (AV.int IntKind.i64) (co.set i.toNat (Sp.dist (gs.getD 0 default).x (gs.getD 0 default).y (gs.getD i.toNat default).x (gs.getD i.toNat default).y + w.getD 0 default + w.getD i.toNat default)) := (lm_set rfl rfl)
    have k26 := H.1; have H := H.2
    have w27 : IntKind.i64.wrap (i + 1) = i + 1 := wI64 k26
    exact path_wp (G := given kp36 [(11, 4, .elem (AV.agg [AV.int IntKind.i64 (gs.getD 0 default).x, AV.int IntKind.i64 (gs.getD 0 default).y])), (11, 8, .elem (AV.agg [AV.int IntKind.i64 (gs.getD i.toNat default).x, AV.int IntKind.i64 (gs.getD i.toNat default).y])), (11, 9, .call (AV.int IntKind.i64 (Sp.dist (gs.getD 0 default).x (gs.getD 0 default).y (gs.getD i.toNat default).x (gs.getD i.toNat default).y)) none), (11, 12, .elem (AV.int IntKind.i64 (w.getD 0 default))), (11, 17, .elem (AV.int IntKind.i64 (w.getD i.toNat default))), (11, 20, .elem (AV.int IntKind.i64 (co.getD i.toNat default)))] []) 1000 [true] ⟨(atC (cd Try.f36) [1, 1, 1, 1, 1, 1, 1, 0, 1, 0, 0]), [(0, AV.vec fl 2 (List.map G2.a gs)), (1, AV.vec fw 1 (List.map (AV.int IntKind.i64) w)), (6, AV.row 0 0), (7, AV.row 1 0), (8, AV.row 2 0), (9, AV.row 3 0), (35, AV.int IntKind.i64 n), (36, AV.int IntKind.i64 (IntKind.i64.wrap (i + 1)))], [{ elems := List.map (AV.int IntKind.i64) ps, es := 1, ver := 0, frozen := false, clean := true }, { elems := List.map AV.bool dn, es := 1, ver := 0, frozen := false, clean := true }, { elems := (List.map (AV.int IntKind.i64) co).set i.toNat (AV.int IntKind.i64 (IntKind.i64.wrap (IntKind.i64.wrap (Sp.dist (gs.getD 0 default).x (gs.getD 0 default).y (gs.getD i.toNat default).x (gs.getD i.toNat default).y + w.getD 0 default) + w.getD i.toNat default))), es := 1, ver := 0, frozen := false, clean := true }, { elems := List.map (AV.int IntKind.i64) fr, es := 1, ver := 0, frozen := false, clean := true }], [(decide (i < n)) == true, true, decide (0 < (List.map G2.a gs).length), decide (0 ≤ i), decide (i.toNat < (List.map G2.a gs).length), true, decide (0 < (List.map (AV.int IntKind.i64) w).length), decide (0 ≤ i), decide (i.toNat < (List.map (AV.int IntKind.i64) w).length), true, decide (0 ≤ i), decide (i.toNat < (List.map (AV.int IntKind.i64) co).length), true], [((List.map G2.a gs).get?Internal 0 = some (AV.agg [AV.int IntKind.i64 (gs.getD 0 default).x, AV.int IntKind.i64 (gs.getD 0 default).y])), ((List.map G2.a gs).get?Internal i.toNat = some (AV.agg [AV.int IntKind.i64 (gs.getD i.toNat default).x, AV.int IntKind.i64 (gs.getD i.toNat default).y])), ((List.map (AV.int IntKind.i64) w).get?Internal 0 = some (AV.int IntKind.i64 (w.getD 0 default))), ((List.map (AV.int IntKind.i64) w).get?Internal i.toNat = some (AV.int IntKind.i64 (w.getD i.toNat default))), ((List.map (AV.int IntKind.i64) co).get?Internal i.toNat = some (AV.int IntKind.i64 (co.getD i.toNat default)))], [⟨true, false, 15, [AV.agg [AV.int IntKind.i64 (gs.getD 0 default).x, AV.int IntKind.i64 (gs.getD 0 default).y], AV.agg [AV.int IntKind.i64 (gs.getD i.toNat default).x, AV.int IntKind.i64 (gs.getD i.toNat default).y]], [], AV.int IntKind.i64 (Sp.dist (gs.getD 0 default).x (gs.getD 0 default).y (gs.getD i.toNat default).x (gs.getD i.toNat default).y), []⟩]⟩ (by kernel_rfl) (allB_cons (beq_t (i1.2 d2)) (allB_cons rfl (allB_cons (i5.2 k6) (allB_cons (i7.2 k8) (allB_cons (i9.2 k10) (allB_cons rfl (allB_cons (i12.2 k13) (allB_cons (i14.2 k8) (allB_cons (i15.2 k16) (allB_cons rfl (allB_cons (i17.2 k8) (allB_cons (i19.2 k20) (allB_cons rfl allB_nil))))))))))))) (allP_cons (el_map k6) (allP_cons (el_map k10) (allP_cons (el_map k13) (allP_cons (el_map k16) (allP_cons (el_map k20) allP_nil))))) (allC_cons (fun _ => ((@ev15 ((gs.getD 0 default).x) ((gs.getD 0 default).y) ((gs.getD i.toNat default).x) ((gs.getD i.toNat default).y) k3) : Ev M1 (Conf.pure 15 [AV.agg [AV.int IntKind.i64 (gs.getD 0 default).x, AV.int IntKind.i64 (gs.getD 0 default).y], AV.agg [AV.int IntKind.i64 (gs.getD i.toNat default).x, AV.int IntKind.i64 (gs.getD i.toNat default).y]]) (AV.int IntKind.i64 (Sp.dist (gs.getD 0 default).x (gs.getD 0 default).y (gs.getD i.toNat default).x (gs.getD i.toNat default).y)) [])) allC_nil) (by rw [w22, w24, w25, w27] <;> exact H)
  · have H := H.2 d2
    have w28 : (List.map G2.a gs).length = gs.length := List.length_map ..
    have k29 := H.1; have H := H.2
    have w30 : IntKind.i64.wrap ((↑gs.length : Int) - 1) = (↑gs.length : Int) - 1 := wI64 k29
    exact path_wp (G := given kp36 [] []) 1000 [false] ⟨(atC (cd Try.f36) [1, 1, 1, 1, 1, 1, 1, 1, 1, 0, 1, 0, 0]), [(0, AV.vec fl 2 (List.map G2.a gs)), (1, AV.vec fw 1 (List.map (AV.int IntKind.i64) w)), (6, AV.row 0 0), (7, AV.row 1 0), (8, AV.row 2 0), (9, AV.row 3 0), (11, AV.int IntKind.i64 0), (62, AV.int IntKind.i64 (IntKind.i64.wrap ((↑(List.map G2.a gs).length : Int) - 1))), (63, AV.int IntKind.i64 0)], [{ elems := List.map (AV.int IntKind.i64) ps, es := 1, ver := 0, frozen := false, clean := true }, { elems := List.map AV.bool dn, es := 1, ver := 0, frozen := false, clean := true }, { elems := List.map (AV.int IntKind.i64) co, es := 1, ver := 0, frozen := false, clean := true }, { elems := List.map (AV.int IntKind.i64) fr, es := 1, ver := 0, frozen := false, clean := true }], [(decide (i < n)) == false], [], []⟩ (by kernel_rfl) (allB_cons (beq_f (fun h => d2 (i1.1 h))) allB_nil) allP_nil allC_nil (by rw [w28, w30] <;> exact H)

theorem v36b (fl fw : Bool) (gs : List G2) (w : List Int) (ps co fr : List Int) (dn : List Bool) (s n i : Int) (dq : AV) (H :
    ((i < n) → v36c_at (fl) (fw) (gs) (w) (ps) (co) (fr) (dn) (s) (-1) (n) (i) ((↑gs.length : Int)) (0) (PureQ dq)) ∧
    (¬(i < n) → Weak (AV.tup [AV.int IntKind.i64 s, AV.vec false 1 (List.map (AV.int IntKind.i64) ps)]) dq)) :
  v36b_at fl fw gs w ps co fr dn s n i (PureQ dq) := by
  unfold v36b_at
  have i1 : (decide (i < n)) = true ↔ (i < n) := i_dec
  rcases Classical.em (i < n) with d2 | d2
  · have H := H.1 d2
    have w3 : (List.map G2.a gs).length = gs.length := List.length_map ..
    exact path_wp (G := given kp36 [] []) 1000 [true] ⟨(atC (cd Try.f36) [1, 1, 1, 1, 1, 1, 1, 1, 1, 0, 1, 0, 0, 1, 1, 0, 0, 1, 0, 1, 0, 0]), [(0, AV.vec fl 2 (List.map G2.a gs)), (1, AV.vec fw 1 (List.map (AV.int IntKind.i64) w)), (6, AV.row 0 0), (7, AV.row 1 0), (8, AV.row 2 0), (9, AV.row 3 0), (11, AV.int IntKind.i64 s), (12, AV.int IntKind.i64 (-1)), (62, AV.int IntKind.i64 n), (63, AV.int IntKind.i64 i), (66, AV.int IntKind.i64 (↑(List.map G2.a gs).length : Int)), (67, AV.int IntKind.i64 0)], [{ elems := List.map (AV.int IntKind.i64) ps, es := 1, ver := 0, frozen := false, clean := true }, { elems := List.map AV.bool dn, es := 1, ver := 0, frozen := false, clean := true }, { elems := List.map (AV.int IntKind.i64) co, es := 1, ver := 0, frozen := false, clean := true }, { elems := List.map (AV.int IntKind.i64) fr, es := 1, ver := 0, frozen := false, clean := true }], [(decide (i < n)) == true], [], []⟩ (by kernel_rfl) (allB_cons (beq_t (i1.2 d2)) allB_nil) allP_nil allC_nil (by rw [w3] <;> exact H)
  · have H := H.2 d2
    exact path_ret (G := given kp36 [] []) 1000 [false] (k := ((atC (cd Try.f36) [1, 1, 1, 1, 1, 1, 1, 1, 1, 1, 1])).tail) (env' := [(4, AV.int IntKind.i64 s), (5, AV.row 0 0)]) (L' := [{ elems := List.map (AV.int IntKind.i64) ps, es := 1, ver := 0, frozen := false, clean := true }, { elems := List.map AV.bool dn, es := 1, ver := 0, frozen := false, clean := true }, { elems := List.map (AV.int IntKind.i64) co, es := 1, ver := 0, frozen := false, clean := true }, { elems := List.map (AV.int IntKind.i64) fr, es := 1, ver := 0, frozen := false, clean := true }]) (asm := [(decide (i < n)) == false]) (eqs := []) (calls := []) (AV.tup [AV.int IntKind.i64 s, AV.row 0 0]) (by kernel_rfl) (by kernel_rfl) (allB_cons (beq_f (fun h => d2 (i1.1 h))) allB_nil) allP_nil allC_nil (pq_weak (d := AV.tup [AV.int IntKind.i64 s, AV.vec false 1 (List.map (AV.int IntKind.i64) ps)]) (bs := [0 == 0]) (by kernel_rfl) (by kernel_rfl) (allB_cons (beq_self_eq_true _) allB_nil) (by kernel_rfl) H)

theorem v36c (fl fw : Bool) (gs : List G2) (w : List Int) (ps co fr : List Int) (dn : List Bool) (s nx n i m j : Int) (dq : AV) (H :
    ((j < m) → (0 ≤ j) ∧
      (j.toNat < dn.length) ∧
      (((¬(nx < 0)) ∧ (¬(dn.getD j.toNat default = true))) → (j.toNat < co.length)) ∧
      (((¬(nx < 0)) ∧ (¬(dn.getD j.toNat default = true))) → (0 ≤ nx)) ∧
      (((¬(nx < 0)) ∧ (¬(dn.getD j.toNat default = true))) → (nx.toNat < co.length)) ∧
      (((¬(dn.getD j.toNat default = true)) ∧ ((nx < 0) ∨ (co.getD j.toNat default < co.getD nx.toNat default))) → (-9223372036854775808 ≤ j + 1 ∧ j + 1 ≤ 9223372036854775807) ∧
        v36c_at (fl) (fw) (gs) (w) (ps) (co) (fr) (dn) (s) (j) (n) (i) (m) (j + 1) (PureQ dq)) ∧
      (¬((¬(dn.getD j.toNat default = true)) ∧ ((nx < 0) ∨ (co.getD j.toNat default < co.getD nx.toNat default))) → (-9223372036854775808 ≤ j + 1 ∧ j + 1 ≤ 9223372036854775807) ∧
        v36c_at (fl) (fw) (gs) (w) (ps) (co) (fr) (dn) (s) (nx) (n) (i) (m) (j + 1) (PureQ dq))) ∧
    (¬(j < m) → (0 ≤ nx) ∧
      (nx.toNat < dn.length) ∧
      (nx.toNat < co.length) ∧
      (-9223372036854775808 ≤ s + co.getD nx.toNat default ∧ s + co.getD nx.toNat default ≤ 9223372036854775807) ∧
      (nx.toNat < ps.length) ∧
      (-9223372036854775808 ≤ ps.getD nx.toNat default + 1 ∧ ps.getD nx.toNat default + 1 ≤ 9223372036854775807) ∧
      (nx.toNat < fr.length) ∧
      (0 ≤ fr.getD nx.toNat default) ∧
      ((fr.getD nx.toNat default).toNat < (ps.set nx.toNat (ps.getD nx.toNat default + 1)).length) ∧
      (-9223372036854775808 ≤ (ps.set nx.toNat (ps.getD nx.toNat default + 1)).getD (fr.getD nx.toNat default).toNat default + 1 ∧ (ps.set nx.toNat (ps.getD nx.toNat default + 1)).getD (fr.getD nx.toNat default).toNat default + 1 ≤ 9223372036854775807) ∧
      v36d_at (fl) (fw) (gs) (w) ((ps.set nx.toNat (ps.getD nx.toNat default + 1)).set (fr.getD nx.toNat default).toNat ((ps.set nx.toNat (ps.getD nx.toNat default + 1)).getD (fr.getD nx.toNat default).toNat default + 1)) (co) (fr) (dn.set nx.toNat true) (s + co.getD nx.toNat default) (nx) (n) (i) ((↑gs.length : Int)) (0) (PureQ dq))) :
  v36c_at fl fw gs w ps co fr dn s nx n i m j (PureQ dq) := by
  unfold v36c_at
  have i1 : (decide (j < m)) = true ↔ (j < m) := i_dec
  rcases Classical.em (j < m) with d2 | d2
  · have H := H.1 d2
    have i3 : (decide (0 ≤ j)) = true ↔ (0 ≤ j) := i_dec
    have k4 := H.1; have H := H.2
    have w5 : (List.map AV.bool dn).length = dn.length := List.length_map ..
    have i6 : (decide (j.toNat < (List.map AV.bool dn).length)) = true ↔ (j.toNat < dn.length) := (by rw [w5] <;> exact i_dec)
    have k7 := H.1; have H := H.2
    have i8 : (!(decide (nx < 0) == false && ((!dn.getD j.toNat default) == true && true)) || decide (0 ≤ j)) = true ↔ (((¬(nx < 0)) ∧ (¬(dn.getD j.toNat default = true))) → (0 ≤ j)) := (i_imp (i_and (i_bf i_dec) (i_at (i_bt (i_not (i_var _))))) i_dec)
    have w9 : (List.map (AV.int IntKind.i64) co).length = co.length := List.length_map ..
    have i10 : (!(decide (nx < 0) == false && ((!dn.getD j.toNat default) == true && true)) || decide (j.toNat < (List.map (AV.int IntKind.i64) co).length)) = true ↔ (((¬(nx < 0)) ∧ (¬(dn.getD j.toNat default = true))) → (j.toNat < co.length)) := (by rw [w9] <;> exact (i_imp (i_and (i_bf i_dec) (i_at (i_bt (i_not (i_var _))))) i_dec))
    have k11 := H.1; have H := H.2
    have i12 : (!(decide (nx < 0) == false && ((!dn.getD j.toNat default) == true && true)) || decide (0 ≤ nx)) = true ↔ (((¬(nx < 0)) ∧ (¬(dn.getD j.toNat default = true))) → (0 ≤ nx)) := (i_imp (i_and (i_bf i_dec) (i_at (i_bt (i_not (i_var _))))) i_dec)
    have k13 := H.1; have H := H.2
    have i14 : (!(decide (nx < 0) == false && ((!dn.getD j.toNat default) == true && true)) || decide (nx.toNat < (List.map (AV.int IntKind.i64) co).length)) = true ↔ (((¬(nx < 0)) ∧ (¬(dn.getD j.toNat default = true))) → (nx.toNat < co.length)) := (by rw [w9] <;> exact (i_imp (i_and (i_bf i_dec) (i_at (i_bt (i_not (i_var _))))) i_dec))
    have k15 := H.1; have H := H.2
    have i16 : (decide (nx < 0) == false && ((!dn.getD j.toNat default) == true && true)) = true ↔ ((¬(nx < 0)) ∧ (¬(dn.getD j.toNat default = true))) := (i_and (i_bf i_dec) (i_at (i_bt (i_not (i_var _)))))
    have i17 : (decide (nx < 0) == false && ((!dn.getD j.toNat default) == true && true)) = true ↔ ((¬(nx < 0)) ∧ (¬(dn.getD j.toNat default = true))) := (i_and (i_bf i_dec) (i_at (i_bt (i_not (i_var _)))))
    have i18 : (bif !dn.getD j.toNat default then bif decide (nx < 0) then true else decide (co.getD j.toNat default < co.getD nx.toNat default) else false) = true ↔ ((¬(dn.getD j.toNat default = true)) ∧ ((nx < 0) ∨ (co.getD j.toNat default < co.getD nx.toNat default))) := (i_band (i_not (i_var _)) (i_bor i_dec i_dec))
    rcases Classical.em ((¬(dn.getD j.toNat default = true)) ∧ ((nx < 0) ∨ (co.getD j.toNat default < co.getD nx.toNat default))) with d19 | d19
    · have H := H.1 d19
      have k20 := H.1; have H := H.2
      have w21 : IntKind.i64.wrap (j + 1) = j + 1 := wI64 k20
      exact path_wp (G := given kp36 [(20, 3, .elem (AV.bool (dn.getD j.toNat default))), (20, 12, .elem (AV.int IntKind.i64 (co.getD j.toNat default))), (20, 16, .elem (AV.int IntKind.i64 (co.getD nx.toNat default)))] []) 1000 [true, true] ⟨(atC (cd Try.f36) [1, 1, 1, 1, 1, 1, 1, 1, 1, 0, 1, 0, 0, 1, 1, 0, 0, 1, 0, 1, 0, 0]), [(0, AV.vec fl 2 (List.map G2.a gs)), (1, AV.vec fw 1 (List.map (AV.int IntKind.i64) w)), (6, AV.row 0 0), (7, AV.row 1 0), (8, AV.row 2 0), (9, AV.row 3 0), (11, AV.int IntKind.i64 s), (12, AV.int IntKind.i64 j), (62, AV.int IntKind.i64 n), (63, AV.int IntKind.i64 i), (66, AV.int IntKind.i64 m), (67, AV.int IntKind.i64 (IntKind.i64.wrap (j + 1)))], [{ elems := List.map (AV.int IntKind.i64) ps, es := 1, ver := 0, frozen := false, clean := true }, { elems := List.map AV.bool dn, es := 1, ver := 0, frozen := false, clean := true }, { elems := List.map (AV.int IntKind.i64) co, es := 1, ver := 0, frozen := false, clean := true }, { elems := List.map (AV.int IntKind.i64) fr, es := 1, ver := 0, frozen := false, clean := true }], [(decide (j < m)) == true, true, decide (0 ≤ j), decide (j.toNat < (List.map AV.bool dn).length), true, !(decide (nx < 0) == false && ((!dn.getD j.toNat default) == true && true)) || true, !(decide (nx < 0) == false && ((!dn.getD j.toNat default) == true && true)) || decide (0 ≤ j), !(decide (nx < 0) == false && ((!dn.getD j.toNat default) == true && true)) || decide (j.toNat < (List.map (AV.int IntKind.i64) co).length), !(decide (nx < 0) == false && ((!dn.getD j.toNat default) == true && true)) || true, !(decide (nx < 0) == false && ((!dn.getD j.toNat default) == true && true)) || true, !(decide (nx < 0) == false && ((!dn.getD j.toNat default) == true && true)) || decide (0 ≤ nx), !(decide (nx < 0) == false && ((!dn.getD j.toNat default) == true && true)) || decide (nx.toNat < (List.map (AV.int IntKind.i64) co).length), !(decide (nx < 0) == false && ((!dn.getD j.toNat default) == true && true)) || true, (bif !dn.getD j.toNat default then bif decide (nx < 0) then true else decide (co.getD j.toNat default < co.getD nx.toNat default) else false) == true], [((List.map AV.bool dn).get?Internal j.toNat = some (AV.bool (dn.getD j.toNat default))), ((decide (nx < 0) == false && ((!dn.getD j.toNat default) == true && true)) = true → (List.map (AV.int IntKind.i64) co).get?Internal j.toNat = some (AV.int IntKind.i64 (co.getD j.toNat default))), ((decide (nx < 0) == false && ((!dn.getD j.toNat default) == true && true)) = true → (List.map (AV.int IntKind.i64) co).get?Internal nx.toNat = some (AV.int IntKind.i64 (co.getD nx.toNat default)))], []⟩ (by kernel_rfl) (allB_cons (beq_t (i1.2 d2)) (allB_cons rfl (allB_cons (i3.2 k4) (allB_cons (i6.2 k7) (allB_cons rfl (allB_cons (Bool.or_true _) (allB_cons (i8.2 (fun _ => k4)) (allB_cons (i10.2 k11) (allB_cons (Bool.or_true _) (allB_cons (Bool.or_true _) (allB_cons (i12.2 k13) (allB_cons (i14.2 k15) (allB_cons (Bool.or_true _) (allB_cons (beq_t (i18.2 d19)) allB_nil)))))))))))))) (allP_cons (el_map k7) (allP_cons (fun h => el_map (k11 (i16.1 h))) (allP_cons (fun h => el_map (k15 (i17.1 h))) allP_nil))) allC_nil (by rw [w21] <;> exact H)
    · have H := H.2 d19
      have k22 := H.1; have H := H.2
      have w23 : IntKind.i64.wrap (j + 1) = j + 1 := wI64 k22
      exact path_wp (G := given kp36 [(20, 3, .elem (AV.bool (dn.getD j.toNat default))), (20, 12, .elem (AV.int IntKind.i64 (co.getD j.toNat default))), (20, 16, .elem (AV.int IntKind.i64 (co.getD nx.toNat default)))] []) 1000 [true, false] ⟨(atC (cd Try.f36) [1, 1, 1, 1, 1, 1, 1, 1, 1, 0, 1, 0, 0, 1, 1, 0, 0, 1, 0, 1, 0, 0]), [(0, AV.vec fl 2 (List.map G2.a gs)), (1, AV.vec fw 1 (List.map (AV.int IntKind.i64) w)), (6, AV.row 0 0), (7, AV.row 1 0), (8, AV.row 2 0), (9, AV.row 3 0), (11, AV.int IntKind.i64 s), (12, AV.int IntKind.i64 nx), (62, AV.int IntKind.i64 n), (63, AV.int IntKind.i64 i), (66, AV.int IntKind.i64 m), (67, AV.int IntKind.i64 (IntKind.i64.wrap (j + 1)))], [{ elems := List.map (AV.int IntKind.i64) ps, es := 1, ver := 0, frozen := false, clean := true }, { elems := List.map AV.bool dn, es := 1, ver := 0, frozen := false, clean := true }, { elems := List.map (AV.int IntKind.i64) co, es := 1, ver := 0, frozen := false, clean := true }, { elems := List.map (AV.int IntKind.i64) fr, es := 1, ver := 0, frozen := false, clean := true }], [(decide (j < m)) == true, true, decide (0 ≤ j), decide (j.toNat < (List.map AV.bool dn).length), true, !(decide (nx < 0) == false && ((!dn.getD j.toNat default) == true && true)) || true, !(decide (nx < 0) == false && ((!dn.getD j.toNat default) == true && true)) || decide (0 ≤ j), !(decide (nx < 0) == false && ((!dn.getD j.toNat default) == true && true)) || decide (j.toNat < (List.map (AV.int IntKind.i64) co).length), !(decide (nx < 0) == false && ((!dn.getD j.toNat default) == true && true)) || true, !(decide (nx < 0) == false && ((!dn.getD j.toNat default) == true && true)) || true, !(decide (nx < 0) == false && ((!dn.getD j.toNat default) == true && true)) || decide (0 ≤ nx), !(decide (nx < 0) == false && ((!dn.getD j.toNat default) == true && true)) || decide (nx.toNat < (List.map (AV.int IntKind.i64) co).length), !(decide (nx < 0) == false && ((!dn.getD j.toNat default) == true && true)) || true, (bif !dn.getD j.toNat default then bif decide (nx < 0) then true else decide (co.getD j.toNat default < co.getD nx.toNat default) else false) == false], [((List.map AV.bool dn).get?Internal j.toNat = some (AV.bool (dn.getD j.toNat default))), ((decide (nx < 0) == false && ((!dn.getD j.toNat default) == true && true)) = true → (List.map (AV.int IntKind.i64) co).get?Internal j.toNat = some (AV.int IntKind.i64 (co.getD j.toNat default))), ((decide (nx < 0) == false && ((!dn.getD j.toNat default) == true && true)) = true → (List.map (AV.int IntKind.i64) co).get?Internal nx.toNat = some (AV.int IntKind.i64 (co.getD nx.toNat default)))], []⟩ (by kernel_rfl) (allB_cons (beq_t (i1.2 d2)) (allB_cons rfl (allB_cons (i3.2 k4) (allB_cons (i6.2 k7) (allB_cons rfl (allB_cons (Bool.or_true _) (allB_cons (i8.2 (fun _ => k4)) (allB_cons (i10.2 k11) (allB_cons (Bool.or_true _) (allB_cons (Bool.or_true _) (allB_cons (i12.2 k13) (allB_cons (i14.2 k15) (allB_cons (Bool.or_true _) (allB_cons (beq_f (fun h => d19 (i18.1 h))) allB_nil)))))))))))))) (allP_cons (el_map k7) (allP_cons (fun h => el_map (k11 (i16.1 h))) (allP_cons (fun h => el_map (k15 (i17.1 h))) allP_nil))) allC_nil (by rw [w23] <;> exact H)
  · have H := H.2 d2
    have i24 : (decide (0 ≤ nx)) = true ↔ (0 ≤ nx) := i_dec
    have k25 := H.1; have H := H.2
    have w26 : (List.map AV.bool dn).length = dn.length := List.length_map ..
    have i27 : (decide (nx.toNat < (List.map AV.bool dn).length)) = true ↔ (nx.toNat < dn.length) := (by rw [w26] <;> exact i_dec)
    have k28 := H.1; have H := H.2
    have w29 : (List.map AV.bool dn).set nx.toNat (AV.bool true) = List.map AV.bool (dn.set nx.toNat true) := (lm_set rfl rfl)
    have i30 : (decide (0 ≤ nx)) = true ↔ (0 ≤ nx) := i_dec
    have w31 : (List.map (AV.int IntKind.i64) co).length = co.length := List.length_map ..
    have i32 : (decide (nx.toNat < (List.map (AV.int IntKind.i64) co).length)) = true ↔ (nx.toNat < co.length) := (by rw [w31] <;> exact i_dec)
    have k33 := H.1; have H := H.2
    have k34 := H.1; have H := H.2
    have w35 : IntKind.i64.wrap (s + co.getD nx.toNat default) = s + co.getD nx.toNat default := wI64 k34
    have i36 : (decide (0 ≤ nx)) = true ↔ (0 ≤ nx) := i_dec
    have w37 : (List.map (AV.int IntKind.i64) ps).length = ps.length := List.length_map ..
    have i38 : (decide (nx.toNat < (List.map (AV.int IntKind.i64) ps).length)) = true ↔ (nx.toNat < ps.length) := (by rw [w37] <;> exact i_dec)
    have k39 := H.1; have H := H.2
    have i40 : (decide (0 ≤ nx)) = true ↔ (0 ≤ nx) := i_dec
    have i41 : (decide (nx.toNat < (List.map (AV.int IntKind.i64) ps).length)) = true ↔ (nx.toNat < ps.length) := (by rw [w37] <;> exact i_dec)
    have k42 := H.1; have H := H.2
    have w43 : IntKind.i64.wrap (ps.getD nx.toNat default + 1) = ps.getD nx.toNat default + 1 := wI64 k42
    have w44 : (List.map (AV.int IntKind.i64) ps).set nx.toNat (AV.int IntKind.i64 (ps.getD nx.toNat default + 1)) = List.map (AV.int IntKind.i64) (ps.set nx.toNat (ps.getD nx.toNat default + 1)) := (lm_set rfl rfl)
    have i45 : (decide (0 ≤ nx)) = true ↔ (0 ≤ nx) := i_dec
    have w46 : (List.map (AV.int IntKind.i64) fr).length = fr.length := List.length_map ..
    have i47 : (decide (nx.toNat < (List.map (AV.int IntKind.i64) fr).length)) = true ↔ (nx.toNat < fr.length) := (by rw [w46] <;> exact i_dec)
    have k48 := H.1; have H := H.2
    have i49 : (decide (0 ≤ fr.getD nx.toNat default)) = true ↔ (0 ≤ fr.getD nx.toNat default) := i_dec
    have k50 := H.1; have H := H.2
    have w51 : (List.map (AV.int IntKind.i64) (ps.set nx.toNat (ps.getD nx.toNat default + 1))).length = (ps.set nx.toNat (ps.getD nx.toNat default + 1)).length := List.length_map ..
    have i52 : (decide ((fr.getD nx.toNat default).toNat < ((List.map (AV.int IntKind.i64) ps).set nx.toNat (AV.int IntKind.i64 (IntKind.i64.wrap (ps.getD nx.toNat default + 1)))).length)) = true ↔ ((fr.getD nx.toNat default).toNat < (ps.set nx.toNat (ps.getD nx.toNat default + 1)).length) := (by rw [w43, w44, w51] <;> exact i_dec)
    have k53 := H.1; have H := H.2
    have i54 : (decide (0 ≤ fr.getD nx.toNat default)) = true ↔ (0 ≤ fr.getD nx.toNat default) := i_dec
    have i55 : (decide ((fr.getD nx.toNat default).toNat < ((List.map (AV.int IntKind.i64) ps).set nx.toNat (AV.int IntKind.i64 (IntKind.i64.wrap (ps.getD nx.toNat default + 1)))).length)) = true ↔ ((fr.getD nx.toNat default).toNat < (ps.set nx.toNat (ps.getD nx.toNat default + 1)).length) := (by rw [w43, w44, w51] <;> exact i_dec)
    have k56 := H.1; have H := H.2
    have w57 : IntKind.i64.wrap ((ps.set nx.toNat (ps.getD nx.toNat default + 1)).getD (fr.getD nx.toNat default).toNat default + 1) = (ps.set nx.toNat (ps.getD nx.toNat default + 1)).getD (fr.getD nx.toNat default).toNat default + 1 := wI64 k56
    have w58 : (List.map (AV.int IntKind.i64) (ps.set nx.toNat (ps.getD nx.toNat default + 1))).set (fr.getD nx.toNat default).toNat (AV.int IntKind.i64 ((ps.set nx.toNat (ps.getD nx.toNat default + 1)).getD (fr.getD nx.toNat default).toNat default + 1)) = List.map (AV.int IntKind.i64) ((ps.set nx.toNat (ps.getD nx.toNat default + 1)).set (fr.getD nx.toNat default).toNat ((ps.set nx.toNat (ps.getD nx.toNat default + 1)).getD (fr.getD nx.toNat default).toNat default + 1)) := (lm_set rfl rfl)
    have w59 : (List.map G2.a gs).length = gs.length := List.length_map ..
    exact path_wp (G := given kp36 [(23, 3, .elem (AV.bool (dn.getD nx.toNat default))), (24, 4, .elem (AV.int IntKind.i64 (co.getD nx.toNat default))), (25, 3, .elem (AV.int IntKind.i64 (ps.getD nx.toNat default))), (25, 6, .elem (AV.int IntKind.i64 (ps.getD nx.toNat default))), (26, 4, .elem (AV.int IntKind.i64 (fr.getD nx.toNat default))), (26, 6, .elem (AV.int IntKind.i64 ((ps.set nx.toNat (ps.getD nx.toNat default + 1)).getD (fr.getD nx.toNat default).toNat default))), (26, 9, .elem (AV.int IntKind.i64 ((ps.set nx.toNat (ps.getD nx.toNat default + 1)).getD (fr.getD nx.toNat default).toNat default)))] []) 1000 [false] ⟨(atC (cd Try.f36) [1, 1, 1, 1, 1, 1, 1, 1, 1, 0, 1, 0, 0, 1, 1, 0, 0, 1, 1, 1, 1, 1, 1, 1, 0, 0]), [(0, AV.vec fl 2 (List.map G2.a gs)), (1, AV.vec fw 1 (List.map (AV.int IntKind.i64) w)), (6, AV.row 0 0), (7, AV.row 1 0), (8, AV.row 2 0), (9, AV.row 3 0), (11, AV.int IntKind.i64 (IntKind.i64.wrap (s + co.getD nx.toNat default))), (12, AV.int IntKind.i64 nx), (62, AV.int IntKind.i64 n), (63, AV.int IntKind.i64 i), (117, AV.int IntKind.i64 (↑(List.map G2.a gs).length : Int)), (118, AV.int IntKind.i64 0)], [{ elems := ((List.map (AV.int IntKind.i64) ps).set nx.toNat (AV.int IntKind.i64 (IntKind.i64.wrap (ps.getD nx.toNat default + 1)))).set (fr.getD nx.toNat default).toNat (AV.int IntKind.i64 (IntKind.i64.wrap ((ps.set nx.toNat (ps.getD nx.toNat default + 1)).getD (fr.getD nx.toNat default).toNat default + 1))), es := 1, ver := 0, frozen := false, clean := true }, { elems := (List.map AV.bool dn).set nx.toNat (AV.bool true), es := 1, ver := 0, frozen := false, clean := true }, { elems := List.map (AV.int IntKind.i64) co, es := 1, ver := 0, frozen := false, clean := true }, { elems := List.map (AV.int IntKind.i64) fr, es := 1, ver := 0, frozen := false, clean := true }], [(decide (j < m)) == false, true, decide (0 ≤ nx), decide (nx.toNat < (List.map AV.bool dn).length), true, true, decide (0 ≤ nx), decide (nx.toNat < (List.map (AV.int IntKind.i64) co).length), true, true, decide (0 ≤ nx), decide (nx.toNat < (List.map (AV.int IntKind.i64) ps).length), true, true, decide (0 ≤ nx), decide (nx.toNat < (List.map (AV.int IntKind.i64) ps).length), true, true, decide (0 ≤ nx), decide (nx.toNat < (List.map (AV.int IntKind.i64) fr).length), true, true, decide (0 ≤ fr.getD nx.toNat default), decide ((fr.getD nx.toNat default).toNat < ((List.map (AV.int IntKind.i64) ps).set nx.toNat (AV.int IntKind.i64 (IntKind.i64.wrap (ps.getD nx.toNat default + 1)))).length), true, true, decide (0 ≤ fr.getD nx.toNat default), decide ((fr.getD nx.toNat default).toNat < ((List.map (AV.int IntKind.i64) ps).set nx.toNat (AV.int IntKind.i64 (IntKind.i64.wrap (ps.getD nx.toNat default + 1)))).length), true], [((List.map AV.bool dn).get?Internal nx.toNat = some (AV.bool (dn.getD nx.toNat default))), ((List.map (AV.int IntKind.i64) co).get?Internal nx.toNat = some (AV.int IntKind.i64 (co.getD nx.toNat default))), ((List.map (AV.int IntKind.i64) ps).get?Internal nx.toNat = some (AV.int IntKind.i64 (ps.getD nx.toNat default))), ((List.map (AV.int IntKind.i64) ps).get?Internal nx.toNat = some (AV.int IntKind.i64 (ps.getD nx.toNat default))), ((List.map (AV.int IntKind.i64) fr).get?Internal nx.toNat = some (AV.int IntKind.i64 (fr.getD nx.toNat default))), (((List.map (AV.int IntKind.i64) ps).set nx.toNat (AV.int IntKind.i64 (IntKind.i64.wrap (ps.getD nx.toNat default + 1)))).get?Internal (fr.getD nx.toNat default).toNat = some (AV.int IntKind.i64 ((ps.set nx.toNat (ps.getD nx.toNat default + 1)).getD (fr.getD nx.toNat default).toNat default))), (((List.map (AV.int IntKind.i64) ps).set nx.toNat (AV.int IntKind.i64 (IntKind.i64.wrap (ps.getD nx.toNat default + 1)))).get?Internal (fr.getD nx.toNat default).toNat = some (AV.int IntKind.i64 ((ps.set nx.toNat (ps.getD nx.toNat default + 1)).getD (fr.getD nx.toNat default).toNat default)))], []⟩ (by kernel_rfl) (allB_cons (beq_f (fun h => d2 (i1.1 h))) (allB_cons rfl (allB_cons (i24.2 k25) (allB_cons (i27.2 k28) (allB_cons rfl (allB_cons rfl (allB_cons (i30.2 k25) (allB_cons (i32.2 k33) (allB_cons rfl (allB_cons rfl (allB_cons (i36.2 k25) (allB_cons (i38.2 k39) (allB_cons rfl (allB_cons rfl (allB_cons (i40.2 k25) (allB_cons (i41.2 k39) (allB_cons rfl (allB_cons rfl (allB_cons (i45.2 k25) (allB_cons (i47.2 k48) (allB_cons rfl (allB_cons rfl (allB_cons (i49.2 k50) (allB_cons (i52.2 k53) (allB_cons rfl (allB_cons rfl (allB_cons (i54.2 k50) (allB_cons (i55.2 k53) (allB_cons rfl allB_nil))))))))))))))))))))))))))))) (allP_cons (el_map k28) (allP_cons (el_map k33) (allP_cons (el_map k39) (allP_cons (el_map k39) (allP_cons (el_map k48) (allP_cons (by rw [w43, w44] <;> exact (el_map k53)) (allP_cons (by rw [w43, w44] <;> exact (el_map k53)) allP_nil))))))) allC_nil (by rw [w29, w35, w43, w44, w57, w58, w59] <;> exact H)

theorem v36d (fl fw : Bool) (gs : List G2) (w : List Int) (ps co fr : List Int) (dn : List Bool) (s nx n i m j : Int) (dq : AV) (H :
    ((j < m) → (Sp.inM (gs.getD nx.toNat default).x ∧ Sp.inM (gs.getD nx.toNat default).y ∧ Sp.inM (gs.getD j.toNat default).x ∧ Sp.inM (gs.getD j.toNat default).y) ∧
      (0 ≤ nx) ∧
      (nx.toNat < gs.length) ∧
      (0 ≤ j) ∧
      (j.toNat < gs.length) ∧
      (nx.toNat < w.length) ∧
      (j.toNat < w.length) ∧
      (-9223372036854775808 ≤ Sp.dist (gs.getD nx.toNat default).x (gs.getD nx.toNat default).y (gs.getD j.toNat default).x (gs.getD j.toNat default).y + w.getD nx.toNat default ∧ Sp.dist (gs.getD nx.toNat default).x (gs.getD nx.toNat default).y (gs.getD j.toNat default).x (gs.getD j.toNat default).y + w.getD nx.toNat default ≤ 9223372036854775807) ∧
      (-9223372036854775808 ≤ Sp.dist (gs.getD nx.toNat default).x (gs.getD nx.toNat default).y (gs.getD j.toNat default).x (gs.getD j.toNat default).y + w.getD nx.toNat default + w.getD j.toNat default ∧ Sp.dist (gs.getD nx.toNat default).x (gs.getD nx.toNat default).y (gs.getD j.toNat default).x (gs.getD j.toNat default).y + w.getD nx.toNat default + w.getD j.toNat default ≤ 9223372036854775807) ∧
      (j.toNat < dn.length) ∧
      ((¬(dn.getD j.toNat default = true)) → (j.toNat < co.length)) ∧
      (((¬(dn.getD j.toNat default = true)) ∧ (Sp.dist (gs.getD nx.toNat default).x (gs.getD nx.toNat default).y (gs.getD j.toNat default).x (gs.getD j.toNat default).y + w.getD nx.toNat default + w.getD j.toNat default < co.getD j.toNat default)) → (j.toNat < co.length) ∧
        (j.toNat < fr.length) ∧
        (-9223372036854775808 ≤ j + 1 ∧ j + 1 ≤ 9223372036854775807) ∧
        v36d_at (fl) (fw) (gs) (w) (ps) (co.set j.toNat (Sp.dist (gs.getD nx.toNat default).x (gs.getD nx.toNat default).y (gs.getD j.toNat default).x (gs.getD j.toNat default).y + w.getD nx.toNat default + w.getD j.toNat default)) (fr.set j.toNat nx) (dn) (s) (nx) (n) (i) (m) (j + 1) (PureQ dq)) ∧
      (¬((¬(dn.getD j.toNat default = true)) ∧ (Sp.dist (gs.getD nx.toNat default).x (gs.getD nx.toNat default).y (gs.getD j.toNat default).x (gs.getD j.toNat default).y + w.getD nx.toNat default + w.getD j.toNat default < co.getD j.toNat default)) → (-9223372036854775808 ≤ j + 1 ∧ j + 1 ≤ 9223372036854775807) ∧
        v36d_at (fl) (fw) (gs) (w) (ps) (co) (fr) (dn) (s) (nx) (n) (i) (m) (j + 1) (PureQ dq))) ∧
    (¬(j < m) → (-9223372036854775808 ≤ i + 1 ∧ i + 1 ≤ 9223372036854775807) ∧
      v36b_at (fl) (fw) (gs) (w) (ps) (co) (fr) (dn) (s) (n) (i + 1) (PureQ dq))) :
  v36d_at fl fw gs w ps co fr dn s nx n i m j (PureQ dq) := by
  unfold v36d_at
  have i1 : (decide (j < m)) = true ↔ (j < m) := i_dec
  rcases Classical.em (j < m) with d2 | d2
  · have H := H.1 d2
    have k3 := H.1; have H := H.2
    have i4 : (decide (0 ≤ nx)) = true ↔ (0 ≤ nx) := i_dec
    have k5 := H.1; have H := H.2
    have w6 : (List.map G2.a gs).length = gs.length := List.length_map ..
    have i7 : (decide (nx.toNat < (List.map G2.a gs).length)) = true ↔ (nx.toNat < gs.length) := (by rw [w6] <;> exact i_dec)
    have k8 := H.1; have H := H.2
    have i9 : (decide (0 ≤ j)) = true ↔ (0 ≤ j) := i_dec
    have k10 := H.1; have H := H.2
    have i11 : (decide (j.toNat < (List.map G2.a gs).length)) = true ↔ (j.toNat < gs.length) := (by rw [w6] <;> exact i_dec)
    have k12 := H.1; have H := H.2
    have i13 : (decide (0 ≤ nx)) = true ↔ (0 ≤ nx) := i_dec
    have w14 : (List.map (AV.int IntKind.i64) w).length = w.length := List.length_map ..
    have i15 : (decide (nx.toNat < (List.map (AV.int IntKind.i64) w).length)) = true ↔ (nx.toNat < w.length) := (by rw [w14] <;> exact i_dec)
    have k16 := H.1; have H := H.2
    have i17 : (decide (0 ≤ j)) = true ↔ (0 ≤ j) := i_dec
    have i18 : (decide (j.toNat < (List.map (AV.int IntKind.i64) w).length)) = true ↔ (j.toNat < w.length) := (by rw [w14] <;> exact i_dec)
    have k19 := H.1; have H := H.2
    have k20 := H.1; have H := H.2
    have w21 : IntKind.i64.wrap (Sp.dist (gs.getD nx.toNat default).x (gs.getD nx.toNat default).y (gs.getD j.toNat default).x (gs.getD j.toNat default).y + w.getD nx.toNat default) = Sp.dist (gs.getD nx.toNat default).x (gs.getD nx.toNat default).y (gs.getD j.toNat default).x (gs.getD j.toNat default).y + w.getD nx.toNat default := wI64 k20
    have k22 := H.1; have H := H.2
    have w23 : IntKind.i64.wrap (Sp.dist (gs.getD nx.toNat default).x (gs.getD nx.toNat default).y (gs.getD j.toNat default).x (gs.getD j.toNat default).y + w.getD nx.toNat default + w.getD j.toNat default) = Sp.dist (gs.getD nx.toNat default).x (gs.getD nx.toNat default).y (gs.getD j.toNat default).x (gs.getD j.toNat default).y + w.getD nx.toNat default + w.getD j.toNat default := wI64 k22
    have i24 : (decide (0 ≤ j)) = true ↔ (0 ≤ j) := i_dec
    have w25 : (List.map AV.bool dn).length = dn.length := List.length_map ..
    have i26 : (decide (j.toNat < (List.map AV.bool dn).length)) = true ↔ (j.toNat < dn.length) := (by rw [w25] <;> exact i_dec)
    have k27 := H.1; have H := H.2
    have i28 : (!((!dn.getD j.toNat default) == true && true) || decide (0 ≤ j)) = true ↔ ((¬(dn.getD j.toNat default = true)) → (0 ≤ j)) := (i_imp (i_at (i_bt (i_not (i_var _)))) i_dec)
    have w29 : (List.map (AV.int IntKind.i64) co).length = co.length := List.length_map ..
    have i30 : (!((!dn.getD j.toNat default) == true && true) || decide (j.toNat < (List.map (AV.int IntKind.i64) co).length)) = true ↔ ((¬(dn.getD j.toNat default = true)) → (j.toNat < co.length)) := (by rw [w29] <;> exact (i_imp (i_at (i_bt (i_not (i_var _)))) i_dec))
    have k31 := H.1; have H := H.2
    have i32 : ((!dn.getD j.toNat default) == true && true) = true ↔ (¬(dn.getD j.toNat default = true)) := (i_at (i_bt (i_not (i_var _))))
    have i33 : (bif !dn.getD j.toNat default then decide (IntKind.i64.wrap (IntKind.i64.wrap (Sp.dist (gs.getD nx.toNat default).x (gs.getD nx.toNat default).y (gs.getD j.toNat default).x (gs.getD j.toNat default).y + w.getD nx.toNat default) + w.getD j.toNat default) < co.getD j.toNat default) else false) = true ↔ ((¬(dn.getD j.toNat default = true)) ∧ (Sp.dist (gs.getD nx.toNat default).x (gs.getD nx.toNat default).y (gs.getD j.toNat default).x (gs.getD j.toNat default).y + w.getD nx.toNat default + w.getD j.toNat default < co.getD j.toNat default)) := (by rw [w21, w23] <;> exact (i_band (i_not (i_var _)) i_dec))
    rcases Classical.em ((¬(dn.getD j.toNat default = true)) ∧ (Sp.dist (gs.getD nx.toNat default).x (gs.getD nx.toNat default).y (gs.getD j.toNat default).x (gs.getD j.toNat default).y + w.getD nx.toNat default + w.getD j.toNat default < co.getD j.toNat default)) with d34 | d34
    · have H := H.1 d34
      have i35 : (decide (0 ≤ j)) = true ↔ (0 ≤ j) := i_dec
      have i36 : (decide (j.toNat < (List.map (AV.int IntKind.i64) co).length)) = true ↔ (j.toNat < co.length) := (by rw [w29] <;> exact i_dec)
      have k37 := H.1; have H := H.2
      have i38 : (decide (0 ≤ j)) = true ↔ (0 ≤ j) := i_dec
      have w39 : (List.map (AV.int IntKind.i64) fr).length = fr.length := List.length_map ..
      have i40 : (decide (j.toNat < (List.map (AV.int IntKind.i64) fr).length)) = true ↔ (j.toNat < fr.length) := (by rw [w39] <;> exact i_dec)
      have k41 := H.1; have H := H.2
      have w42 : (List.map (AV.int IntKind.i64) co).set j.toNat (AV.int IntKind.i64 (Sp.dist (gs.getD nx.toNat default).x (gs.getD nx.toNat default).y (gs.getD j.toNat default).x (gs.getD j.toNat default).y + w.getD nx.toNat default + w.getD j.toNat default)) = List.map (AV.int IntKind.i64) (co.set j.toNat (Sp.dist (gs.getD nx.toNat default).x (gs.getD nx.toNat default).y (gs.getD j.toNat default).x (gs.getD j.toNat default).y + w.getD nx.toNat default + w.getD j.toNat default)) := (lm_set rfl rfl)
      have w43 : (List.map (AV.int IntKind.i64) fr).set j.toNat (AV.int IntKind.i64 nx) = List.map (AV.int IntKind.i64) (fr.set j.toNat nx) := (lm_set rfl rfl)
      have k44 := H.1; have H := H.2
      have w45 : IntKind.i64.wrap (j + 1) = j + 1 := wI64 k44
      exact path_wp (G := given kp36 [(30, 3, .elem (AV.agg [AV.int IntKind.i64 (gs.getD nx.toNat default).x, AV.int IntKind.i64 (gs.getD nx.toNat default).y])), (30, 7, .elem (AV.agg [AV.int IntKind.i64 (gs.getD j.toNat default).x, AV.int IntKind.i64 (gs.getD j.toNat default).y])), (30, 8, .call (AV.int IntKind.i64 (Sp.dist (gs.getD nx.toNat default).x (gs.getD nx.toNat default).y (gs.getD j.toNat default).x (gs.getD j.toNat default).y)) none), (30, 12, .elem (AV.int IntKind.i64 (w.getD nx.toNat default))), (30, 17, .elem (AV.int IntKind.i64 (w.getD j.toNat default))), (31, 3, .elem (AV.bool (dn.getD j.toNat default))), (31, 10, .elem (AV.int IntKind.i64 (co.getD j.toNat default))), (32, 7, .elem (AV.int IntKind.i64 (co.getD j.toNat default))), (32, 9, .elem (AV.int IntKind.i64 (fr.getD j.toNat default)))] []) 1000 [true, true] ⟨(atC (cd Try.f36) [1, 1, 1, 1, 1, 1, 1, 1, 1, 0, 1, 0, 0, 1, 1, 0, 0, 1, 1, 1, 1, 1, 1, 1, 0, 0]), [(0, AV.vec fl 2 (List.map G2.a gs)), (1, AV.vec fw 1 (List.map (AV.int IntKind.i64) w)), (6, AV.row 0 0), (7, AV.row 1 0), (8, AV.row 2 0), (9, AV.row 3 0), (11, AV.int IntKind.i64 s), (12, AV.int IntKind.i64 nx), (62, AV.int IntKind.i64 n), (63, AV.int IntKind.i64 i), (117, AV.int IntKind.i64 m), (118, AV.int IntKind.i64 (IntKind.i64.wrap (j + 1)))], [{ elems := List.map (AV.int IntKind.i64) ps, es := 1, ver := 0, frozen := false, clean := true }, { elems := List.map AV.bool dn, es := 1, ver := 0, frozen := false, clean := true }, { elems := (List.map (AV.int IntKind.i64) co).set j.toNat (AV.int IntKind.i64 (IntKind.i64.wrap (IntKind.i64.wrap (Sp.dist (gs.getD nx.toNat default).x (gs.getD nx.toNat default).y (gs.getD j.toNat default).x (gs.getD j.toNat default).y + w.getD nx.toNat default) + w.getD j.toNat default))), es := 1, ver := 0, frozen := false, clean := true }, { elems := (List.map (AV.int IntKind.i64) fr).set j.toNat (AV.int IntKind.i64 nx), es := 1, ver := 0, frozen := false, clean := true }], [(decide (j < m)) == true, decide (0 ≤ nx), decide (nx.toNat < (List.map G2.a gs).length), decide (0 ≤ j), decide (j.toNat < (List.map G2.a gs).length), decide (0 ≤ nx), decide (nx.toNat < (List.map (AV.int IntKind.i64) w).length), decide (0 ≤ j), decide (j.toNat < (List.map (AV.int IntKind.i64) w).length), true, decide (0 ≤ j), decide (j.toNat < (List.map AV.bool dn).length), true, !((!dn.getD j.toNat default) == true && true) || true, !((!dn.getD j.toNat default) == true && true) || decide (0 ≤ j), !((!dn.getD j.toNat default) == true && true) || decide (j.toNat < (List.map (AV.int IntKind.i64) co).length), !((!dn.getD j.toNat default) == true && true) || true, (bif !dn.getD j.toNat default then decide (IntKind.i64.wrap (IntKind.i64.wrap (Sp.dist (gs.getD nx.toNat default).x (gs.getD nx.toNat default).y (gs.getD j.toNat default).x (gs.getD j.toNat default).y + w.getD nx.toNat default) + w.getD j.toNat default) < co.getD j.toNat default) else false) == true, true, decide (0 ≤ j), decide (j.toNat < (List.map (AV.int IntKind.i64) co).length), true, true, decide (0 ≤ j), decide (j.toNat < (List.map (AV.int IntKind.i64) fr).length), true], [((List.map G2.a gs).get?Internal nx.toNat = some (AV.agg [AV.int IntKind.i64 (gs.getD nx.toNat default).x, AV.int IntKind.i64 (gs.getD nx.toNat default).y])), ((List.map G2.a gs).get?Internal j.toNat = some (AV.agg [AV.int IntKind.i64 (gs.getD j.toNat default).x, AV.int IntKind.i64 (gs.getD j.toNat default).y])), ((List.map (AV.int IntKind.i64) w).get?Internal nx.toNat = some (AV.int IntKind.i64 (w.getD nx.toNat default))), ((List.map (AV.int IntKind.i64) w).get?Internal j.toNat = some (AV.int IntKind.i64 (w.getD j.toNat default))), ((List.map AV.bool dn).get?Internal j.toNat = some (AV.bool (dn.getD j.toNat default))), (((!dn.getD j.toNat default) == true && true) = true → (List.map (AV.int IntKind.i64) co).get?Internal j.toNat = some (AV.int IntKind.i64 (co.getD j.toNat default))), ((List.map (AV.int IntKind.i64) co).get?Internal j.toNat = some (AV.int IntKind.i64 (co.getD j.toNat default))), ((List.map (AV.int IntKind.i64) fr).get?Internal j.toNat = some (AV.int IntKind.i64 (fr.getD j.toNat default)))], [⟨true, false, 15, [AV.agg [AV.int IntKind.i64 (gs.getD nx.toNat default).x, AV.int IntKind.i64 (gs.getD nx.toNat default).y], AV.agg [AV.int IntKind.i64 (gs.getD j.toNat default).x, AV.int IntKind.i64 (gs.getD j.toNat default).y]], [], AV.int IntKind.i64 (Sp.dist (gs.getD nx.toNat default).x (gs.getD nx.toNat default).y (gs.getD j.toNat default).x (gs.getD j.toNat default).y), []⟩]⟩ (by kernel_rfl) (allB_cons (beq_t (i1.2 d2)) (allB_cons (i4.2 k5) (allB_cons (i7.2 k8) (allB_cons (i9.2 k10) (allB_cons (i11.2 k12) (allB_cons (i13.2 k5) (allB_cons (i15.2 k16) (allB_cons (i17.2 k10) (allB_cons (i18.2 k19) (allB_cons rfl (allB_cons (i24.2 k10) (allB_cons (i26.2 k27) (allB_cons rfl (allB_cons (Bool.or_true _) (allB_cons (i28.2 (fun _ => k10)) (allB_cons (i30.2 k31) (allB_cons (Bool.or_true _) (allB_cons (beq_t (i33.2 d34)) (allB_cons rfl (allB_cons (i35.2 k10) (allB_cons (i36.2 k37) (allB_cons rfl (allB_cons rfl (allB_cons (i38.2 k10) (allB_cons (i40.2 k41) (allB_cons rfl allB_nil)))))))))))))))))))))))))) (allP_cons (el_map k8) (allP_cons (el_map k12) (allP_cons (el_map k16) (allP_cons (el_map k19) (allP_cons (el_map k27) (allP_cons (fun h => el_map (k31 (i32.1 h))) (allP_cons (el_map k37) (allP_cons (el_map k41) allP_nil)))))))) (allC_cons (fun _ => ((@ev15 ((gs.getD nx.toNat default).x) ((gs.getD nx.toNat default).y) ((gs.getD j.toNat default).x) ((gs.getD j.toNat default).y) k3) : Ev M1 (Conf.pure 15 [AV.agg [AV.int IntKind.i64 (gs.getD nx.toNat default).x, AV.int IntKind.i64 (gs.getD nx.toNat default).y], AV.agg [AV.int IntKind.i64 (gs.getD j.toNat default).x, AV.int IntKind.i64 (gs.getD j.toNat default).y]]) (AV.int IntKind.i64 (Sp.dist (gs.getD nx.toNat default).x (gs.getD nx.toNat default).y (gs.getD j.toNat default).x (gs.getD j.toNat default).y)) [])) allC_nil) (by rw [w21, w23, w42, w43, w45] <;> exact H)
    · have H := H.2 d34
      have k46 := H.1; have H := H.2
      have w47 : IntKind.i64.wrap (j + 1) = j + 1 := wI64 k46
      exact path_wp (G := given kp36 [(30, 3, .elem (AV.agg [AV.int IntKind.i64 (gs.getD nx.toNat default).x, AV.int IntKind.i64 (gs.getD nx.toNat default).y])), (30, 7, .elem (AV.agg [AV.int IntKind.i64 (gs.getD j.toNat default).x, AV.int IntKind.i64 (gs.getD j.toNat default).y])), (30, 8, .call (AV.int IntKind.i64 (Sp.dist (gs.getD nx.toNat default).x (gs.getD nx.toNat default).y (gs.getD j.toNat default).x (gs.getD j.toNat default).y)) none), (30, 12, .elem (AV.int IntKind.i64 (w.getD nx.toNat default))), (30, 17, .elem (AV.int IntKind.i64 (w.getD j.toNat default))), (31, 3, .elem (AV.bool (dn.getD j.toNat default))), (31, 10, .elem (AV.int IntKind.i64 (co.getD j.toNat default)))] []) 1000 [true, false] ⟨(atC (cd Try.f36) [1, 1, 1, 1, 1, 1, 1, 1, 1, 0, 1, 0, 0, 1, 1, 0, 0, 1, 1, 1, 1, 1, 1, 1, 0, 0]), [(0, AV.vec fl 2 (List.map G2.a gs)), (1, AV.vec fw 1 (List.map (AV.int IntKind.i64) w)), (6, AV.row 0 0), (7, AV.row 1 0), (8, AV.row 2 0), (9, AV.row 3 0), (11, AV.int IntKind.i64 s), (12, AV.int IntKind.i64 nx), (62, AV.int IntKind.i64 n), (63, AV.int IntKind.i64 i), (117, AV.int IntKind.i64 m), (118, AV.int IntKind.i64 (IntKind.i64.wrap (j + 1)))], [{ elems := List.map (AV.int IntKind.i64) ps, es := 1, ver := 0, frozen := false, clean := true }, { elems := List.map AV.bool dn, es := 1, ver := 0, frozen := false, clean := true }, { elems := List.map (AV.int IntKind.i64) co, es := 1, ver := 0, frozen := false, clean := true }, { elems := List.map (AV.int IntKind.i64) fr, es := 1, ver := 0, frozen := false, clean := true }], [(decide (j < m)) == true, decide (0 ≤ nx), decide (nx.toNat < (List.map G2.a gs).length), decide (0 ≤ j), decide (j.toNat < (List.map G2.a gs).length), decide (0 ≤ nx), decide (nx.toNat < (List.map (AV.int IntKind.i64) w).length), decide (0 ≤ j), decide (j.toNat < (List.map (AV.int IntKind.i64) w).length), true, decide (0 ≤ j), decide (j.toNat < (List.map AV.bool dn).length), true, !((!dn.getD j.toNat default) == true && true) || true, !((!dn.getD j.toNat default) == true && true) || decide (0 ≤ j), !((!dn.getD j.toNat default) == true && true) || decide (j.toNat < (List.map (AV.int IntKind.i64) co).length), !((!dn.getD j.toNat default) == true && true) || true, (bif !dn.getD j.toNat default then decide (IntKind.i64.wrap (IntKind.i64.wrap (Sp.dist (gs.getD nx.toNat default).x (gs.getD nx.toNat default).y (gs.getD j.toNat default).x (gs.getD j.toNat default).y + w.getD nx.toNat default) + w.getD j.toNat default) < co.getD j.toNat default) else false) == false], [((List.map G2.a gs).get?Internal nx.toNat = some (AV.agg [AV.int IntKind.i64 (gs.getD nx.toNat default).x, AV.int IntKind.i64 (gs.getD nx.toNat default).y])), ((List.map G2.a gs).get?Internal j.toNat = some (AV.agg [AV.int IntKind.i64 (gs.getD j.toNat default).x, AV.int IntKind.i64 (gs.getD j.toNat default).y])), ((List.map (AV.int IntKind.i64) w).get?Internal nx.toNat = some (AV.int IntKind.i64 (w.getD nx.toNat default))), ((List.map (AV.int IntKind.i64) w).get?Internal j.toNat = some (AV.int IntKind.i64 (w.getD j.toNat default))), ((List.map AV.bool dn).get?Internal j.toNat = some (AV.bool (dn.getD j.toNat default))), (((!dn.getD j.toNat default) == true && true) = true → (List.map (AV.int IntKind.i64) co).get?Internal j.toNat = some (AV.int IntKind.i64 (co.getD j.toNat default)))], [⟨true, false, 15, [AV.agg [AV.int IntKind.i64 (gs.getD nx.toNat default).x, AV.int IntKind.i64 (gs.getD nx.toNat default).y], AV.agg [AV.int IntKind.i64 (gs.getD j.toNat default).x, AV.int IntKind.i64 (gs.getD j.toNat default).y]], [], AV.int IntKind.i64 (Sp.dist (gs.getD nx.toNat default).x (gs.getD nx.toNat default).y (gs.getD j.toNat default).x (gs.getD j.toNat default).y), []⟩]⟩ (by kernel_rfl) (allB_cons (beq_t (i1.2 d2)) (allB_cons (i4.2 k5) (allB_cons (i7.2 k8) (allB_cons (i9.2 k10) (allB_cons (i11.2 k12) (allB_cons (i13.2 k5) (allB_cons (i15.2 k16) (allB_cons (i17.2 k10) (allB_cons (i18.2 k19) (allB_cons rfl (allB_cons (i24.2 k10) (allB_cons (i26.2 k27) (allB_cons rfl (allB_cons (Bool.or_true _) (allB_cons (i28.2 (fun _ => k10)) (allB_cons (i30.2 k31) (allB_cons (Bool.or_true _) (allB_cons (beq_f (fun h => d34 (i33.1 h))) allB_nil)))))))))))))))))) (allP_cons (el_map k8) (allP_cons (el_map k12) (allP_cons (el_map k16) (allP_cons (el_map k19) (allP_cons (el_map k27) (allP_cons (fun h => el_map (k31 (i32.1 h))) allP_nil)))))) (allC_cons (fun _ => ((@ev15 ((gs.getD nx.toNat default).x) ((gs.getD nx.toNat default).y) ((gs.getD j.toNat default).x) ((gs.getD j.toNat default).y) k3) : Ev M1 (Conf.pure 15 [AV.agg [AV.int IntKind.i64 (gs.getD nx.toNat default).x, AV.int IntKind.i64 (gs.getD nx.toNat default).y], AV.agg [AV.int IntKind.i64 (gs.getD j.toNat default).x, AV.int IntKind.i64 (gs.getD j.toNat default).y]]) (AV.int IntKind.i64 (Sp.dist (gs.getD nx.toNat default).x (gs.getD nx.toNat default).y (gs.getD j.toNat default).x (gs.getD j.toNat default).y)) [])) allC_nil) (by rw [w47] <;> exact H)
  · have H := H.2 d2
    have k48 := H.1; have H := H.2
    have w49 : IntKind.i64.wrap (i + 1) = i + 1 := wI64 k48
    exact path_wp (G := given kp36 [] []) 1000 [false] ⟨(atC (cd Try.f36) [1, 1, 1, 1, 1, 1, 1, 1, 1, 0, 1, 0, 0]), [(0, AV.vec fl 2 (List.map G2.a gs)), (1, AV.vec fw 1 (List.map (AV.int IntKind.i64) w)), (6, AV.row 0 0), (7, AV.row 1 0), (8, AV.row 2 0), (9, AV.row 3 0), (11, AV.int IntKind.i64 s), (62, AV.int IntKind.i64 n), (63, AV.int IntKind.i64 (IntKind.i64.wrap (i + 1)))], [{ elems := List.map (AV.int IntKind.i64) ps, es := 1, ver := 0, frozen := false, clean := true }, { elems := List.map AV.bool dn, es := 1, ver := 0, frozen := false, clean := true }, { elems := List.map (AV.int IntKind.i64) co, es := 1, ver := 0, frozen := false, clean := true }, { elems := List.map (AV.int IntKind.i64) fr, es := 1, ver := 0, frozen := false, clean := true }], [(decide (j < m)) == false], [], []⟩ (by kernel_rfl) (allB_cons (beq_f (fun h => d2 (i1.1 h))) allB_nil) allP_nil allC_nil (by rw [w49] <;> exact H)


end Go.Av

/- PATHS, written by a program of the prover's. -/
namespace Go.Av
open Go.Proofs
set_option maxRecDepth 100000
def fi37 : Fi := ⟨78, [.tmp 4]⟩
def kp37 : List (Nat × List Nat) := [(0, [0, 1]), (1, [0, 1, 5]), (2, [0, 1, 5, 6]), (3, [0, 1, 5, 6, 17]), (4, [0, 1, 5, 6, 7, 8]), (5, [0, 1, 5, 6, 7, 8, 9]), (6, [0, 1, 5, 6, 7, 8, 9, 21]), (7, [0, 1, 5, 6, 7, 8, 9]), (8, [0, 1, 5, 6, 7, 8, 9, 10]), (9, [0, 1, 5, 6, 7, 8, 9, 10, 27]), (10, [0, 1, 5, 6, 7, 8, 9, 10]), (11, [0, 1, 5, 6, 7, 8, 9, 10, 11]), (12, [0, 1, 5, 6, 7, 8, 9, 10, 11, 67]), (13, [0, 1, 5, 6, 7, 8, 9, 10]), (14, [0, 1, 5, 6, 7]), (15, [0, 1, 5, 6]), (16, [4])]
def v37_at (fl fw : Bool) (gs : List G2) (w : List Int) (Q : AV → Heap → Prop) : Prop := Wp M1 (.run fi37 (atC (cd Try.f37) []) [(0, .vec fl 2 (gs.map G2.a)), (1, .vec fw 1 (w.map (.int .i64)))] []) Q
def v37a_at (fl fw : Bool) (gs : List G2) (w : List Int) (s : Int) (o : List Int) (v : Nat) (Q : AV → Heap → Prop) : Prop := Wp M1 (.run fi37 (atC (cd Try.f37) [1, 1, 1, 0, 0, 0]) [(0, .vec fl 2 (gs.map G2.a)), (1, .vec fw 1 (w.map (.int .i64))), (5, .int .i64 s), (6, .row 0 v)] [⟨o.map (.int .i64), 1, v, false, true⟩]) Q
def v37b_at (fl fw : Bool) (gs : List G2) (w : List Int) (s nx le i : Int) (o : List Int) (v : Nat) (Q : AV → Heap → Prop) : Prop := Wp M1 (.run fi37 (atC (cd Try.f37) [1, 1, 1, 0, 0, 0, 1, 0, 1, 0, 1, 0, 0]) [(0, .vec fl 2 (gs.map G2.a)), (1, .vec fw 1 (w.map (.int .i64))), (5, .int .i64 s), (6, .row 0 v), (7, .int .i64 nx), (8, .int .i64 le), (9, .int .i64 i)] [⟨o.map (.int .i64), 1, v, false, true⟩]) Q
def v37c_at (fl fw : Bool) (gs : List G2) (w : List Int) (s nx le i k : Int) (o : List Int) (v : Nat) (Q : AV → Heap → Prop) : Prop := Wp M1 (.run fi37 (atC (cd Try.f37) [1, 1, 1, 0, 0, 0, 1, 0, 1, 0, 1, 0, 0, 1, 0, 0, 1, 0, 0]) [(0, .vec fl 2 (gs.map G2.a)), (1, .vec fw 1 (w.map (.int .i64))), (5, .int .i64 s), (6, .row 0 v), (7, .int .i64 nx), (8, .int .i64 le), (9, .int .i64 i), (10, .int .i64 k)] [⟨o.map (.int .i64), 1, v, false, true⟩]) Q
theorem call37 {args : List AV} {d : AV} (h : Wp M1 (.run fi37 [.code (cd Try.f37)] (argVars 0 args) []) (PureQ d)) : Ev M1 (.pure 37 args) d [] :=
  pure_pq Try.f37 fi37 (by kernel_rfl) (by kernel_rfl) (by kernel_rfl) (by kernel_rfl) h
theorem owncall37 {args : List AV} {L : Heap} {Q : AV → Heap → Prop} (h : Wp M1 (.run fi37 [.code (cd Try.f37)] (argVars 0 args) L) Q) : Wp M1 (.own 37 args L) Q :=
  own_wp Try.f37 fi37 (by kernel_rfl) (by kernel_rfl) (by kernel_rfl) (by kernel_rfl) h
theorem keepcall37 {args : List AV} {L : Heap} {v : AV} {K : Heap} (hk : keepOk L.length v K = true) (h : Wp M1 (.run fi37 [.code (cd Try.f37)] (argVars 0 args) L) (KeepQ v K)) : Ev M1 (.own 37 args L) v K :=
  own_keep Try.f37 fi37 (by kernel_rfl) (by kernel_rfl) (by kernel_rfl) (by kernel_rfl) hk h
theorem v37 (fl fw : Bool) (gs : List G2) (w : List Int) (dq : AV) (H :
    v37a_at (fl) (fw) (gs) (w) (0) ([0]) (0) (PureQ dq)) :
  v37_at fl fw gs w (PureQ dq) := by
  unfold v37_at
  have w1 : [AV.int IntKind.i64 0] = List.map (AV.int IntKind.i64) [0] := rfl
  exact path_wp (G := given kp37 [(2, 0, .keep)] []) 1000 [] ⟨(atC (cd Try.f37) [1, 1, 1, 0, 0, 0]), [(0, AV.vec fl 2 (List.map G2.a gs)), (1, AV.vec fw 1 (List.map (AV.int IntKind.i64) w)), (5, AV.int IntKind.i64 0), (6, AV.row 0 0)], [{ elems := [AV.int IntKind.i64 0], es := 1, ver := 0, frozen := false, clean := true }], [], [], []⟩ (by kernel_rfl) allB_nil allP_nil allC_nil (by rw [w1] <;> exact H)

theorem v37a (fl fw : Bool) (gs : List G2) (w : List Int) (s : Int) (o : List Int) (v : Nat) (dq : AV) (H :
    (((↑o.length : Int) < (↑gs.length : Int)) → v37b_at (fl) (fw) (gs) (w) (s) (-1) (0) (0) (o) (v) (PureQ dq)) ∧
    (¬((↑o.length : Int) < (↑gs.length : Int)) → AV.int IntKind.i64 s = dq)) :
  v37a_at fl fw gs w s o v (PureQ dq) := by
  unfold v37a_at
  have w1 : (List.map (AV.int IntKind.i64) o).length = o.length := List.length_map ..
  have w2 : (List.map G2.a gs).length = gs.length := List.length_map ..
  have i3 : (decide ((↑(List.map (AV.int IntKind.i64) o).length : Int) < (↑(List.map G2.a gs).length : Int))) = true ↔ ((↑o.length : Int) < (↑gs.length : Int)) := (by rw [w1, w2] <;> exact i_dec)
  rcases Classical.em ((↑o.length : Int) < (↑gs.length : Int)) with d4 | d4
  · have H := H.1 d4
    exact path_wp (G := given kp37 [] []) 1000 [true] ⟨(atC (cd Try.f37) [1, 1, 1, 0, 0, 0, 1, 0, 1, 0, 1, 0, 0]), [(0, AV.vec fl 2 (List.map G2.a gs)), (1, AV.vec fw 1 (List.map (AV.int IntKind.i64) w)), (5, AV.int IntKind.i64 s), (6, AV.row 0 v), (7, AV.int IntKind.i64 (-1)), (8, AV.int IntKind.i64 0), (9, AV.int IntKind.i64 0)], [{ elems := List.map (AV.int IntKind.i64) o, es := 1, ver := v, frozen := false, clean := true }], [v == v, (decide ((↑(List.map (AV.int IntKind.i64) o).length : Int) < (↑(List.map G2.a gs).length : Int))) == true], [], []⟩ (by kernel_rfl) (allB_cons (beq_self_eq_true _) (allB_cons (beq_t (i3.2 d4)) allB_nil)) allP_nil allC_nil (H)
  · have H := H.2 d4
    exact path_ret (G := given kp37 [] []) 1000 [false] (k := ((atC (cd Try.f37) [1, 1, 1, 1, 1])).tail) (env' := [(4, AV.int IntKind.i64 s)]) (L' := [{ elems := List.map (AV.int IntKind.i64) o, es := 1, ver := v, frozen := false, clean := true }]) (asm := [v == v, (decide ((↑(List.map (AV.int IntKind.i64) o).length : Int) < (↑(List.map G2.a gs).length : Int))) == false]) (eqs := []) (calls := []) (AV.int IntKind.i64 s) (by kernel_rfl) (by kernel_rfl) (allB_cons (beq_self_eq_true _) (allB_cons (beq_f (fun h => d4 (i3.1 h))) allB_nil)) allP_nil allC_nil (pq_of (d := AV.int IntKind.i64 s) (bs := []) (by kernel_rfl) (by kernel_rfl) allB_nil (by kernel_rfl) H)

theorem v37b (fl fw : Bool) (gs : List G2) (w : List Int) (s nx le i : Int) (o : List Int) (v : Nat) (dq : AV) (H :
    ((i < (↑o.length : Int)) → v37c_at (fl) (fw) (gs) (w) (s) (nx) (le) (i) (0) (o) (v) (PureQ dq)) ∧
    (¬(i < (↑o.length : Int)) → (-9223372036854775808 ≤ s + le ∧ s + le ≤ 9223372036854775807) ∧
      ((o.length + 1) * 8 ≤ 1099511627776) ∧
      v37a_at (fl) (fw) (gs) (w) (s + le) (o ++ [nx]) (v + 1) (PureQ dq))) :
  v37b_at fl fw gs w s nx le i o v (PureQ dq) := by
  unfold v37b_at
  have w1 : (List.map (AV.int IntKind.i64) o).length = o.length := List.length_map ..
  have i2 : (decide (i < (↑(List.map (AV.int IntKind.i64) o).length : Int))) = true ↔ (i < (↑o.length : Int)) := (by rw [w1] <;> exact i_dec)
  rcases Classical.em (i < (↑o.length : Int)) with d3 | d3
  · have H := H.1 d3
    exact path_wp (G := given kp37 [] []) 1000 [true] ⟨(atC (cd Try.f37) [1, 1, 1, 0, 0, 0, 1, 0, 1, 0, 1, 0, 0, 1, 0, 0, 1, 0, 0]), [(0, AV.vec fl 2 (List.map G2.a gs)), (1, AV.vec fw 1 (List.map (AV.int IntKind.i64) w)), (5, AV.int IntKind.i64 s), (6, AV.row 0 v), (7, AV.int IntKind.i64 nx), (8, AV.int IntKind.i64 le), (9, AV.int IntKind.i64 i), (10, AV.int IntKind.i64 0)], [{ elems := List.map (AV.int IntKind.i64) o, es := 1, ver := v, frozen := false, clean := true }], [v == v, (decide (i < (↑(List.map (AV.int IntKind.i64) o).length : Int))) == true], [], []⟩ (by kernel_rfl) (allB_cons (beq_self_eq_true _) (allB_cons (beq_t (i2.2 d3)) allB_nil)) allP_nil allC_nil (H)
  · have H := H.2 d3
    have k4 := H.1; have H := H.2
    have w5 : IntKind.i64.wrap (s + le) = s + le := wI64 k4
    have i6 : (decide (((List.map (AV.int IntKind.i64) o).length + 1) * 8 ≤ 1099511627776)) = true ↔ ((o.length + 1) * 8 ≤ 1099511627776) := (by rw [w1] <;> exact i_dec)
    have k7 := H.1; have H := H.2
    have w8 : List.map (AV.int IntKind.i64) o ++ [AV.int IntKind.i64 nx] = List.map (AV.int IntKind.i64) (o ++ [nx]) := (lm_app rfl rfl)
    exact path_wp (G := given kp37 [] []) 1000 [false] ⟨(atC (cd Try.f37) [1, 1, 1, 0, 0, 0]), [(0, AV.vec fl 2 (List.map G2.a gs)), (1, AV.vec fw 1 (List.map (AV.int IntKind.i64) w)), (5, AV.int IntKind.i64 (IntKind.i64.wrap (s + le))), (6, AV.row 0 (v + 1))], [{ elems := List.map (AV.int IntKind.i64) o ++ [AV.int IntKind.i64 nx], es := 1, ver := v + 1, frozen := false, clean := true }], [v == v, (decide (i < (↑(List.map (AV.int IntKind.i64) o).length : Int))) == false, v == v, decide (((List.map (AV.int IntKind.i64) o).length + 1) * 8 ≤ 1099511627776)], [], []⟩ (by kernel_rfl) (allB_cons (beq_self_eq_true _) (allB_cons (beq_f (fun h => d3 (i2.1 h))) (allB_cons (beq_self_eq_true _) (allB_cons (i6.2 k7) allB_nil)))) allP_nil allC_nil (by rw [w5, w8] <;> exact H)

theorem v37c (fl fw : Bool) (gs : List G2) (w : List Int) (s nx le i k : Int) (o : List Int) (v : Nat) (dq : AV) (H :
    ((k < (↑gs.length : Int)) → (Sp.inM (gs.getD (o.getD i.toNat default).toNat default).x ∧ Sp.inM (gs.getD (o.getD i.toNat default).toNat default).y ∧ Sp.inM (gs.getD k.toNat default).x ∧ Sp.inM (gs.getD k.toNat default).y) ∧
      (0 ≤ i) ∧
      (i.toNat < o.length) ∧
      (0 ≤ o.getD i.toNat default) ∧
      ((o.getD i.toNat default).toNat < gs.length) ∧
      (0 ≤ k) ∧
      (k.toNat < gs.length) ∧
      ((o.getD i.toNat default).toNat < w.length) ∧
      (k.toNat < w.length) ∧
      (-9223372036854775808 ≤ Sp.dist (gs.getD (o.getD i.toNat default).toNat default).x (gs.getD (o.getD i.toNat default).toNat default).y (gs.getD k.toNat default).x (gs.getD k.toNat default).y + w.getD (o.getD i.toNat default).toNat default ∧ Sp.dist (gs.getD (o.getD i.toNat default).toNat default).x (gs.getD (o.getD i.toNat default).toNat default).y (gs.getD k.toNat default).x (gs.getD k.toNat default).y + w.getD (o.getD i.toNat default).toNat default ≤ 9223372036854775807) ∧
      (-9223372036854775808 ≤ Sp.dist (gs.getD (o.getD i.toNat default).toNat default).x (gs.getD (o.getD i.toNat default).toNat default).y (gs.getD k.toNat default).x (gs.getD k.toNat default).y + w.getD (o.getD i.toNat default).toNat default + w.getD k.toNat default ∧ Sp.dist (gs.getD (o.getD i.toNat default).toNat default).x (gs.getD (o.getD i.toNat default).toNat default).y (gs.getD k.toNat default).x (gs.getD k.toNat default).y + w.getD (o.getD i.toNat default).toNat default + w.getD k.toNat default ≤ 9223372036854775807) ∧
      (o.length ≤ 1000000) ∧
      (((¬(Sp.has o k = true)) ∧ ((nx < 0) ∨ (Sp.dist (gs.getD (o.getD i.toNat default).toNat default).x (gs.getD (o.getD i.toNat default).toNat default).y (gs.getD k.toNat default).x (gs.getD k.toNat default).y + w.getD (o.getD i.toNat default).toNat default + w.getD k.toNat default < le))) → (-9223372036854775808 ≤ k + 1 ∧ k + 1 ≤ 9223372036854775807) ∧
        v37c_at (fl) (fw) (gs) (w) (s) (k) (Sp.dist (gs.getD (o.getD i.toNat default).toNat default).x (gs.getD (o.getD i.toNat default).toNat default).y (gs.getD k.toNat default).x (gs.getD k.toNat default).y + w.getD (o.getD i.toNat default).toNat default + w.getD k.toNat default) (i) (k + 1) (o) (v) (PureQ dq)) ∧
      (¬((¬(Sp.has o k = true)) ∧ ((nx < 0) ∨ (Sp.dist (gs.getD (o.getD i.toNat default).toNat default).x (gs.getD (o.getD i.toNat default).toNat default).y (gs.getD k.toNat default).x (gs.getD k.toNat default).y + w.getD (o.getD i.toNat default).toNat default + w.getD k.toNat default < le))) → (-9223372036854775808 ≤ k + 1 ∧ k + 1 ≤ 9223372036854775807) ∧
        v37c_at (fl) (fw) (gs) (w) (s) (nx) (le) (i) (k + 1) (o) (v) (PureQ dq))) ∧
    (¬(k < (↑gs.length : Int)) → (-9223372036854775808 ≤ i + 1 ∧ i + 1 ≤ 9223372036854775807) ∧
      v37b_at (fl) (fw) (gs) (w) (s) (nx) (le) (i + 1) (o) (v) (PureQ dq))) :
  v37c_at fl fw gs w s nx le i k o v (PureQ dq) := by
  unfold v37c_at
  have w1 : (List.map G2.a gs).length = gs.length := List.length_map ..
  have i2 : (decide (k < (↑(List.map G2.a gs).length : Int))) = true ↔ (k < (↑gs.length : Int)) := (by rw [w1] <;> exact i_dec)
  rcases Classical.em (k < (↑gs.length : Int)) with d3 | d3
  · have H := H.1 d3
    have k4 := H.1; have H := H.2
    have i5 : (decide (0 ≤ i)) = true ↔ (0 ≤ i) := i_dec
    have k6 := H.1; have H := H.2
    have w7 : (List.map (AV.int IntKind.i64) o).length = o.length := List.length_map ..
    have i8 : (decide (i.toNat < (List.map (AV.int IntKind.i64) o).length)) = true ↔ (i.toNat < o.length) := (by rw [w7] <;> exact i_dec)
    have k9 := H.1; have H := H.2
    have i10 : (decide (0 ≤ o.getD i.toNat default)) = true ↔ (0 ≤ o.getD i.toNat default) := i_dec
    have k11 := H.1; have H := H.2
    have i12 : (decide ((o.getD i.toNat default).toNat < (List.map G2.a gs).length)) = true ↔ ((o.getD i.toNat default).toNat < gs.length) := (by rw [w1] <;> exact i_dec)
    have k13 := H.1; have H := H.2
    have i14 : (decide (0 ≤ k)) = true ↔ (0 ≤ k) := i_dec
    have k15 := H.1; have H := H.2
    have i16 : (decide (k.toNat < (List.map G2.a gs).length)) = true ↔ (k.toNat < gs.length) := (by rw [w1] <;> exact i_dec)
    have k17 := H.1; have H := H.2
    have i18 : (decide (0 ≤ i)) = true ↔ (0 ≤ i) := i_dec
    have i19 : (decide (i.toNat < (List.map (AV.int IntKind.i64) o).length)) = true ↔ (i.toNat < o.length) := (by rw [w7] <;> exact i_dec)
    have i20 : (decide (0 ≤ o.getD i.toNat default)) = true ↔ (0 ≤ o.getD i.toNat default) := i_dec
    have w21 : (List.map (AV.int IntKind.i64) w).length = w.length := List.length_map ..
    have i22 : (decide ((o.getD i.toNat default).toNat < (List.map (AV.int IntKind.i64) w).length)) = true ↔ ((o.getD i.toNat default).toNat < w.length) := (by rw [w21] <;> exact i_dec)
    have k23 := H.1; have H := H.2
    have i24 : (decide (0 ≤ k)) = true ↔ (0 ≤ k) := i_dec
    have i25 : (decide (k.toNat < (List.map (AV.int IntKind.i64) w).length)) = true ↔ (k.toNat < w.length) := (by rw [w21] <;> exact i_dec)
    have k26 := H.1; have H := H.2
    have k27 := H.1; have H := H.2
    have w28 : IntKind.i64.wrap (Sp.dist (gs.getD (o.getD i.toNat default).toNat default).x (gs.getD (o.getD i.toNat default).toNat default).y (gs.getD k.toNat default).x (gs.getD k.toNat default).y + w.getD (o.getD i.toNat default).toNat default) = Sp.dist (gs.getD (o.getD i.toNat default).toNat default).x (gs.getD (o.getD i.toNat default).toNat default).y (gs.getD k.toNat default).x (gs.getD k.toNat default).y + w.getD (o.getD i.toNat default).toNat default := wI64 k27
    have k29 := H.1; have H := H.2
    have w30 : IntKind.i64.wrap (Sp.dist (gs.getD (o.getD i.toNat default).toNat default).x (gs.getD (o.getD i.toNat default).toNat default).y (gs.getD k.toNat default).x (gs.getD k.toNat default).y + w.getD (o.getD i.toNat default).toNat default + w.getD k.toNat default) = Sp.dist (gs.getD (o.getD i.toNat default).toNat default).x (gs.getD (o.getD i.toNat default).toNat default).y (gs.getD k.toNat default).x (gs.getD k.toNat default).y + w.getD (o.getD i.toNat default).toNat default + w.getD k.toNat default := wI64 k29
    have k31 := H.1; have H := H.2
    have i32 : (bif !Sp.has o k then bif decide (nx < 0) then true else decide (IntKind.i64.wrap (IntKind.i64.wrap (Sp.dist (gs.getD (o.getD i.toNat default).toNat default).x (gs.getD (o.getD i.toNat default).toNat default).y (gs.getD k.toNat default).x (gs.getD k.toNat default).y + w.getD (o.getD i.toNat default).toNat default) + w.getD k.toNat default) < le) else false) = true ↔ ((¬(Sp.has o k = true)) ∧ ((nx < 0) ∨ (Sp.dist (gs.getD (o.getD i.toNat default).toNat default).x (gs.getD (o.getD i.toNat default).toNat default).y (gs.getD k.toNat default).x (gs.getD k.toNat default).y + w.getD (o.getD i.toNat default).toNat default + w.getD k.toNat default < le))) := (by rw [w28, w30] <;> exact (i_band (i_not (i_var _)) (i_bor i_dec i_dec)))
    rcases Classical.em ((¬(Sp.has o k = true)) ∧ ((nx < 0) ∨ (Sp.dist (gs.getD (o.getD i.toNat default).toNat default).x (gs.getD (o.getD i.toNat default).toNat default).y (gs.getD k.toNat default).x (gs.getD k.toNat default).y + w.getD (o.getD i.toNat default).toNat default + w.getD k.toNat default < le))) with d33 | d33
    · have H := H.1 d33
      have k34 := H.1; have H := H.2
      have w35 : IntKind.i64.wrap (k + 1) = k + 1 := wI64 k34
      exact path_wp (G := given kp37 [(11, 4, .elem (AV.int IntKind.i64 (o.getD i.toNat default))), (11, 6, .elem (AV.agg [AV.int IntKind.i64 (gs.getD (o.getD i.toNat default).toNat default).x, AV.int IntKind.i64 (gs.getD (o.getD i.toNat default).toNat default).y])), (11, 10, .elem (AV.agg [AV.int IntKind.i64 (gs.getD k.toNat default).x, AV.int IntKind.i64 (gs.getD k.toNat default).y])), (11, 11, .call (AV.int IntKind.i64 (Sp.dist (gs.getD (o.getD i.toNat default).toNat default).x (gs.getD (o.getD i.toNat default).toNat default).y (gs.getD k.toNat default).x (gs.getD k.toNat default).y)) none), (11, 16, .elem (AV.int IntKind.i64 (o.getD i.toNat default))), (11, 18, .elem (AV.int IntKind.i64 (w.getD (o.getD i.toNat default).toNat default))), (11, 23, .elem (AV.int IntKind.i64 (w.getD k.toNat default))), (12, 2, .call (AV.bool (Sp.has o k)) none)] []) 1000 [true, true] ⟨(atC (cd Try.f37) [1, 1, 1, 0, 0, 0, 1, 0, 1, 0, 1, 0, 0, 1, 0, 0, 1, 0, 0]), [(0, AV.vec fl 2 (List.map G2.a gs)), (1, AV.vec fw 1 (List.map (AV.int IntKind.i64) w)), (5, AV.int IntKind.i64 s), (6, AV.row 0 v), (7, AV.int IntKind.i64 k), (8, AV.int IntKind.i64 (IntKind.i64.wrap (IntKind.i64.wrap (Sp.dist (gs.getD (o.getD i.toNat default).toNat default).x (gs.getD (o.getD i.toNat default).toNat default).y (gs.getD k.toNat default).x (gs.getD k.toNat default).y + w.getD (o.getD i.toNat default).toNat default) + w.getD k.toNat default))), (9, AV.int IntKind.i64 i), (10, AV.int IntKind.i64 (IntKind.i64.wrap (k + 1)))], [{ elems := List.map (AV.int IntKind.i64) o, es := 1, ver := v, frozen := false, clean := true }], [(decide (k < (↑(List.map G2.a gs).length : Int))) == true, v == v, decide (0 ≤ i), decide (i.toNat < (List.map (AV.int IntKind.i64) o).length), v == v, decide (0 ≤ o.getD i.toNat default), decide ((o.getD i.toNat default).toNat < (List.map G2.a gs).length), decide (0 ≤ k), decide (k.toNat < (List.map G2.a gs).length), v == v, decide (0 ≤ i), decide (i.toNat < (List.map (AV.int IntKind.i64) o).length), v == v, decide (0 ≤ o.getD i.toNat default), decide ((o.getD i.toNat default).toNat < (List.map (AV.int IntKind.i64) w).length), decide (0 ≤ k), decide (k.toNat < (List.map (AV.int IntKind.i64) w).length), v == v, (bif !Sp.has o k then bif decide (nx < 0) then true else decide (IntKind.i64.wrap (IntKind.i64.wrap (Sp.dist (gs.getD (o.getD i.toNat default).toNat default).x (gs.getD (o.getD i.toNat default).toNat default).y (gs.getD k.toNat default).x (gs.getD k.toNat default).y + w.getD (o.getD i.toNat default).toNat default) + w.getD k.toNat default) < le) else false) == true], [((List.map (AV.int IntKind.i64) o).get?Internal i.toNat = some (AV.int IntKind.i64 (o.getD i.toNat default))), ((List.map G2.a gs).get?Internal (o.getD i.toNat default).toNat = some (AV.agg [AV.int IntKind.i64 (gs.getD (o.getD i.toNat default).toNat default).x, AV.int IntKind.i64 (gs.getD (o.getD i.toNat default).toNat default).y])), ((List.map G2.a gs).get?Internal k.toNat = some (AV.agg [AV.int IntKind.i64 (gs.getD k.toNat default).x, AV.int IntKind.i64 (gs.getD k.toNat default).y])), ((List.map (AV.int IntKind.i64) o).get?Internal i.toNat = some (AV.int IntKind.i64 (o.getD i.toNat default))), ((List.map (AV.int IntKind.i64) w).get?Internal (o.getD i.toNat default).toNat = some (AV.int IntKind.i64 (w.getD (o.getD i.toNat default).toNat default))), ((List.map (AV.int IntKind.i64) w).get?Internal k.toNat = some (AV.int IntKind.i64 (w.getD k.toNat default)))], [⟨true, false, 16, [AV.agg [AV.int IntKind.i64 (gs.getD (o.getD i.toNat default).toNat default).x, AV.int IntKind.i64 (gs.getD (o.getD i.toNat default).toNat default).y], AV.agg [AV.int IntKind.i64 (gs.getD k.toNat default).x, AV.int IntKind.i64 (gs.getD k.toNat default).y]], [], AV.int IntKind.i64 (Sp.dist (gs.getD (o.getD i.toNat default).toNat default).x (gs.getD (o.getD i.toNat default).toNat default).y (gs.getD k.toNat default).x (gs.getD k.toNat default).y), []⟩, ⟨true, false, 35, [AV.vec false 1 (List.map (AV.int IntKind.i64) o), AV.int IntKind.i64 k], [], AV.bool (Sp.has o k), []⟩]⟩ (by kernel_rfl) (allB_cons (beq_t (i2.2 d3)) (allB_cons (beq_self_eq_true _) (allB_cons (i5.2 k6) (allB_cons (i8.2 k9) (allB_cons (beq_self_eq_true _) (allB_cons (i10.2 k11) (allB_cons (i12.2 k13) (allB_cons (i14.2 k15) (allB_cons (i16.2 k17) (allB_cons (beq_self_eq_true _) (allB_cons (i18.2 k6) (allB_cons (i19.2 k9) (allB_cons (beq_self_eq_true _) (allB_cons (i20.2 k11) (allB_cons (i22.2 k23) (allB_cons (i24.2 k15) (allB_cons (i25.2 k26) (allB_cons (beq_self_eq_true _) (allB_cons (beq_t (i32.2 d33)) allB_nil))))))))))))))))))) (allP_cons (el_map k9) (allP_cons (el_map k13) (allP_cons (el_map k17) (allP_cons (el_map k9) (allP_cons (el_map k23) (allP_cons (el_map k26) allP_nil)))))) (allC_cons (fun _ => ((@ev16 ((gs.getD (o.getD i.toNat default).toNat default).x) ((gs.getD (o.getD i.toNat default).toNat default).y) ((gs.getD k.toNat default).x) ((gs.getD k.toNat default).y) k4) : Ev M1 (Conf.pure 16 [AV.agg [AV.int IntKind.i64 (gs.getD (o.getD i.toNat default).toNat default).x, AV.int IntKind.i64 (gs.getD (o.getD i.toNat default).toNat default).y], AV.agg [AV.int IntKind.i64 (gs.getD k.toNat default).x, AV.int IntKind.i64 (gs.getD k.toNat default).y]]) (AV.int IntKind.i64 (Sp.dist (gs.getD (o.getD i.toNat default).toNat default).x (gs.getD (o.getD i.toNat default).toNat default).y (gs.getD k.toNat default).x (gs.getD k.toNat default).y)) [])) (allC_cons (fun _ => ((@ev35 (false) (o) (k) k31) : Ev M1 (Conf.pure 35 [AV.vec false 1 (List.map (AV.int IntKind.i64) o), AV.int IntKind.i64 k]) (AV.bool (Sp.has o k)) [])) allC_nil)) (by rw [w28, w30, w35] <;> exact H)
    · have H := H.2 d33
      have k36 := H.1; have H := H.2
      have w37 : IntKind.i64.wrap (k + 1) = k + 1 := wI64 k36
      exact path_wp (G := given kp37 [(11, 4, .elem (AV.int IntKind.i64 (o.getD i.toNat default))), (11, 6, .elem (AV.agg [AV.int IntKind.i64 (gs.getD (o.getD i.toNat default).toNat default).x, AV.int IntKind.i64 (gs.getD (o.getD i.toNat default).toNat default).y])), (11, 10, .elem (AV.agg [AV.int IntKind.i64 (gs.getD k.toNat default).x, AV.int IntKind.i64 (gs.getD k.toNat default).y])), (11, 11, .call (AV.int IntKind.i64 (Sp.dist (gs.getD (o.getD i.toNat default).toNat default).x (gs.getD (o.getD i.toNat default).toNat default).y (gs.getD k.toNat default).x (gs.getD k.toNat default).y)) none), (11, 16, .elem (AV.int IntKind.i64 (o.getD i.toNat default))), (11, 18, .elem (AV.int IntKind.i64 (w.getD (o.getD i.toNat default).toNat default))), (11, 23, .elem (AV.int IntKind.i64 (w.getD k.toNat default))), (12, 2, .call (AV.bool (Sp.has o k)) none)] []) 1000 [true, false] ⟨(atC (cd Try.f37) [1, 1, 1, 0, 0, 0, 1, 0, 1, 0, 1, 0, 0, 1, 0, 0, 1, 0, 0]), [(0, AV.vec fl 2 (List.map G2.a gs)), (1, AV.vec fw 1 (List.map (AV.int IntKind.i64) w)), (5, AV.int IntKind.i64 s), (6, AV.row 0 v), (7, AV.int IntKind.i64 nx), (8, AV.int IntKind.i64 le), (9, AV.int IntKind.i64 i), (10, AV.int IntKind.i64 (IntKind.i64.wrap (k + 1)))], [{ elems := List.map (AV.int IntKind.i64) o, es := 1, ver := v, frozen := false, clean := true }], [(decide (k < (↑(List.map G2.a gs).length : Int))) == true, v == v, decide (0 ≤ i), decide (i.toNat < (List.map (AV.int IntKind.i64) o).length), v == v, decide (0 ≤ o.getD i.toNat default), decide ((o.getD i.toNat default).toNat < (List.map G2.a gs).length), decide (0 ≤ k), decide (k.toNat < (List.map G2.a gs).length), v == v, decide (0 ≤ i), decide (i.toNat < (List.map (AV.int IntKind.i64) o).length), v == v, decide (0 ≤ o.getD i.toNat default), decide ((o.getD i.toNat default).toNat < (List.map (AV.int IntKind.i64) w).length), decide (0 ≤ k), decide (k.toNat < (List.map (AV.int IntKind.i64) w).length), v == v, (bif !Sp.has o k then bif decide (nx < 0) then true else decide (IntKind.i64.wrap (IntKind.i64.wrap (Sp.dist (gs.getD (o.getD i.toNat default).toNat default).x (gs.getD (o.getD i.toNat default).toNat default).y (gs.getD k.toNat default).x (gs.getD k.toNat default).y + w.getD (o.getD i.toNat default).toNat default) + w.getD k.toNat default) < le) else false) == false], [((List.map (AV.int IntKind.i64) o).get?Internal i.toNat = some (AV.int IntKind.i64 (o.getD i.toNat default))), ((List.map G2.a gs).get?Internal (o.getD i.toNat default).toNat = some (AV.agg [AV.int IntKind.i64 (gs.getD (o.getD i.toNat default).toNat default).x, AV.int IntKind.i64 (gs.getD (o.getD i.toNat default).toNat default).y])), ((List.map G2.a gs).get?Internal k.toNat = some (AV.agg [AV.int IntKind.i64 (gs.getD k.toNat default).x, AV.int IntKind.i64 (gs.getD k.toNat default).y])), ((List.map (AV.int IntKind.i64) o).get?Internal i.toNat = some (AV.int IntKind.i64 (o.getD i.toNat default))), ((List.map (AV.int IntKind.i64) w).get?Internal (o.getD i.toNat default).toNat = some (AV.int IntKind.i64 (w.getD (o.getD i.toNat default).toNat default))), ((List.map (AV.int IntKind.i64) w).get?Internal k.toNat = some (AV.int IntKind.i64 (w.getD k.toNat default)))], [⟨true, false, 16, [AV.agg [AV.int IntKind.i64 (gs.getD (o.getD i.toNat default).toNat default).x, AV.int IntKind.i64 (gs.getD (o.getD i.toNat default).toNat default).y], AV.agg [AV.int IntKind.i64 (gs.getD k.toNat default).x, AV.int IntKind.i64 (gs.getD k.toNat default).y]], [], AV.int IntKind.i64 (Sp.dist (gs.getD (o.getD i.toNat default).toNat default).x (gs.getD (o.getD i.toNat default).toNat default).y (gs.getD k.toNat default).x (gs.getD k.toNat default).y), []⟩, ⟨true, false, 35, [AV.vec false 1 (List.map (AV.int IntKind.i64) o), AV.int IntKind.i64 k], [], AV.bool (Sp.has o k), []⟩]⟩ (by kernel_rfl) (allB_cons (beq_t (i2.2 d3)) (allB_cons (beq_self_eq_true _) (allB_cons (i5.2 k6) (allB_cons (i8.2 k9) (allB_cons (beq_self_eq_true _) (allB_cons (i10.2 k11) (allB_cons (i12.2 k13) (allB_cons (i14.2 k15) (allB_cons (i16.2 k17) (allB_cons (beq_self_eq_true _) (allB_cons (i18.2 k6) (allB_cons (i19.2 k9) (allB_cons (beq_self_eq_true _) (allB_cons (i20.2 k11) (allB_cons (i22.2 k23) (allB_cons (i24.2 k15) (allB_cons (i25.2 k26) (allB_cons (beq_self_eq_true _) (allB_cons (beq_f (fun h => d33 (i32.1 h))) allB_nil))))))))))))))))))) (allP_cons (el_map k9) (allP_cons (el_map k13) (allP_cons (el_map k17) (allP_cons (el_map k9) (allP_cons (el_map k23) (allP_cons (el_map k26) allP_nil)))))) (allC_cons (fun _ => ((@ev16 ((gs.getD (o.getD i.toNat default).toNat default).x) ((gs.getD (o.getD i.toNat default).toNat default).y) ((gs.getD k.toNat default).x) ((gs.getD k.toNat default).y) k4) : Ev M1 (Conf.pure 16 [AV.agg [AV.int IntKind.i64 (gs.getD (o.getD i.toNat default).toNat default).x, AV.int IntKind.i64 (gs.getD (o.getD i.toNat default).toNat default).y], AV.agg [AV.int IntKind.i64 (gs.getD k.toNat default).x, AV.int IntKind.i64 (gs.getD k.toNat default).y]]) (AV.int IntKind.i64 (Sp.dist (gs.getD (o.getD i.toNat default).toNat default).x (gs.getD (o.getD i.toNat default).toNat default).y (gs.getD k.toNat default).x (gs.getD k.toNat default).y)) [])) (allC_cons (fun _ => ((@ev35 (false) (o) (k) k31) : Ev M1 (Conf.pure 35 [AV.vec false 1 (List.map (AV.int IntKind.i64) o), AV.int IntKind.i64 k]) (AV.bool (Sp.has o k)) [])) allC_nil)) (by rw [w37] <;> exact H)
  · have H := H.2 d3
    have k38 := H.1; have H := H.2
    have w39 : IntKind.i64.wrap (i + 1) = i + 1 := wI64 k38
    exact path_wp (G := given kp37 [] []) 1000 [false] ⟨(atC (cd Try.f37) [1, 1, 1, 0, 0, 0, 1, 0, 1, 0, 1, 0, 0]), [(0, AV.vec fl 2 (List.map G2.a gs)), (1, AV.vec fw 1 (List.map (AV.int IntKind.i64) w)), (5, AV.int IntKind.i64 s), (6, AV.row 0 v), (7, AV.int IntKind.i64 nx), (8, AV.int IntKind.i64 le), (9, AV.int IntKind.i64 (IntKind.i64.wrap (i + 1)))], [{ elems := List.map (AV.int IntKind.i64) o, es := 1, ver := v, frozen := false, clean := true }], [(decide (k < (↑(List.map G2.a gs).length : Int))) == false], [], []⟩ (by kernel_rfl) (allB_cons (beq_f (fun h => d3 (i2.1 h))) allB_nil) allP_nil allC_nil (by rw [w39] <;> exact H)


end Go.Av

/- WHAT tree OF THE REFERENCE ANSWERS: the cost of a least spanning tree. -/
namespace Go.Av
open Go.Proofs

namespace Sp
/-- The cost of a pair. -/
def cw (gs : List G2) (w : List Int) (i j : Int) : Int := dAt gs i j + w.getD i.toNat default + w.getD j.toNat default
noncomputable def rest (gs : List G2) (w : List Int) (S : List Int) : Int := Mst.rem (cw gs w) gs.length S
/-- The cost of a least spanning tree with weights. -/
noncomputable def mst (gs : List G2) (w : List Int) : Int := if gs.length = 0 then 0 else rest gs w [0]
def okW (w : List Int) : Prop := ∀ x ∈ w, -20000000 ≤ x ∧ x ≤ 20000000
end Sp

theorem dAt_symm (gs : List G2) (i j : Int) : Sp.dAt gs i j = Sp.dAt gs j i := by
  unfold Sp.dAt Sp.dist Sp.gap
  (repeat' split) <;> omega
theorem cw_symm (gs : List G2) (w : List Int) (i j : Int) : Sp.cw gs w i j = Sp.cw gs w j i := by
  unfold Sp.cw
  rw [dAt_symm]; omega
theorem okW_at {w : List Int} (h : Sp.okW w) (k : Nat) : -20000000 ≤ w.getD k default ∧ w.getD k default ≤ 20000000 := by
  by_cases hk : k < w.length
  · exact h _ (getD_mem hk)
  · have : w.getD k default = 0 := by simp [List.getD_eq_getElem?_getD, List.getElem?_eq_none (by omega : w.length ≤ k)]
    omega
theorem cw_le {gs : List G2} {w : List Int} (hg : Sp.okG gs) (hw : Sp.okW w) (i j : Int) : -40000000 ≤ Sp.cw gs w i j ∧ Sp.cw gs w i j ≤ 60000000 := by
  have h1 := dAt_le hg i j
  have h2 := okW_at hw i.toNat
  have h3 := okW_at hw j.toNat
  unfold Sp.cw
  omega

/-- The cheapest pair among those seen. -/
def Pick (gs : List G2) (w o : List Int) (nx le : Int) (seen : Nat → Int → Prop) : Prop :=
  (nx = -1 ∧ le = 0 ∧ ∀ (x : Nat) (y : Int), x < o.length → (0 ≤ y ∧ y < gs.length) → seen x y → y ∈ o) ∨
  ((0 ≤ nx ∧ nx < gs.length ∧ nx ∉ o) ∧ (∃ a ∈ o, le = Sp.cw gs w a nx) ∧ ∀ (x : Nat) (y : Int), x < o.length → (0 ≤ y ∧ y < gs.length) → y ∉ o → seen x y → le ≤ Sp.cw gs w (o.getD x default) y)

theorem Pick.more {gs : List G2} {w o : List Int} {nx le : Int} {s s' : Nat → Int → Prop} (h : Pick gs w o nx le s) (hs : ∀ (x : Nat) (y : Int), x < o.length → (0 ≤ y ∧ y < gs.length) → s' x y → s x y) : Pick gs w o nx le s' := by
  rcases h with ⟨h1, h2, h3⟩ | ⟨h1, h2, h3⟩
  · exact .inl ⟨h1, h2, fun x y hx hy hxy => h3 x y hx hy (hs x y hx hy hxy)⟩
  · exact .inr ⟨h1, h2, fun x y hx hy ho hxy => h3 x y hx hy ho (hs x y hx hy hxy)⟩

theorem loop37c {fl fw : Bool} {gs : List G2} {w o : List Int} {s : Int} {v i : Nat} {dq : AV} (hg : Sp.okG gs) (hl : gs.length ≤ 1000) (hw : Sp.okW w) (hwl : w.length = gs.length) (ho : o.length ≤ 1000) (hr : ∀ x ∈ o, 0 ≤ x ∧ x < gs.length) (hi : i < o.length)
    (cont : ∀ nx le, Pick gs w o nx le (fun x _ => x < i + 1) → v37b_at fl fw gs w s nx le (i + 1 : Nat) o v (PureQ dq)) :
    ∀ (k y : Nat) (nx le : Int), y + k = gs.length → Pick gs w o nx le (fun x z => x < i ∨ (x = i ∧ z < y)) → v37c_at fl fw gs w s nx le i y o v (PureQ dq) := by
  have hri := hr _ (getD_mem hi)
  intro k
  induction k with
  | zero =>
    intro y nx le hy hp
    refine v37c _ _ _ _ _ _ _ _ _ _ _ _ ⟨fun h => by omega, fun _ => ⟨by omega, ?_⟩⟩
    exact cont nx le (hp.more fun x z hx hz h => by omega)
  | succ k ih =>
    intro y nx le hy hp
    refine v37c _ _ _ _ _ _ _ _ _ _ _ _ ⟨fun _ => ?_, fun h => by omega⟩
    rw [Int.toNat_natCast, Int.toNat_natCast]
    have e : ∀ z, z = o.getD i default → Sp.dist (gs.getD z.toNat default).x (gs.getD z.toNat default).y (gs.getD y default).x (gs.getD y default).y + w.getD z.toNat default + w.getD y default = Sp.cw gs w z y := fun z _ => rfl
    have e2 : ∀ z, z = o.getD i default → Sp.dist (gs.getD z.toNat default).x (gs.getD z.toNat default).y (gs.getD y default).x (gs.getD y default).y = Sp.dAt gs z y := fun z _ => rfl
    rw [e _ rfl, e2 _ rfl]
    have hc := cw_le hg hw (o.getD i default) y
    have hd := dAt_le hg (o.getD i default) y
    have hw1 := okW_at hw (o.getD i default).toNat
    refine ⟨⟨(okG_at hg _).1, (okG_at hg _).2, (okG_at hg _).1, (okG_at hg _).2⟩, by omega, by omega, hri.1, by omega, by omega, by omega, by omega, by omega, by omega, by omega, by omega, fun h => ⟨by omega, ?_⟩, fun h => ⟨by omega, ?_⟩⟩
    · refine ih (y + 1) y _ (by omega) (.inr ⟨⟨by omega, by omega, fun hm => h.1 (has_iff.2 hm)⟩, ⟨_, getD_mem hi, rfl⟩, ?_⟩)
      intro x z hx hz hzo hs
      by_cases hxz : x = i ∧ z = y
      · obtain ⟨rfl, rfl⟩ := hxz; exact Int.le_refl _
      · have hs' : x < i ∨ (x = i ∧ z < y) := by omega
        rcases hp with ⟨h1, h2, h3⟩ | ⟨h1, h2, h3⟩
        · exact absurd (h3 x z hx hz hs') hzo
        · have := h3 x z hx hz hzo hs'
          omega
    · refine ih (y + 1) nx le (by omega) ?_
      rcases hp with ⟨h1, h2, h3⟩ | ⟨h1, h2, h3⟩
      · refine .inl ⟨h1, h2, fun x z hx hz hs => ?_⟩
        by_cases hxz : x = i ∧ z = y
        · obtain ⟨rfl, rfl⟩ := hxz
          by_cases hm : (y : Int) ∈ o
          · exact hm
          · exact absurd ⟨fun k => hm (has_iff.1 k), .inl (by omega)⟩ h
        · exact h3 x z hx hz (by omega)
      · refine .inr ⟨h1, h2, fun x z hx hz hzo hs => ?_⟩
        by_cases hxz : x = i ∧ z = y
        · obtain ⟨rfl, rfl⟩ := hxz
          by_cases hlt : Sp.cw gs w (o.getD x default) y < le
          · exact absurd ⟨fun k => hzo (has_iff.1 k), .inr hlt⟩ h
          · omega
        · exact h3 x z hx hz hzo (by omega)

theorem loop37b {fl fw : Bool} {gs : List G2} {w o : List Int} {s : Int} {v : Nat} {dq : AV} (hg : Sp.okG gs) (hl : gs.length ≤ 1000) (hw : Sp.okW w) (hwl : w.length = gs.length) (ho : o.length ≤ 1000) (hr : ∀ x ∈ o, 0 ≤ x ∧ x < gs.length) (hs : -1000000000000 ≤ s ∧ s ≤ 1000000000000)
    (cont : ∀ nx le, Pick gs w o nx le (fun _ _ => True) → v37a_at fl fw gs w (s + le) (o ++ [nx]) (v + 1) (PureQ dq)) :
    ∀ (k i : Nat) (nx le : Int), i + k = o.length → Pick gs w o nx le (fun x _ => x < i) → (-40000000 ≤ le ∧ le ≤ 60000000) → v37b_at fl fw gs w s nx le i o v (PureQ dq) := by
  intro k
  induction k with
  | zero =>
    intro i nx le hi hp hle
    exact v37b _ _ _ _ _ _ _ _ _ _ _ ⟨fun h => by omega, fun _ => ⟨by omega, by omega, cont nx le (hp.more fun x y hx hy _ => by omega)⟩⟩
  | succ k ih =>
    intro i nx le hi hp hle
    refine v37b _ _ _ _ _ _ _ _ _ _ _ ⟨fun _ => ?_, fun h => by omega⟩
    refine loop37c hg hl hw hwl ho hr (by omega) (fun nx le hp => ih (i + 1) nx le (by omega) hp ?_) gs.length 0 nx le (by omega) (hp.more fun x y hx hy h => by omega)
    rcases hp with ⟨h1, h2, h3⟩ | ⟨h1, ⟨a, h2, h4⟩, h3⟩
    · omega
    · have := cw_le hg hw a nx; omega

theorem mem_getD {o : List Int} {x : Int} (h : x ∈ o) : ∃ i, i < o.length ∧ o.getD i default = x := by
  obtain ⟨i, hi, rfl⟩ := List.getElem_of_mem h
  exact ⟨i, hi, by simp [hi]⟩

theorem loop37 {fl fw : Bool} {gs : List G2} {w : List Int} {dq : AV} (hg : Sp.okG gs) (hl : gs.length ≤ 1000) (hw : Sp.okW w) (hwl : w.length = gs.length) :
    ∀ (k : Nat) (o : List Int) (s : Int) (v : Nat), o.length + k = gs.length → o.Nodup → (∀ x ∈ o, 0 ≤ x ∧ x < gs.length) → o ≠ [] → (-60000000 * (1000 - k) ≤ s ∧ s ≤ 60000000 * (1000 - k)) → AV.int .i64 (s + Sp.rest gs w o) = dq → v37a_at fl fw gs w s o v (PureQ dq) := by
  intro k
  induction k with
  | zero =>
    intro o s v hk hd hr h0 hs hq
    have : Sp.rest gs w o = 0 := Mst.rem_full (cw_symm gs w) hd hr h0 (by omega)
    rw [this, Int.add_zero] at hq
    exact v37a _ _ _ _ _ _ _ _ ⟨fun h => by omega, fun _ => hq⟩
  | succ k ih =>
    intro o s v hk hd hr h0 hs hq
    refine v37a _ _ _ _ _ _ _ _ ⟨fun _ => ?_, fun h => by omega⟩
    refine loop37b hg hl hw hwl (by omega) hr (by omega) ?_ o.length 0 (-1) 0 (by omega) (.inl ⟨rfl, rfl, fun x y hx hy h => by omega⟩) (by omega)
    intro nx le hp
    rcases hp with ⟨h1, h2, h3⟩ | ⟨h1, ⟨a, h2, h4⟩, h3⟩
    · have hp : 0 < o.length := List.length_pos_iff.2 h0
      have := il_ge gs.length o (fun j hj => h3 0 j hp (by omega) trivial)
      omega
    · have hc := cw_le hg hw a nx
      have e : Sp.rest gs w o = le + Sp.rest gs w (o ++ [nx]) := Mst.rem_step (cw_symm gs w) hd hr h2 h1.2.2 ⟨h1.1, h1.2.1⟩ h4 (fun x hx y hy hyo => by
        obtain ⟨i, hi, rfl⟩ := mem_getD hx
        exact h3 i y hi hy hyo trivial)
      exact ih (o ++ [nx]) (s + le) (v + 1) (by simp; omega) (Mst.nodup_snoc hd h1.2.2) (Mst.rng_snoc hr ⟨h1.1, h1.2.1⟩) (by simp) (by omega) (by rw [← hq, e, Int.add_assoc])

theorem ev37 (fl fw : Bool) (gs : List G2) (w : List Int) (h : Sp.okG gs ∧ gs.length ≤ 1000 ∧ Sp.okW w ∧ w.length = gs.length) : Ev M1 (.pure 37 [gsA fl gs, isA fw w]) (.int .i64 (Sp.mst gs w)) [] := by
  obtain ⟨hg, hl, hw, hwl⟩ := h
  refine call37 (v37 fl fw gs w _ ?_)
  unfold Sp.mst
  by_cases h0 : gs.length = 0
  · rw [if_pos h0]
    exact v37a _ _ _ _ _ _ _ _ ⟨fun h => by simp at h; omega, fun _ => rfl⟩
  · rw [if_neg h0]
    exact loop37 hg hl hw hwl (gs.length - 1) [0] 0 0 (by simp; omega) (by simp) (by simp; omega) (by simp) (by omega) (by rw [Int.zero_add])
end Go.Av

/- WHAT span ANSWERS: the cost of a least spanning tree, and how many pairs each position has. -/
namespace Go.Av
open Go.Proofs

namespace Sp
def pickC (dn : List Bool) (co : List Int) : Nat → Nat → Int → Int
  | 0, _, nx => nx
  | k + 1, j, nx => pickC dn co k (j + 1) (if ¬dn.getD j default = true ∧ (nx < 0 ∨ co.getD j default < co.getD nx.toNat default) then j else nx)
def updC (gs : List G2) (w : List Int) (dn : List Bool) (nx : Int) : Nat → Nat → List Int → List Int → List Int × List Int
  | 0, _, co, fr => (co, fr)
  | k + 1, j, co, fr => if ¬dn.getD j default = true ∧ cw gs w nx j < co.getD j default then updC gs w dn nx k (j + 1) (co.set j (cw gs w nx j)) (fr.set j nx) else updC gs w dn nx k (j + 1) co fr
def psUp (ps fr : List Int) (nx : Int) : List Int :=
  (ps.set nx.toNat (ps.getD nx.toNat default + 1)).set (fr.getD nx.toNat default).toNat ((ps.set nx.toNat (ps.getD nx.toNat default + 1)).getD (fr.getD nx.toNat default).toNat default + 1)
def spanP (gs : List G2) (w : List Int) : Nat → List Int → List Int → List Int → List Bool → List Int
  | 0, ps, _, _, _ => ps
  | k + 1, ps, co, fr, dn =>
    spanP gs w k (psUp ps fr (pickC dn co gs.length 0 (-1))) (updC gs w (dn.set (pickC dn co gs.length 0 (-1)).toNat true) (pickC dn co gs.length 0 (-1)) gs.length 0 co fr).1
      (updC gs w (dn.set (pickC dn co gs.length 0 (-1)).toNat true) (pickC dn co gs.length 0 (-1)) gs.length 0 co fr).2 (dn.set (pickC dn co gs.length 0 (-1)).toNat true)
/-- The costs of the pairs with the first position. -/
def cost0 (gs : List G2) (w : List Int) : Nat → Nat → List Int → List Int
  | 0, _, co => co
  | k + 1, j, co => cost0 gs w k (j + 1) (co.set j (cw gs w 0 j))
def zeros (n : Nat) : List Int := List.replicate n 0
/-- How many pairs each position has. -/
def spanPairs (gs : List G2) (w : List Int) : List Int :=
  if gs.length = 0 then [] else spanP gs w (gs.length - 1) (zeros gs.length) (cost0 gs w gs.length 0 (zeros gs.length)) (zeros gs.length) ((List.replicate gs.length false).set 0 true)
end Sp

theorem getD_set {α : Type} [Inhabited α] {l : List α} {i j : Nat} {x : α} (hi : i < l.length) : (l.set i x).getD j default = if i = j then x else l.getD j default := by
  rw [List.getD_eq_getElem?_getD, List.getElem?_set]
  split
  · rfl
  · rw [List.getD_eq_getElem?_getD]
theorem zeros_getD (n j : Nat) : (Sp.zeros n).getD j default = 0 := by
  simp only [Sp.zeros, List.getD_eq_getElem?_getD, List.getElem?_replicate]
  split <;> rfl

theorem pickC_facts {dn : List Bool} {co : List Int} {n : Nat} : ∀ (k j : Nat) (nx : Int), j + k = n →
    ((nx = -1 ∧ ∀ y, y < j → dn.getD y default = true) ∨ ((0 ≤ nx ∧ nx < n ∧ ¬dn.getD nx.toNat default = true) ∧ ∀ y, y < j → ¬dn.getD y default = true → co.getD nx.toNat default ≤ co.getD y default)) →
    ((Sp.pickC dn co k j nx = -1 ∧ ∀ y, y < n → dn.getD y default = true) ∨ ((0 ≤ Sp.pickC dn co k j nx ∧ Sp.pickC dn co k j nx < n ∧ ¬dn.getD (Sp.pickC dn co k j nx).toNat default = true) ∧ ∀ y, y < n → ¬dn.getD y default = true → co.getD (Sp.pickC dn co k j nx).toNat default ≤ co.getD y default))
  | 0, j, nx, hj, h => by rw [Nat.add_zero] at hj; subst hj; exact h
  | k + 1, j, nx, hj, h => by
    rw [Sp.pickC]
    refine pickC_facts k (j + 1) _ (by omega) ?_
    split
    · rename_i hc
      refine .inr ⟨⟨by omega, by omega, by rw [Int.toNat_natCast]; exact hc.1⟩, fun y hy hd => ?_⟩
      rw [Int.toNat_natCast]
      by_cases hyj : y = j
      · subst hyj; exact Int.le_refl _
      · rcases h with ⟨h1, h2⟩ | ⟨h1, h2⟩
        · exact absurd (h2 y (by omega)) hd
        · have := h2 y (by omega) hd
          have := hc.2
          omega
    · rename_i hc
      rcases h with ⟨h1, h2⟩ | ⟨h1, h2⟩
      · refine .inl ⟨h1, fun y hy => ?_⟩
        by_cases hyj : y = j
        · subst hyj
          by_cases hd : dn.getD y default = true
          · exact hd
          · exact absurd ⟨hd, .inl (by omega)⟩ hc
        · exact h2 y (by omega)
      · refine .inr ⟨h1, fun y hy hd => ?_⟩
        by_cases hyj : y = j
        · subst hyj
          by_cases hlt : co.getD y default < co.getD nx.toNat default
          · exact absurd ⟨hd, .inr hlt⟩ hc
          · omega
        · exact h2 y (by omega) hd

theorem updC_facts {gs : List G2} {w : List Int} {dn : List Bool} {nx : Int} {n : Nat} : ∀ (k j : Nat) (co fr : List Int), j + k = n → co.length = n → fr.length = n →
    (Sp.updC gs w dn nx k j co fr).1.length = n ∧ (Sp.updC gs w dn nx k j co fr).2.length = n ∧
    ∀ y, y < n → (Sp.updC gs w dn nx k j co fr).1.getD y default = (if j ≤ y ∧ ¬dn.getD y default = true ∧ Sp.cw gs w nx y < co.getD y default then Sp.cw gs w nx y else co.getD y default) ∧
      ((Sp.updC gs w dn nx k j co fr).2.getD y default = fr.getD y default ∨ (Sp.updC gs w dn nx k j co fr).2.getD y default = nx)
  | 0, j, co, fr, hj, hc, hf => by
    refine ⟨hc, hf, fun y hy => ⟨?_, .inl rfl⟩⟩
    rw [if_neg (by omega)]; rfl
  | k + 1, j, co, fr, hj, hc, hf => by
    rw [Sp.updC]
    split
    · rename_i h
      obtain ⟨h1, h2, h3⟩ := updC_facts (gs := gs) (w := w) (dn := dn) (nx := nx) (n := n) k (j + 1) (co.set j (Sp.cw gs w nx j)) (fr.set j nx) (by omega) (by simpa using hc) (by simpa using hf)
      refine ⟨h1, h2, fun y hy => ?_⟩
      obtain ⟨k1, k2⟩ := h3 y hy
      rw [k1]
      rw [getD_set (by omega)] at k2 ⊢
      by_cases hyj : j = y
      · subst hyj
        rw [if_pos rfl] at k2 ⊢
        refine ⟨?_, .inr (by rcases k2 with k2 | k2 <;> exact k2)⟩
        rw [if_neg (by omega), if_pos ⟨by omega, h.1, h.2⟩]
      · rw [if_neg hyj] at k2 ⊢
        refine ⟨?_, k2⟩
        have e : (j + 1 ≤ y ↔ j ≤ y) := by omega
        simp only [e]
    · rename_i h
      obtain ⟨h1, h2, h3⟩ := updC_facts (gs := gs) (w := w) (dn := dn) (nx := nx) (n := n) k (j + 1) co fr (by omega) hc hf
      refine ⟨h1, h2, fun y hy => ?_⟩
      obtain ⟨k1, k2⟩ := h3 y hy
      refine ⟨?_, k2⟩
      rw [k1]
      by_cases hyj : j = y
      · subst hyj
        rw [if_neg (by omega), if_neg (fun x => h ⟨x.2.1, x.2.2⟩)]
      · have e : (j + 1 ≤ y ↔ j ≤ y) := by omega
        simp only [e]

theorem cost0_facts {gs : List G2} {w : List Int} {n : Nat} : ∀ (k j : Nat) (co : List Int), j + k = n → co.length = n →
    (Sp.cost0 gs w k j co).length = n ∧ ∀ y, y < n → (Sp.cost0 gs w k j co).getD y default = if j ≤ y then Sp.cw gs w 0 y else co.getD y default
  | 0, j, co, hj, hc => by
    refine ⟨hc, fun y hy => ?_⟩
    rw [if_neg (by omega)]; rfl
  | k + 1, j, co, hj, hc => by
    rw [Sp.cost0]
    obtain ⟨h1, h2⟩ := cost0_facts (gs := gs) (w := w) (n := n) k (j + 1) (co.set j (Sp.cw gs w 0 j)) (by omega) (by simpa using hc)
    refine ⟨h1, fun y hy => ?_⟩
    rw [h2 y hy, getD_set (by omega)]
    by_cases hyj : j = y
    · subst hyj; rw [if_neg (by omega), if_pos rfl, if_pos (by omega)]
    · have e : (j + 1 ≤ y ↔ j ≤ y) := by omega
      simp only [e, if_neg hyj]

/-- What holds ahead of a round. -/
structure SpI (gs : List G2) (w : List Int) (k : Nat) (o ps co fr : List Int) (dn : List Bool) : Prop where
  len : o.length + k = gs.length
  nod : o.Nodup
  rng : ∀ x ∈ o, 0 ≤ x ∧ x < (gs.length : Int)
  ne : o ≠ []
  dnl : dn.length = gs.length
  col : co.length = gs.length
  frl : fr.length = gs.length
  psl : ps.length = gs.length
  dne : ∀ j : Nat, j < gs.length → dn.getD j default = Sp.has o j
  coe : ∀ j : Nat, j < gs.length → (j : Int) ∉ o → (∃ a ∈ o, co.getD j default = Sp.cw gs w a j) ∧ ∀ x ∈ o, co.getD j default ≤ Sp.cw gs w x j
  fre : ∀ j : Nat, j < gs.length → 0 ≤ fr.getD j default ∧ fr.getD j default < gs.length
  pse : ∀ j : Nat, j < gs.length → 0 ≤ ps.getD j default ∧ ps.getD j default ≤ 2 * (1000 - k)

theorem SpI.pick {gs : List G2} {w : List Int} {k : Nat} {o ps co fr : List Int} {dn : List Bool} (h : SpI gs w (k + 1) o ps co fr dn) {nx : Int} (hx : nx = Sp.pickC dn co gs.length 0 (-1)) :
    0 ≤ nx ∧ nx < gs.length ∧ nx ∉ o ∧ (∃ a ∈ o, co.getD nx.toNat default = Sp.cw gs w a nx) ∧ ∀ x ∈ o, ∀ y : Int, 0 ≤ y ∧ y < gs.length → y ∉ o → co.getD nx.toNat default ≤ Sp.cw gs w x y := by
  have hf := pickC_facts (dn := dn) (co := co) (n := gs.length) gs.length 0 (-1) (by omega) (.inl ⟨rfl, fun y hy => by omega⟩)
  rw [← hx] at hf
  rcases hf with ⟨h1, h2⟩ | ⟨⟨h1, h2, h3⟩, h4⟩
  · have := il_ge gs.length o (fun j hj => by
      have := h2 j hj
      rw [h.dne j hj] at this
      exact has_iff.1 this)
    have := h.len
    omega
  · have en : ((nx.toNat : Nat) : Int) = nx := Int.toNat_of_nonneg h1
    have hno : nx ∉ o := by
      rw [h.dne _ (by omega), has_iff, en] at h3
      exact h3
    have hce := h.coe nx.toNat (by omega) (by rw [en]; exact hno)
    rw [en] at hce
    refine ⟨h1, h2, hno, hce.1, fun x hxo y hy hyo => ?_⟩
    have ey : ((y.toNat : Nat) : Int) = y := Int.toNat_of_nonneg hy.1
    have a := h4 y.toNat (by omega) (by rw [h.dne _ (by omega), has_iff, ey]; exact hyo)
    have b := (h.coe y.toNat (by omega) (by rw [ey]; exact hyo)).2 x hxo
    rw [ey] at b
    omega

theorem SpI.psl' {gs : List G2} {w : List Int} {k : Nat} {o ps co fr : List Int} {dn : List Bool} (h : SpI gs w (k + 1) o ps co fr dn) (hk : gs.length ≤ 1000) {nx : Int} (hx : 0 ≤ nx ∧ nx < gs.length) :
    (Sp.psUp ps fr nx).length = gs.length ∧ ∀ j : Nat, j < gs.length → 0 ≤ (Sp.psUp ps fr nx).getD j default ∧ (Sp.psUp ps fr nx).getD j default ≤ 2 * (1000 - k) := by
  have hf := h.fre nx.toNat (by omega)
  have hl := h.psl
  refine ⟨by simp [Sp.psUp, hl], fun j hj => ?_⟩
  unfold Sp.psUp
  rw [getD_set (by rw [List.length_set]; omega)]
  have hj1 := h.pse j hj
  have hj2 := h.pse nx.toNat (by omega)
  have hj3 := h.pse (fr.getD nx.toNat default).toNat (by omega)
  rw [getD_set (by omega), getD_set (by omega)]
  (repeat' split) <;> omega

theorem SpI.next {gs : List G2} {w : List Int} {k : Nat} {o ps co fr : List Int} {dn : List Bool} (h : SpI gs w (k + 1) o ps co fr dn) (hk : gs.length ≤ 1000) {nx : Int} (hx : nx = Sp.pickC dn co gs.length 0 (-1)) :
    SpI gs w k (o ++ [nx]) (Sp.psUp ps fr nx) (Sp.updC gs w (dn.set nx.toNat true) nx gs.length 0 co fr).1 (Sp.updC gs w (dn.set nx.toNat true) nx gs.length 0 co fr).2 (dn.set nx.toNat true) := by
  obtain ⟨p1, p2, p3, p4, p5⟩ := h.pick hx
  obtain ⟨u1, u2, u3⟩ := updC_facts (gs := gs) (w := w) (dn := dn.set nx.toNat true) (nx := nx) (n := gs.length) gs.length 0 co fr (by omega) h.col h.frl
  have hdn := has_app h.dnl h.dne ⟨p1, p2⟩
  refine ⟨by have := h.len; simp; omega, Mst.nodup_snoc h.nod p3, Mst.rng_snoc h.rng ⟨p1, p2⟩, by simp, by simpa using h.dnl, u1, u2, (h.psl' hk ⟨p1, p2⟩).1, hdn, fun j hj hjo => ?_, fun j hj => ?_, (h.psl' hk ⟨p1, p2⟩).2⟩
  · have hjo' : (j : Int) ∉ o ∧ (j : Int) ≠ nx := by simpa using hjo
    have hd : ¬(dn.set nx.toNat true).getD j default = true := by rw [hdn j hj, has_iff]; exact hjo
    obtain ⟨⟨a, c1, c2⟩, c3⟩ := h.coe j hj hjo'.1
    rw [(u3 j hj).1]
    split
    · rename_i hlt
      refine ⟨⟨nx, by simp, rfl⟩, fun x hxo => ?_⟩
      rcases List.mem_append.1 hxo with hxo | hxo
      · have := c3 x hxo; have := hlt.2.2; omega
      · simp only [List.mem_singleton] at hxo; subst hxo; exact Int.le_refl _
    · rename_i hlt
      refine ⟨⟨a, by simp [c1], c2⟩, fun x hxo => ?_⟩
      rcases List.mem_append.1 hxo with hxo | hxo
      · exact c3 x hxo
      · simp only [List.mem_singleton] at hxo; subst hxo
        by_cases hl : Sp.cw gs w x j < co.getD j default
        · exact absurd ⟨by omega, hd, hl⟩ hlt
        · omega
  · rcases (u3 j hj).2 with e | e
    · rw [e]; exact h.fre j hj
    · rw [e]; exact ⟨p1, p2⟩

theorem loop36d {fl fw : Bool} {gs : List G2} {w ps : List Int} {dn : List Bool} {s nx : Int} {n : Nat} {i : Nat} {dq : AV} (hg : Sp.okG gs) (hl : gs.length ≤ 1000) (hw : Sp.okW w) (hwl : w.length = gs.length) (hd : dn.length = gs.length) (hx : 0 ≤ nx ∧ nx < gs.length) (hi : i ≤ 1000) :
    ∀ (k j : Nat) (co fr : List Int), j + k = gs.length → co.length = gs.length → fr.length = gs.length → v36b_at fl fw gs w ps (Sp.updC gs w dn nx k j co fr).1 (Sp.updC gs w dn nx k j co fr).2 dn s n (i + 1 : Nat) (PureQ dq) → v36d_at fl fw gs w ps co fr dn s nx n i gs.length j (PureQ dq) := by
  intro k
  induction k with
  | zero =>
    intro j co fr hj hc hf hq
    exact v36d _ _ _ _ _ _ _ _ _ _ _ _ _ _ _ ⟨fun h => by omega, fun _ => ⟨by omega, hq⟩⟩
  | succ k ih =>
    intro j co fr hj hc hf hq
    rw [Sp.updC] at hq
    refine v36d _ _ _ _ _ _ _ _ _ _ _ _ _ _ _ ⟨fun _ => ?_, fun h => by omega⟩
    rw [Int.toNat_natCast]
    have e : Sp.dist (gs.getD nx.toNat default).x (gs.getD nx.toNat default).y (gs.getD j default).x (gs.getD j default).y + w.getD nx.toNat default + w.getD j default = Sp.cw gs w nx j := rfl
    have e2 : Sp.dist (gs.getD nx.toNat default).x (gs.getD nx.toNat default).y (gs.getD j default).x (gs.getD j default).y = Sp.dAt gs nx j := rfl
    rw [e, e2]
    have h1 := cw_le hg hw nx j
    have h2 := dAt_le hg nx j
    have h3 := okW_at hw nx.toNat
    refine ⟨⟨(okG_at hg _).1, (okG_at hg _).2, (okG_at hg _).1, (okG_at hg _).2⟩, hx.1, by omega, by omega, by omega, by omega, by omega, by omega, by omega, by omega, fun _ => by omega, fun h => ⟨by omega, by omega, by omega, ?_⟩, fun h => ⟨by omega, ?_⟩⟩
    · rw [if_pos h] at hq
      exact ih (j + 1) _ _ (by omega) (by simpa using hc) (by simpa using hf) hq
    · rw [if_neg h] at hq
      exact ih (j + 1) _ _ (by omega) hc hf hq

theorem loop36c {fl fw : Bool} {gs : List G2} {w : List Int} {k i : Nat} {o ps co fr : List Int} {dn : List Bool} {s : Int} {n : Nat} {dq : AV} (hg : Sp.okG gs) (hl : gs.length ≤ 1000) (hw : Sp.okW w) (hwl : w.length = gs.length) (hI : SpI gs w (k + 1) o ps co fr dn) (hs : -1000000000000 ≤ s ∧ s ≤ 1000000000000) (hi : i ≤ 1000)
    (cont : ∀ nx, nx = Sp.pickC dn co gs.length 0 (-1) → v36b_at fl fw gs w (Sp.psUp ps fr nx) (Sp.updC gs w (dn.set nx.toNat true) nx gs.length 0 co fr).1 (Sp.updC gs w (dn.set nx.toNat true) nx gs.length 0 co fr).2 (dn.set nx.toNat true) (s + co.getD nx.toNat default) n (i + 1 : Nat) (PureQ dq)) :
    ∀ (r j : Nat) (nx : Int), j + r = gs.length → (nx < 0 ∨ (0 ≤ nx ∧ nx < gs.length)) → Sp.pickC dn co r j nx = Sp.pickC dn co gs.length 0 (-1) → v36c_at fl fw gs w ps co fr dn s nx n i gs.length j (PureQ dq) := by
  have hdl := hI.dnl
  have hcl := hI.col
  have hfl := hI.frl
  have hpl := hI.psl
  intro r
  induction r with
  | zero =>
    intro j nx hj hn hp
    rw [Sp.pickC] at hp
    obtain ⟨p1, p2, p3, ⟨a, p4, p5⟩, p6⟩ := hI.pick hp
    have hc := cw_le hg hw a nx
    have hps := hI.pse nx.toNat (by omega)
    have hfr := hI.fre nx.toNat (by omega)
    have hps2 := hI.pse (fr.getD nx.toNat default).toNat (by omega)
    refine v36c _ _ _ _ _ _ _ _ _ _ _ _ _ _ _ ⟨fun h => by omega, fun _ => ⟨p1, by omega, by omega, by omega, by omega, by omega, by omega, hfr.1, by rw [List.length_set]; omega, ?_, ?_⟩⟩
    · rw [getD_set (by omega)]
      split <;> omega
    · exact loop36d hg hl hw hwl (by simpa using hdl) ⟨p1, p2⟩ hi gs.length 0 co fr (by omega) hcl hfl (cont nx hp)
  | succ r ih =>
    intro j nx hj hn hp
    rw [Sp.pickC] at hp
    refine v36c _ _ _ _ _ _ _ _ _ _ _ _ _ _ _ ⟨fun _ => ?_, fun h => by omega⟩
    rw [Int.toNat_natCast]
    refine ⟨by omega, by omega, fun _ => by omega, fun h => by omega, fun h => by omega, fun h => ⟨by omega, ?_⟩, fun h => ⟨by omega, ?_⟩⟩
    · rw [if_pos h] at hp
      exact ih (j + 1) j (by omega) (by omega) hp
    · rw [if_neg h] at hp
      exact ih (j + 1) nx (by omega) hn hp

theorem loop36b {fl fw : Bool} {gs : List G2} {w : List Int} {dq : AV} (hg : Sp.okG gs) (hl : gs.length ≤ 1000) (hw : Sp.okW w) (hwl : w.length = gs.length) :
    ∀ (k i : Nat) (o ps co fr : List Int) (dn : List Bool) (s : Int), SpI gs w k o ps co fr dn → i + k + 1 = gs.length → (-60000000 * (1000 - k) ≤ s ∧ s ≤ 60000000 * (1000 - k)) → AV.tup [.int .i64 (s + Sp.rest gs w o), isA false (Sp.spanP gs w k ps co fr dn)] = dq → v36b_at fl fw gs w ps co fr dn s (gs.length - 1 : Nat) i (PureQ dq) := by
  intro k
  induction k with
  | zero =>
    intro i o ps co fr dn s hI hi hs hq
    have : Sp.rest gs w o = 0 := Mst.rem_full (cw_symm gs w) hI.nod hI.rng hI.ne (by have := hI.len; omega)
    rw [this, Int.add_zero, Sp.spanP] at hq
    exact v36b _ _ _ _ _ _ _ _ _ _ _ _ ⟨fun h => by omega, fun _ => by rw [← hq]; exact .refl _⟩
  | succ k ih =>
    intro i o ps co fr dn s hI hi hs hq
    refine v36b _ _ _ _ _ _ _ _ _ _ _ _ ⟨fun _ => ?_, fun h => by omega⟩
    refine loop36c hg hl hw hwl hI (by omega) (by omega) (fun nx hx => ?_) gs.length 0 (-1) (by omega) (by omega) rfl
    obtain ⟨p1, p2, p3, ⟨a, p4, p5⟩, p6⟩ := hI.pick hx
    have hc := cw_le hg hw a nx
    have e : Sp.rest gs w o = co.getD nx.toNat default + Sp.rest gs w (o ++ [nx]) := Mst.rem_step (cw_symm gs w) hI.nod hI.rng p4 p3 ⟨p1, p2⟩ p5 p6
    refine ih (i + 1) (o ++ [nx]) _ _ _ _ _ (hI.next hl hx) (by omega) (by omega) ?_
    rw [← hq, e, Int.add_assoc, Sp.spanP, ← hx]

theorem loop36a {fl fw : Bool} {gs : List G2} {w ps fr : List Int} {dn : List Bool} {dq : AV} (hg : Sp.okG gs) (hl : gs.length ≤ 1000) (hw : Sp.okW w) (hwl : w.length = gs.length) (h0 : 0 < gs.length) :
    ∀ (k j : Nat) (co : List Int), j + k = gs.length → co.length = gs.length → v36b_at fl fw gs w ps (Sp.cost0 gs w k j co) fr dn 0 (gs.length - 1 : Nat) 0 (PureQ dq) → v36a_at fl fw gs w ps co fr dn gs.length j (PureQ dq) := by
  intro k
  induction k with
  | zero =>
    intro j co hj hc hq
    have e : ((gs.length : Int) - 1) = (gs.length - 1 : Nat) := by omega
    exact v36a _ _ _ _ _ _ _ _ _ _ _ ⟨fun h => by omega, fun _ => ⟨by omega, by rw [e]; exact hq⟩⟩
  | succ k ih =>
    intro j co hj hc hq
    rw [Sp.cost0] at hq
    refine v36a _ _ _ _ _ _ _ _ _ _ _ ⟨fun _ => ?_, fun h => by omega⟩
    rw [Int.toNat_natCast]
    have e : Sp.dist (gs.getD 0 default).x (gs.getD 0 default).y (gs.getD j default).x (gs.getD j default).y + w.getD 0 default + w.getD j default = Sp.cw gs w 0 j := rfl
    have e2 : Sp.dist (gs.getD 0 default).x (gs.getD 0 default).y (gs.getD j default).x (gs.getD j default).y = Sp.dAt gs 0 j := rfl
    rw [e, e2]
    have h1 := cw_le hg hw 0 j
    have h2 := dAt_le hg 0 j
    have h3 := okW_at hw 0
    refine ⟨⟨(okG_at hg _).1, (okG_at hg _).2, (okG_at hg _).1, (okG_at hg _).2⟩, by omega, by omega, by omega, by omega, by omega, by omega, by omega, by omega, by omega, ?_⟩
    exact ih (j + 1) _ (by omega) (by simpa using hc) hq

theorem ev36 (fl fw : Bool) (gs : List G2) (w : List Int) (h : Sp.okG gs ∧ gs.length ≤ 1000 ∧ Sp.okW w ∧ w.length = gs.length) : Ev M1 (.pure 36 [gsA fl gs, isA fw w]) (.tup [.int .i64 (Sp.mst gs w), isA false (Sp.spanPairs gs w)]) [] := by
  obtain ⟨hg, hl, hw, hwl⟩ := h
  refine call36 (v36 fl fw gs w _ ⟨by omega, by omega, by omega, fun h0 => ?_, fun h0 => ⟨by omega, by simp; omega, ?_⟩⟩)
  · have h0 : gs.length = 0 := by omega
    unfold Sp.mst Sp.spanPairs
    rw [if_pos h0, if_pos h0, h0]
    exact .refl _
  · have h0' : ¬gs.length = 0 := by omega
    rw [Int.toNat_natCast]
    refine loop36a hg hl hw hwl (by omega) gs.length 0 _ (by omega) (by simp) ?_
    obtain ⟨c1, c2⟩ := cost0_facts (gs := gs) (w := w) (n := gs.length) gs.length 0 (Sp.zeros gs.length) (by omega) (by simp [Sp.zeros])
    refine loop36b hg hl hw hwl (gs.length - 1) 0 [0] _ _ _ _ 0 ⟨by simp; omega, by simp, by simp; omega, by simp, by simp, c1, by simp, by simp, fun j hj => ?_, fun j hj hjo => ?_, fun j hj => ?_, fun j hj => ?_⟩ (by omega) (by omega) ?_
    · rw [getD_set (by simp; omega)]
      by_cases hj0 : j = 0
      · subst hj0; simp [Sp.has]
      · rw [if_neg (by omega), List.getD_eq_getElem?_getD, List.getElem?_replicate, if_pos hj]
        simp [Sp.has, hj0]
    · refine ⟨⟨0, by simp, ?_⟩, fun x hx => ?_⟩
      · have := c2 j hj
        rw [if_pos (by omega)] at this
        exact this
      · simp only [List.mem_singleton] at hx
        subst hx
        have := c2 j hj
        rw [if_pos (by omega)] at this
        exact Int.le_of_eq this
    · have := zeros_getD gs.length j
      unfold Sp.zeros at this
      rw [this]; omega
    · have := zeros_getD gs.length j
      unfold Sp.zeros at this
      rw [this]; omega
    · unfold Sp.mst Sp.spanPairs
      rw [if_neg h0', if_neg h0', Int.zero_add]
      rfl
end Go.Av

/- PATHS, written by a program of the prover's. -/
namespace Go.Av
open Go.Proofs
set_option maxRecDepth 100000
def fi20 : Fi := ⟨14, [.tmp 2]⟩
def kp20 : List (Nat × List Nat) := [(0, [0]), (1, [3]), (2, [2])]
def fi21 : Fi := ⟨8, [.tmp 2]⟩
def kp21 : List (Nat × List Nat) := [(0, [0]), (1, [2])]
def fi40 : Fi := ⟨41, [.tmp 4, .tmp 5]⟩
def kp40 : List (Nat × List Nat) := [(0, [0, 1]), (1, [0, 1, 6, 7]), (2, [1, 6, 7, 18]), (3, [4, 5]), (4, [1, 6, 7, 20, 21, 22]), (5, [1, 6, 7, 20, 21, 22, 23]), (6, [1, 6, 7, 9, 20, 21, 22]), (7, [1, 6, 7, 20, 21, 22]), (8, [1, 6, 7, 20, 21, 22]), (9, [4, 5])]
def v20_at (fl : Bool) (gs : List G2) (Q : AV → Heap → Prop) : Prop := Wp M1 (.run fi20 (atC (cd Try.f20) []) [(0, .vec fl 2 (gs.map G2.a))] []) Q
def v21_at (fl : Bool) (gs : List G2) (Q : AV → Heap → Prop) : Prop := Wp M1 (.run fi21 (atC (cd Try.f21) []) [(0, .vec fl 2 (gs.map G2.a))] []) Q
def v40_at (fl fw : Bool) (gs : List G2) (w : List Int) (Q : AV → Heap → Prop) : Prop := Wp M1 (.run fi40 (atC (cd Try.f40) []) [(0, .vec fl 2 (gs.map G2.a)), (1, .vec fw 1 (w.map (.int .i64)))] []) Q
def v40a_at (fw fx : Bool) (w : List Int) (s n i : Int) (ps x : List Int) (Q : AV → Heap → Prop) : Prop := Wp M1 (.run fi40 (atC (cd Try.f40) [1, 1, 1, 0, 1, 0, 0]) [(1, .vec fw 1 (w.map (.int .i64))), (6, .int .i64 s), (7, .vec false 1 (ps.map (.int .i64))), (20, .vec fx 1 (x.map (.int .i64))), (21, .int .i64 n), (22, .int .i64 i)] []) Q
theorem call20 {args : List AV} {d : AV} (h : Wp M1 (.run fi20 [.code (cd Try.f20)] (argVars 0 args) []) (PureQ d)) : Ev M1 (.pure 20 args) d [] :=
  pure_pq Try.f20 fi20 (by kernel_rfl) (by kernel_rfl) (by kernel_rfl) (by kernel_rfl) h
theorem owncall20 {args : List AV} {L : Heap} {Q : AV → Heap → Prop} (h : Wp M1 (.run fi20 [.code (cd Try.f20)] (argVars 0 args) L) Q) : Wp M1 (.own 20 args L) Q :=
  own_wp Try.f20 fi20 (by kernel_rfl) (by kernel_rfl) (by kernel_rfl) (by kernel_rfl) h
theorem keepcall20 {args : List AV} {L : Heap} {v : AV} {K : Heap} (hk : keepOk L.length v K = true) (h : Wp M1 (.run fi20 [.code (cd Try.f20)] (argVars 0 args) L) (KeepQ v K)) : Ev M1 (.own 20 args L) v K :=
  own_keep Try.f20 fi20 (by kernel_rfl) (by kernel_rfl) (by kernel_rfl) (by kernel_rfl) hk h
theorem call21 {args : List AV} {d : AV} (h : Wp M1 (.run fi21 [.code (cd Try.f21)] (argVars 0 args) []) (PureQ d)) : Ev M1 (.pure 21 args) d [] :=
  pure_pq Try.f21 fi21 (by kernel_rfl) (by kernel_rfl) (by kernel_rfl) (by kernel_rfl) h
theorem owncall21 {args : List AV} {L : Heap} {Q : AV → Heap → Prop} (h : Wp M1 (.run fi21 [.code (cd Try.f21)] (argVars 0 args) L) Q) : Wp M1 (.own 21 args L) Q :=
  own_wp Try.f21 fi21 (by kernel_rfl) (by kernel_rfl) (by kernel_rfl) (by kernel_rfl) h
theorem keepcall21 {args : List AV} {L : Heap} {v : AV} {K : Heap} (hk : keepOk L.length v K = true) (h : Wp M1 (.run fi21 [.code (cd Try.f21)] (argVars 0 args) L) (KeepQ v K)) : Ev M1 (.own 21 args L) v K :=
  own_keep Try.f21 fi21 (by kernel_rfl) (by kernel_rfl) (by kernel_rfl) (by kernel_rfl) hk h
theorem call40 {args : List AV} {d : AV} (h : Wp M1 (.run fi40 [.code (cd Try.f40)] (argVars 0 args) []) (PureQ d)) : Ev M1 (.pure 40 args) d [] :=
  pure_pq Try.f40 fi40 (by kernel_rfl) (by kernel_rfl) (by kernel_rfl) (by kernel_rfl) h
theorem owncall40 {args : List AV} {L : Heap} {Q : AV → Heap → Prop} (h : Wp M1 (.run fi40 [.code (cd Try.f40)] (argVars 0 args) L) Q) : Wp M1 (.own 40 args L) Q :=
  own_wp Try.f40 fi40 (by kernel_rfl) (by kernel_rfl) (by kernel_rfl) (by kernel_rfl) h
theorem keepcall40 {args : List AV} {L : Heap} {v : AV} {K : Heap} (hk : keepOk L.length v K = true) (h : Wp M1 (.run fi40 [.code (cd Try.f40)] (argVars 0 args) L) (KeepQ v K)) : Ev M1 (.own 40 args L) v K :=
  own_keep Try.f40 fi40 (by kernel_rfl) (by kernel_rfl) (by kernel_rfl) (by kernel_rfl) hk h
theorem v20 (fl : Bool) (gs : List G2) (dq : AV) (H :
    (Sp.okG gs ∧ gs.length ≤ 1000 ∧ Sp.okW (List.replicate (↑gs.length : Int).toNat (0 : Int)) ∧ (List.replicate (↑gs.length : Int).toNat (0 : Int)).length = gs.length) ∧
    (0 ≤ (↑gs.length : Int)) ∧
    ((↑gs.length : Int) * 8 ≤ 1099511627776) ∧
    ((↑gs.length : Int) ≤ 1099511627776) ∧
    AV.int IntKind.i64 (Sp.mst gs (List.replicate (↑gs.length : Int).toNat (0 : Int))) = dq) :
  v20_at fl gs (PureQ dq) := by
  unfold v20_at
  have w1 : (List.map G2.a gs).length = gs.length := List.length_map ..
  have w2 : List.replicate (↑gs.length : Int).toNat (AV.int IntKind.i64 0) = List.map (AV.int IntKind.i64) (List.replicate (↑gs.length : Int).toNat (0 : Int)) := (lm_rep rfl)
  have k3 := H.1; have H := H.2
  have i4 : (decide (0 ≤ (↑(List.map G2.a gs).length : Int))) = true ↔ (0 ≤ (↑gs.length : Int)) := (by rw [w1] <;> exact i_dec)
  have k5 := H.1; have H := H.2
  have i6 : (decide ((↑(List.map G2.a gs).length : Int) ≤ (↑(List.map G2.a gs).length : Int))) = true ↔ ((↑gs.length : Int) ≤ (↑gs.length : Int)) := (by rw [w1] <;> exact i_dec)
  have i7 : (decide ((↑(List.map G2.a gs).length : Int) * 8 ≤ 1099511627776)) = true ↔ ((↑gs.length : Int) * 8 ≤ 1099511627776) := (by rw [w1] <;> exact i_dec)
  have k8 := H.1; have H := H.2
  have i9 : (decide ((↑(List.map G2.a gs).length : Int) ≤ 1099511627776)) = true ↔ ((↑gs.length : Int) ≤ 1099511627776) := (by rw [w1] <;> exact i_dec)
  have k10 := H.1; have H := H.2
  exact path_ret (G := given kp20 [(1, 4, .call (AV.tup [AV.int IntKind.i64 (Sp.mst gs (List.replicate (↑gs.length : Int).toNat (0 : Int))), AV.vec false 1 (List.map (AV.int IntKind.i64) (Sp.spanPairs gs (List.replicate (↑gs.length : Int).toNat (0 : Int))))]) none)] []) 1000 [] (k := ((atC (cd Try.f20) [1, 1, 1])).tail) (env' := [(2, AV.int IntKind.i64 (Sp.mst gs (List.replicate (↑gs.length : Int).toNat (0 : Int))))]) (L' := [{ elems := List.replicate (↑(List.map G2.a gs).length : Int).toNat (AV.int IntKind.i64 0), es := 1, ver := 0, frozen := true, clean := true }]) (asm := [decide (0 ≤ (↑(List.map G2.a gs).length : Int)), decide ((↑(List.map G2.a gs).length : Int) ≤ (↑(List.map G2.a gs).length : Int)), decide ((↑(List.map G2.a gs).length : Int) * 8 ≤ 1099511627776), decide ((↑(List.map G2.a gs).length : Int) ≤ 1099511627776), true]) (eqs := []) (calls := [⟨true, false, 36, [AV.vec fl 2 (List.map G2.a gs), AV.vec false 1 (List.replicate (↑(List.map G2.a gs).length : Int).toNat (AV.int IntKind.i64 0))], [], AV.tup [AV.int IntKind.i64 (Sp.mst gs (List.replicate (↑gs.length : Int).toNat (0 : Int))), AV.vec false 1 (List.map (AV.int IntKind.i64) (Sp.spanPairs gs (List.replicate (↑gs.length : Int).toNat (0 : Int))))], []⟩]) (AV.int IntKind.i64 (Sp.mst gs (List.replicate (↑gs.length : Int).toNat (0 : Int)))) (by kernel_rfl) (by kernel_rfl) (allB_cons (i4.2 k5) (allB_cons (i6.2 (by omega)) (allB_cons (i7.2 k8) (allB_cons (i9.2 k10) (allB_cons rfl allB_nil))))) allP_nil (allC_cons (fun _ => ((by rw [w1, w2] <;> exact (@ev36 (fl) (false) (gs) (List.replicate (↑gs.length : Int).toNat (0 : Int)) k3)) : Ev M1 (Conf.pure 36 [AV.vec fl 2 (List.map G2.a gs), AV.vec false 1 (List.replicate (↑(List.map G2.a gs).length : Int).toNat (AV.int IntKind.i64 0))]) (AV.tup [AV.int IntKind.i64 (Sp.mst gs (List.replicate (↑gs.length : Int).toNat (0 : Int))), AV.vec false 1 (List.map (AV.int IntKind.i64) (Sp.spanPairs gs (List.replicate (↑gs.length : Int).toNat (0 : Int))))]) [])) allC_nil) (pq_of (d := AV.int IntKind.i64 (Sp.mst gs (List.replicate (↑gs.length : Int).toNat (0 : Int)))) (bs := []) (by kernel_rfl) (by kernel_rfl) allB_nil (by kernel_rfl) H)

theorem v21 (fl : Bool) (gs : List G2) (dq : AV) (H :
    (Sp.okG gs ∧ gs.length ≤ 1000 ∧ Sp.okW (List.replicate (↑gs.length : Int).toNat (0 : Int)) ∧ (List.replicate (↑gs.length : Int).toNat (0 : Int)).length = gs.length) ∧
    (0 ≤ (↑gs.length : Int)) ∧
    ((↑gs.length : Int) * 8 ≤ 1099511627776) ∧
    ((↑gs.length : Int) ≤ 1099511627776) ∧
    AV.int IntKind.i64 (Sp.mst gs (List.replicate (↑gs.length : Int).toNat (0 : Int))) = dq) :
  v21_at fl gs (PureQ dq) := by
  unfold v21_at
  have w1 : (List.map G2.a gs).length = gs.length := List.length_map ..
  have w2 : List.replicate (↑gs.length : Int).toNat (AV.int IntKind.i64 0) = List.map (AV.int IntKind.i64) (List.replicate (↑gs.length : Int).toNat (0 : Int)) := (lm_rep rfl)
  have k3 := H.1; have H := H.2
  have i4 : (decide (0 ≤ (↑(List.map G2.a gs).length : Int))) = true ↔ (0 ≤ (↑gs.length : Int)) := (by rw [w1] <;> exact i_dec)
  have k5 := H.1; have H := H.2
  have i6 : (decide ((↑(List.map G2.a gs).length : Int) ≤ (↑(List.map G2.a gs).length : Int))) = true ↔ ((↑gs.length : Int) ≤ (↑gs.length : Int)) := (by rw [w1] <;> exact i_dec)
  have i7 : (decide ((↑(List.map G2.a gs).length : Int) * 8 ≤ 1099511627776)) = true ↔ ((↑gs.length : Int) * 8 ≤ 1099511627776) := (by rw [w1] <;> exact i_dec)
  have k8 := H.1; have H := H.2
  have i9 : (decide ((↑(List.map G2.a gs).length : Int) ≤ 1099511627776)) = true ↔ ((↑gs.length : Int) ≤ 1099511627776) := (by rw [w1] <;> exact i_dec)
  have k10 := H.1; have H := H.2
  exact path_ret (G := given kp21 [(1, 4, .call (AV.int IntKind.i64 (Sp.mst gs (List.replicate (↑gs.length : Int).toNat (0 : Int)))) none)] []) 1000 [] (k := ((atC (cd Try.f21) [1, 1])).tail) (env' := [(2, AV.int IntKind.i64 (Sp.mst gs (List.replicate (↑gs.length : Int).toNat (0 : Int))))]) (L' := [{ elems := List.replicate (↑(List.map G2.a gs).length : Int).toNat (AV.int IntKind.i64 0), es := 1, ver := 0, frozen := false, clean := true }]) (asm := [decide (0 ≤ (↑(List.map G2.a gs).length : Int)), decide ((↑(List.map G2.a gs).length : Int) ≤ (↑(List.map G2.a gs).length : Int)), decide ((↑(List.map G2.a gs).length : Int) * 8 ≤ 1099511627776), decide ((↑(List.map G2.a gs).length : Int) ≤ 1099511627776), true]) (eqs := []) (calls := [⟨true, false, 37, [AV.vec fl 2 (List.map G2.a gs), AV.vec false 1 (List.replicate (↑(List.map G2.a gs).length : Int).toNat (AV.int IntKind.i64 0))], [], AV.int IntKind.i64 (Sp.mst gs (List.replicate (↑gs.length : Int).toNat (0 : Int))), []⟩]) (AV.int IntKind.i64 (Sp.mst gs (List.replicate (↑gs.length : Int).toNat (0 : Int)))) (by kernel_rfl) (by kernel_rfl) (allB_cons (i4.2 k5) (allB_cons (i6.2 (by omega)) (allB_cons (i7.2 k8) (allB_cons (i9.2 k10) (allB_cons rfl allB_nil))))) allP_nil (allC_cons (fun _ => ((by rw [w1, w2] <;> exact (@ev37 (fl) (false) (gs) (List.replicate (↑gs.length : Int).toNat (0 : Int)) k3)) : Ev M1 (Conf.pure 37 [AV.vec fl 2 (List.map G2.a gs), AV.vec false 1 (List.replicate (↑(List.map G2.a gs).length : Int).toNat (AV.int IntKind.i64 0))]) (AV.int IntKind.i64 (Sp.mst gs (List.replicate (↑gs.length : Int).toNat (0 : Int)))) [])) allC_nil) (pq_of (d := AV.int IntKind.i64 (Sp.mst gs (List.replicate (↑gs.length : Int).toNat (0 : Int)))) (bs := []) (by kernel_rfl) (by kernel_rfl) allB_nil (by kernel_rfl) H)

theorem v40 (fl fw : Bool) (gs : List G2) (w : List Int) (dq : AV) (H :
    (Sp.okG gs ∧ gs.length ≤ 1000 ∧ Sp.okW w ∧ w.length = gs.length) ∧
    (((↑gs.length : Int) < 2) → Weak (AV.tup [AV.int IntKind.i64 0, AV.vec false 1 (List.map (AV.int IntKind.i64) (Sp.spanPairs gs w))]) dq) ∧
    (¬((↑gs.length : Int) < 2) → v40a_at (fw) (fw) (w) (Sp.mst gs w) ((↑w.length : Int)) (0) (Sp.spanPairs gs w) (w) (PureQ dq))) :
  v40_at fl fw gs w (PureQ dq) := by
  unfold v40_at
  have k1 := H.1; have H := H.2
  have w2 : (List.map G2.a gs).length = gs.length := List.length_map ..
  have i3 : (decide ((↑(List.map G2.a gs).length : Int) < 2)) = true ↔ ((↑gs.length : Int) < 2) := (by rw [w2] <;> exact i_dec)
  rcases Classical.em ((↑gs.length : Int) < 2) with d4 | d4
  · have H := H.1 d4
    exact path_ret (G := given kp40 [(1, 2, .call (AV.tup [AV.int IntKind.i64 (Sp.mst gs w), AV.vec false 1 (List.map (AV.int IntKind.i64) (Sp.spanPairs gs w))]) none)] []) 1000 [true] (k := ((atC (cd Try.f40) [1, 1, 0, 1, 0, 1])).tail) (env' := [(4, AV.int IntKind.i64 0), (5, AV.vec false 1 (List.map (AV.int IntKind.i64) (Sp.spanPairs gs w)))]) (L' := []) (asm := [(decide ((↑(List.map G2.a gs).length : Int) < 2)) == true]) (eqs := []) (calls := [⟨true, false, 36, [AV.vec fl 2 (List.map G2.a gs), AV.vec fw 1 (List.map (AV.int IntKind.i64) w)], [], AV.tup [AV.int IntKind.i64 (Sp.mst gs w), AV.vec false 1 (List.map (AV.int IntKind.i64) (Sp.spanPairs gs w))], []⟩]) (AV.tup [AV.int IntKind.i64 0, AV.vec false 1 (List.map (AV.int IntKind.i64) (Sp.spanPairs gs w))]) (by kernel_rfl) (by kernel_rfl) (allB_cons (beq_t (i3.2 d4)) allB_nil) allP_nil (allC_cons (fun _ => ((@ev36 (fl) (fw) (gs) (w) k1) : Ev M1 (Conf.pure 36 [AV.vec fl 2 (List.map G2.a gs), AV.vec fw 1 (List.map (AV.int IntKind.i64) w)]) (AV.tup [AV.int IntKind.i64 (Sp.mst gs w), AV.vec false 1 (List.map (AV.int IntKind.i64) (Sp.spanPairs gs w))]) [])) allC_nil) (pq_weak (d := AV.tup [AV.int IntKind.i64 0, AV.vec false 1 (List.map (AV.int IntKind.i64) (Sp.spanPairs gs w))]) (bs := []) (by kernel_rfl) (by kernel_rfl) allB_nil (by kernel_rfl) H)
  · have H := H.2 d4
    have w5 : (List.map (AV.int IntKind.i64) w).length = w.length := List.length_map ..
    exact path_wp (G := given kp40 [(1, 2, .call (AV.tup [AV.int IntKind.i64 (Sp.mst gs w), AV.vec false 1 (List.map (AV.int IntKind.i64) (Sp.spanPairs gs w))]) none)] []) 1000 [false] ⟨(atC (cd Try.f40) [1, 1, 1, 0, 1, 0, 0]), [(1, AV.vec fw 1 (List.map (AV.int IntKind.i64) w)), (6, AV.int IntKind.i64 (Sp.mst gs w)), (7, AV.vec false 1 (List.map (AV.int IntKind.i64) (Sp.spanPairs gs w))), (20, AV.vec fw 1 (List.map (AV.int IntKind.i64) w)), (21, AV.int IntKind.i64 (↑(List.map (AV.int IntKind.i64) w).length : Int)), (22, AV.int IntKind.i64 0)], [], [(decide ((↑(List.map G2.a gs).length : Int) < 2)) == false], [], [⟨true, false, 36, [AV.vec fl 2 (List.map G2.a gs), AV.vec fw 1 (List.map (AV.int IntKind.i64) w)], [], AV.tup [AV.int IntKind.i64 (Sp.mst gs w), AV.vec false 1 (List.map (AV.int IntKind.i64) (Sp.spanPairs gs w))], []⟩]⟩ (by kernel_rfl) (allB_cons (beq_f (fun h => d4 (i3.1 h))) allB_nil) allP_nil (allC_cons (fun _ => ((@ev36 (fl) (fw) (gs) (w) k1) : Ev M1 (Conf.pure 36 [AV.vec fl 2 (List.map G2.a gs), AV.vec fw 1 (List.map (AV.int IntKind.i64) w)]) (AV.tup [AV.int IntKind.i64 (Sp.mst gs w), AV.vec false 1 (List.map (AV.int IntKind.i64) (Sp.spanPairs gs w))]) [])) allC_nil) (by rw [w5] <;> exact H)

theorem v40a (fw fx : Bool) (w : List Int) (s n i : Int) (ps x : List Int) (dq : AV) (H :
    ((i < n) → (0 ≤ i) ∧
      (i.toNat < x.length) ∧
      (-9223372036854775808 ≤ 2 * x.getD i.toNat default ∧ 2 * x.getD i.toNat default ≤ 9223372036854775807) ∧
      (-9223372036854775808 ≤ s - 2 * x.getD i.toNat default ∧ s - 2 * x.getD i.toNat default ≤ 9223372036854775807) ∧
      (-9223372036854775808 ≤ i + 1 ∧ i + 1 ≤ 9223372036854775807) ∧
      v40a_at (fw) (fx) (w) (s - 2 * x.getD i.toNat default) (n) (i + 1) (ps) (x) (PureQ dq)) ∧
    (¬(i < n) → ((List.drop 1 (List.take w.length w)).length ≤ 1000000 ∧ 0 < (List.drop 1 (List.take w.length w)).length) ∧
      (0 < w.length) ∧
      (1 ≤ w.length) ∧
      (-9223372036854775808 ≤ s + w.getD 0 default ∧ s + w.getD 0 default ≤ 9223372036854775807) ∧
      (-9223372036854775808 ≤ s + w.getD 0 default + Sp.minL (List.drop 1 (List.take w.length w)) ∧ s + w.getD 0 default + Sp.minL (List.drop 1 (List.take w.length w)) ≤ 9223372036854775807) ∧
      Weak (AV.tup [AV.int IntKind.i64 (s + w.getD 0 default + Sp.minL (List.drop 1 (List.take w.length w))), AV.vec false 1 (List.map (AV.int IntKind.i64) ps)]) dq)) :
  v40a_at fw fx w s n i ps x (PureQ dq) := by
  unfold v40a_at
  have i1 : (decide (i < n)) = true ↔ (i < n) := i_dec
  rcases Classical.em (i < n) with d2 | d2
  · have H := H.1 d2
    have i3 : (decide (0 ≤ i)) = true ↔ (0 ≤ i) := i_dec
    have k4 := H.1; have H := H.2
    have w5 : (List.map (AV.int IntKind.i64) x).length = x.length := List.length_map ..
    have i6 : (decide (i.toNat < (List.map (AV.int IntKind.i64) x).length)) = true ↔ (i.toNat < x.length) := (by rw [w5] <;> exact i_dec)
    have k7 := H.1; have H := H.2
    have k8 := H.1; have H := H.2
    have w9 : IntKind.i64.wrap (2 * x.getD i.toNat default) = 2 * x.getD i.toNat default := wI64 k8
    have k10 := H.1; have H := H.2
    have w11 : IntKind.i64.wrap (s - 2 * x.getD i.toNat default) = s - 2 * x.getD i.toNat default := wI64 k10
    have k12 := H.1; have H := H.2
    have w13 : IntKind.i64.wrap (i + 1) = i + 1 := wI64 k12
    exact path_wp (G := given kp40 [(6, 1, .elem (AV.int IntKind.i64 (x.getD i.toNat default)))] []) 1000 [true] ⟨(atC (cd Try.f40) [1, 1, 1, 0, 1, 0, 0]), [(1, AV.vec fw 1 (List.map (AV.int IntKind.i64) w)), (6, AV.int IntKind.i64 (IntKind.i64.wrap (s - IntKind.i64.wrap (2 * x.getD i.toNat default)))), (7, AV.vec false 1 (List.map (AV.int IntKind.i64) ps)), (20, AV.vec fx 1 (List.map (AV.int IntKind.i64) x)), (21, AV.int IntKind.i64 n), (22, AV.int IntKind.i64 (IntKind.i64.wrap (i + 1)))], [], [(decide (i < n)) == true, decide (0 ≤ i), decide (i.toNat < (List.map (AV.int IntKind.i64) x).length)], [((List.map (AV.int IntKind.i64) x).get?Internal i.toNat = some (AV.int IntKind.i64 (x.getD i.toNat default)))], []⟩ (by kernel_rfl) (allB_cons (beq_t (i1.2 d2)) (allB_cons (i3.2 k4) (allB_cons (i6.2 k7) allB_nil))) (allP_cons (el_map k7) allP_nil) allC_nil (by rw [w9, w11, w13] <;> exact H)
  · have H := H.2 d2
    have w14 : (List.map (AV.int IntKind.i64) w).length = w.length := List.length_map ..
    have w15 : List.take w.length (List.map (AV.int IntKind.i64) w) = List.map (AV.int IntKind.i64) (List.take w.length w) := (lm_take rfl)
    have w16 : List.drop 1 (List.map (AV.int IntKind.i64) (List.take w.length w)) = List.map (AV.int IntKind.i64) (List.drop 1 (List.take w.length w)) := (lm_drop rfl)
    have k17 := H.1; have H := H.2
    have i18 : (decide (0 < (List.map (AV.int IntKind.i64) w).length)) = true ↔ (0 < w.length) := (by rw [w14] <;> exact i_dec)
    have k19 := H.1; have H := H.2
    have i20 : (decide (1 ≤ (List.map (AV.int IntKind.i64) w).length)) = true ↔ (1 ≤ w.length) := (by rw [w14] <;> exact i_dec)
    have k21 := H.1; have H := H.2
    have i22 : (decide ((List.map (AV.int IntKind.i64) w).length ≤ (List.map (AV.int IntKind.i64) w).length)) = true ↔ (w.length ≤ w.length) := (by rw [w14] <;> exact i_dec)
    have k23 := H.1; have H := H.2
    have w24 : IntKind.i64.wrap (s + w.getD 0 default) = s + w.getD 0 default := wI64 k23
    have k25 := H.1; have H := H.2
    have w26 : IntKind.i64.wrap (s + w.getD 0 default + Sp.minL (List.drop 1 (List.take w.length w))) = s + w.getD 0 default + Sp.minL (List.drop 1 (List.take w.length w)) := wI64 k25
    exact path_ret (G := given kp40 [(9, 3, .elem (AV.int IntKind.i64 (w.getD 0 default))), (9, 7, .call (AV.int IntKind.i64 (Sp.minL (List.drop 1 (List.take w.length w)))) none)] []) 1000 [false] (k := ((atC (cd Try.f40) [1, 1, 1, 1, 1])).tail) (env' := [(4, AV.int IntKind.i64 (IntKind.i64.wrap (IntKind.i64.wrap (s + w.getD 0 default) + Sp.minL (List.drop 1 (List.take w.length w))))), (5, AV.vec false 1 (List.map (AV.int IntKind.i64) ps))]) (L' := []) (asm := [(decide (i < n)) == false, true, decide (0 < (List.map (AV.int IntKind.i64) w).length), true, decide (1 ≤ (List.map (AV.int IntKind.i64) w).length), decide ((List.map (AV.int IntKind.i64) w).length ≤ (List.map (AV.int IntKind.i64) w).length)]) (eqs := [((List.map (AV.int IntKind.i64) w).get?Internal 0 = some (AV.int IntKind.i64 (w.getD 0 default)))]) (calls := [⟨true, false, 46, [AV.vec (fw && true) 1 (List.drop 1 (List.take (List.map (AV.int IntKind.i64) w).length (List.map (AV.int IntKind.i64) w)))], [], AV.int IntKind.i64 (Sp.minL (List.drop 1 (List.take w.length w))), []⟩]) (AV.tup [AV.int IntKind.i64 (IntKind.i64.wrap (IntKind.i64.wrap (s + w.getD 0 default) + Sp.minL (List.drop 1 (List.take w.length w)))), AV.vec false 1 (List.map (AV.int IntKind.i64) ps)]) (by kernel_rfl) (by kernel_rfl) (allB_cons (beq_f (fun h => d2 (i1.1 h))) (allB_cons rfl (allB_cons (i18.2 k19) (allB_cons rfl (allB_cons (i20.2 k21) (allB_cons (i22.2 (by omega)) allB_nil)))))) (allP_cons (el_map k19) allP_nil) (allC_cons (fun _ => ((by rw [w14, w15, w16] <;> exact (@ev46 (fw && true) (List.drop 1 (List.take w.length w)) k17)) : Ev M1 (Conf.pure 46 [AV.vec (fw && true) 1 (List.drop 1 (List.take (List.map (AV.int IntKind.i64) w).length (List.map (AV.int IntKind.i64) w)))]) (AV.int IntKind.i64 (Sp.minL (List.drop 1 (List.take w.length w)))) [])) allC_nil) (pq_weak (d := AV.tup [AV.int IntKind.i64 (IntKind.i64.wrap (IntKind.i64.wrap (s + w.getD 0 default) + Sp.minL (List.drop 1 (List.take w.length w)))), AV.vec false 1 (List.map (AV.int IntKind.i64) ps)]) (bs := []) (by kernel_rfl) (by kernel_rfl) allB_nil (by kernel_rfl) (by rw [w24, w26] <;> exact H))


end Go.Av

/- WHAT Tree AND bound ANSWER. -/
namespace Go.Av
open Go.Proofs

namespace Sp
noncomputable def boundV (gs : List G2) (w : List Int) : Int := mst gs w - 2 * w.sum + w.getD 0 default + minL (w.drop 1)
noncomputable def tree (gs : List G2) : Int := mst gs (zeros gs.length)
end Sp

theorem zeros_ok (n : Nat) : Sp.okW (Sp.zeros n) ∧ (Sp.zeros n).length = n := by
  refine ⟨fun x hx => ?_, by simp [Sp.zeros]⟩
  have := (List.mem_replicate.1 hx).2
  omega

theorem prim_bound {c : Int → Int → Int} {n : Nat} (hc : ∀ i j, -40000000 ≤ c i j ∧ c i j ≤ 60000000) {S : List Int} {r : Int} (h : Mst.Prim c n S r) : S.length ≤ n ∧ -60000000 * ((n : Int) - S.length) ≤ r ∧ r ≤ 60000000 * ((n : Int) - S.length) := by
  induction h with
  | full h => omega
  | @step S a v m r _ _ _ hm _ _ ih =>
    have := hc a v
    simp only [List.length_append, List.length_singleton] at ih
    omega

theorem mst_le {gs : List G2} {w : List Int} (hg : Sp.okG gs) (hl : gs.length ≤ 1000) (hw : Sp.okW w) : -60000000000 ≤ Sp.mst gs w ∧ Sp.mst gs w ≤ 60000000000 := by
  unfold Sp.mst
  split
  · omega
  · rename_i h0
    have := prim_bound (cw_le hg hw) (Mst.rem_spec (c := Sp.cw gs w) (n := gs.length) (S := [0]) (by simp) (by simp; omega) (by simp))
    simp only [List.length_singleton] at this
    have e : Sp.rest gs w [0] = Mst.rem (Sp.cw gs w) gs.length [0] := rfl
    rw [e]
    omega

theorem ev20 (fl : Bool) (gs : List G2) (h : Sp.okG gs ∧ gs.length ≤ 1000) : Ev M1 (.pure 20 [gsA fl gs]) (.int .i64 (Sp.tree gs)) [] := by
  refine call20 (v20 fl gs _ ⟨?_, by omega, by omega, by omega, ?_⟩)
  · rw [Int.toNat_natCast]; exact ⟨h.1, h.2, zeros_ok _⟩
  · rw [Int.toNat_natCast]; rfl
theorem ev21 (fl : Bool) (gs : List G2) (h : Sp.okG gs ∧ gs.length ≤ 1000) : Ev M1 (.pure 21 [gsA fl gs]) (.int .i64 (Sp.tree gs)) [] := by
  refine call21 (v21 fl gs _ ⟨?_, by omega, by omega, by omega, ?_⟩)
  · rw [Int.toNat_natCast]; exact ⟨h.1, h.2, zeros_ok _⟩
  · rw [Int.toNat_natCast]; rfl

theorem okW_sum {w : List Int} (h : Sp.okW w) : -20000000 * (w.length : Int) ≤ w.sum ∧ w.sum ≤ 20000000 * (w.length : Int) := by
  induction w with
  | nil => simp
  | cons x w ih =>
    have h1 := ih fun y hy => h y (List.mem_cons_of_mem _ hy)
    have h2 := h x (by simp)
    simp only [List.sum_cons, List.length_cons]
    omega
theorem okW_drop {w : List Int} (h : Sp.okW w) (k : Nat) : Sp.okW (w.drop k) := fun x hx => h x (List.mem_of_mem_drop hx)
theorem foldl_min {w : List Int} (h : Sp.okW w) : ∀ (m : Int), (-20000000 ≤ m ∧ m ≤ 20000000) → -20000000 ≤ w.foldl (fun m x => if x < m then x else m) m ∧ w.foldl (fun m x => if x < m then x else m) m ≤ 20000000 := by
  induction w with
  | nil => exact fun m h => h
  | cons x w ih =>
    intro m hm
    rw [List.foldl_cons]
    refine ih (fun y hy => h y (List.mem_cons_of_mem _ hy)) _ ?_
    have := h x (by simp)
    split <;> omega
theorem minL_le {w : List Int} (h : Sp.okW w) : -20000000 ≤ Sp.minL w ∧ Sp.minL w ≤ 20000000 :=
  foldl_min (okW_drop h 1) _ (okW_at h 0)

theorem loop40 {fw fx : Bool} {w x ps : List Int} {b : Int} {dq : AV} (hw : Sp.okW w) (hwl : w.length ≤ 1000 ∧ 2 ≤ w.length) (hx : Sp.okW x) (hxl : x.length ≤ 1000) (hb : -100000000000 ≤ b ∧ b ≤ 100000000000)
    (hq : Weak (.tup [.int .i64 (b + w.getD 0 default + Sp.minL (w.drop 1)), isA false ps]) dq) :
    ∀ (k i : Nat) (s : Int), i + k = x.length → s - 2 * (x.drop i).sum = b → (-40000000 * (i : Int) - 100000000000 ≤ s ∧ s ≤ 40000000 * (i : Int) + 100000000000) → v40a_at fw fx w s x.length i ps x (PureQ dq) := by
  intro k
  induction k with
  | zero =>
    intro i s hi hs hb
    rw [List.drop_eq_nil_of_le (by omega), List.sum_nil, Int.mul_zero, Int.sub_zero] at hs
    have h1 := okW_at hw 0
    have h2 := minL_le (okW_drop hw 1)
    refine v40a _ _ _ _ _ _ _ _ _ ⟨fun h => by omega, fun _ => ?_⟩
    rw [List.take_length]
    exact ⟨by rw [List.length_drop]; omega, by omega, by omega, by omega, by omega, by rw [hs]; exact hq⟩
  | succ k ih =>
    intro i s hi hs hb
    rw [drop_getD (show i < x.length by omega), List.sum_cons] at hs
    have h1 := okW_at hx i
    refine v40a _ _ _ _ _ _ _ _ _ ⟨fun _ => ?_, fun h => by omega⟩
    rw [Int.toNat_natCast]
    exact ⟨by omega, by omega, by omega, by omega, by omega, ih (i + 1) _ (by omega) (by omega) (by omega)⟩

theorem ev40 (fl fw : Bool) (gs : List G2) (w : List Int) (h : Sp.okG gs ∧ gs.length ≤ 1000 ∧ Sp.okW w ∧ w.length = gs.length) : Ev M1 (.pure 40 [gsA fl gs, isA fw w]) (.tup [.int .i64 (if (gs.length : Int) < 2 then 0 else Sp.boundV gs w), isA false (Sp.spanPairs gs w)]) [] := by
  obtain ⟨hg, hl, hw, hwl⟩ := h
  refine call40 (v40 fl fw gs w _ ⟨⟨hg, hl, hw, hwl⟩, fun k => ?_, fun k => ?_⟩)
  · rw [if_pos k]; exact .refl _
  · rw [if_neg k]
    have h1 := mst_le hg hl hw
    have h2 := okW_sum hw
    refine loop40 hw (by omega) hw (by omega) (b := Sp.mst gs w - 2 * w.sum) (by omega) (.refl _) w.length 0 _ (by omega) rfl (by omega)
end Go.Av

/- PATHS, written by a program of the prover's. -/
namespace Go.Av
open Go.Proofs
set_option maxRecDepth 100000
def fi24 : Fi := ⟨46, [.tmp 4, .tmp 5]⟩
def kp24 : List (Nat × List Nat) := [(0, [0, 1]), (1, [0, 1, 6]), (2, [0, 1, 6, 14]), (3, [4, 5]), (4, [0, 1, 25]), (5, [4, 5]), (6, [0, 1, 26, 27, 28]), (7, [0, 1, 26, 27, 28, 29]), (8, [0, 1, 8, 26, 27, 28]), (9, [0, 1, 26, 27, 28, 37]), (10, [4, 5]), (11, [0, 1, 26, 27, 28]), (12, [9]), (13, [4, 5])]
def fi25 : Fi := ⟨80, [.tmp 4, .tmp 5]⟩
def kp25 : List (Nat × List Nat) := [(0, [0, 1]), (1, [0, 1, 6]), (2, [0, 1, 6, 14]), (3, [4, 5]), (4, [0, 1, 25]), (5, [4, 5]), (6, [0, 1, 7]), (7, [0, 1, 7, 8]), (8, [0, 1, 7, 8, 29]), (9, [0, 1, 7, 8]), (10, [0, 1, 7, 8, 43]), (11, [4, 5]), (12, [0, 1, 7, 8]), (13, [0, 1, 7, 52]), (14, [4, 5]), (15, [0, 1, 7, 9]), (16, [0, 1, 7, 9, 10]), (17, [0, 1, 7, 9, 10, 59]), (18, [0, 1, 7, 9, 10]), (19, [0, 1, 7, 9, 10]), (20, [4, 5])]
def v24a_at (fl fw : Bool) (gs : List G2) (w : List Int) (fx : Bool) (x : List Int) (n i : Int) (Q : AV → Heap → Prop) : Prop := Wp M1 (.run fi24 (atC (cd Try.f24) [1, 1, 1, 0, 1, 0, 0]) [(0, .vec fl 2 (gs.map G2.a)), (1, .vec fw 1 (w.map (.int .i64))), (26, .vec fx 1 (x.map (.int .i64))), (27, .int .i64 n), (28, .int .i64 i)] []) Q
def v25a_at (fl fw : Bool) (gs : List G2) (w : List Int) (s i : Int) (Q : AV → Heap → Prop) : Prop := Wp M1 (.run fi25 (atC (cd Try.f25) [1, 1, 1, 1, 0, 1, 0, 0]) [(0, .vec fl 2 (gs.map G2.a)), (1, .vec fw 1 (w.map (.int .i64))), (7, .int .i64 s), (8, .int .i64 i)] []) Q
def v25b_at (fl fw : Bool) (gs : List G2) (w : List Int) (s m i : Int) (Q : AV → Heap → Prop) : Prop := Wp M1 (.run fi25 (atC (cd Try.f25) [1, 1, 1, 1, 1, 1, 1, 0, 1, 0, 0]) [(0, .vec fl 2 (gs.map G2.a)), (1, .vec fw 1 (w.map (.int .i64))), (7, .int .i64 s), (9, .int .i64 m), (10, .int .i64 i)] []) Q
def v24_at (fl fw : Bool) (gs : List G2) (w : List Int) (Q : AV → Heap → Prop) : Prop := Wp M1 (.run fi24 (atC (cd Try.f24) []) [(0, .vec fl 2 (gs.map G2.a)), (1, .vec fw 1 (w.map (.int .i64)))] []) Q
def v25_at (fl fw : Bool) (gs : List G2) (w : List Int) (Q : AV → Heap → Prop) : Prop := Wp M1 (.run fi25 (atC (cd Try.f25) []) [(0, .vec fl 2 (gs.map G2.a)), (1, .vec fw 1 (w.map (.int .i64)))] []) Q
theorem call24 {args : List AV} {d : AV} (h : Wp M1 (.run fi24 [.code (cd Try.f24)] (argVars 0 args) []) (PureQ d)) : Ev M1 (.pure 24 args) d [] :=
  pure_pq Try.f24 fi24 (by kernel_rfl) (by kernel_rfl) (by kernel_rfl) (by kernel_rfl) h
theorem owncall24 {args : List AV} {L : Heap} {Q : AV → Heap → Prop} (h : Wp M1 (.run fi24 [.code (cd Try.f24)] (argVars 0 args) L) Q) : Wp M1 (.own 24 args L) Q :=
  own_wp Try.f24 fi24 (by kernel_rfl) (by kernel_rfl) (by kernel_rfl) (by kernel_rfl) h
theorem keepcall24 {args : List AV} {L : Heap} {v : AV} {K : Heap} (hk : keepOk L.length v K = true) (h : Wp M1 (.run fi24 [.code (cd Try.f24)] (argVars 0 args) L) (KeepQ v K)) : Ev M1 (.own 24 args L) v K :=
  own_keep Try.f24 fi24 (by kernel_rfl) (by kernel_rfl) (by kernel_rfl) (by kernel_rfl) hk h
theorem call25 {args : List AV} {d : AV} (h : Wp M1 (.run fi25 [.code (cd Try.f25)] (argVars 0 args) []) (PureQ d)) : Ev M1 (.pure 25 args) d [] :=
  pure_pq Try.f25 fi25 (by kernel_rfl) (by kernel_rfl) (by kernel_rfl) (by kernel_rfl) h
theorem owncall25 {args : List AV} {L : Heap} {Q : AV → Heap → Prop} (h : Wp M1 (.run fi25 [.code (cd Try.f25)] (argVars 0 args) L) Q) : Wp M1 (.own 25 args L) Q :=
  own_wp Try.f25 fi25 (by kernel_rfl) (by kernel_rfl) (by kernel_rfl) (by kernel_rfl) h
theorem keepcall25 {args : List AV} {L : Heap} {v : AV} {K : Heap} (hk : keepOk L.length v K = true) (h : Wp M1 (.run fi25 [.code (cd Try.f25)] (argVars 0 args) L) (KeepQ v K)) : Ev M1 (.own 25 args L) v K :=
  own_keep Try.f25 fi25 (by kernel_rfl) (by kernel_rfl) (by kernel_rfl) (by kernel_rfl) hk h
theorem v24a (fl fw : Bool) (gs : List G2) (w : List Int) (fx : Bool) (x : List Int) (n i : Int) (dq : AV) (H :
    ((i < n) → (0 ≤ i) ∧
      (i.toNat < x.length) ∧
      (((x.getD i.toNat default > 20000000) ∨ (x.getD i.toNat default < -20000000)) → AV.tup [AV.int IntKind.i64 0, AV.int IntKind.i64 11] = dq) ∧
      (¬((x.getD i.toNat default > 20000000) ∨ (x.getD i.toNat default < -20000000)) → (-9223372036854775808 ≤ i + 1 ∧ i + 1 ≤ 9223372036854775807) ∧
        v24a_at (fl) (fw) (gs) (w) (fx) (x) (n) (i + 1) (PureQ dq))) ∧
    (¬(i < n) → (Sp.okG gs ∧ gs.length ≤ 1000 ∧ Sp.okW w ∧ w.length = gs.length) ∧
      AV.tup [AV.int IntKind.i64 (if (↑gs.length : Int) < 2 then 0 else Sp.boundV gs w), AV.int IntKind.i64 0] = dq)) :
  v24a_at fl fw gs w fx x n i (PureQ dq) := by
  unfold v24a_at
  have i1 : (decide (i < n)) = true ↔ (i < n) := i_dec
  rcases Classical.em (i < n) with d2 | d2
  · have H := H.1 d2
    have i3 : (decide (0 ≤ i)) = true ↔ (0 ≤ i) := i_dec
    have k4 := H.1; have H := H.2
    have w5 : (List.map (AV.int IntKind.i64) x).length = x.length := List.length_map ..
    have i6 : (decide (i.toNat < (List.map (AV.int IntKind.i64) x).length)) = true ↔ (i.toNat < x.length) := (by rw [w5] <;> exact i_dec)
    have k7 := H.1; have H := H.2
    have i8 : (bif decide (x.getD i.toNat default > 20000000) then true else decide (x.getD i.toNat default < -20000000)) = true ↔ ((x.getD i.toNat default > 20000000) ∨ (x.getD i.toNat default < -20000000)) := (i_bor i_dec i_dec)
    rcases Classical.em ((x.getD i.toNat default > 20000000) ∨ (x.getD i.toNat default < -20000000)) with d9 | d9
    · have H := H.1 d9
      exact path_ret (G := given kp24 [(8, 1, .elem (AV.int IntKind.i64 (x.getD i.toNat default)))] []) 1000 [true, true] (k := ((atC (cd Try.f24) [1, 1, 1, 0, 1, 0, 0, 1, 1, 0, 0, 1, 1, 0, 1])).tail) (env' := [(4, AV.int IntKind.i64 0), (5, AV.int IntKind.i64 11)]) (L' := []) (asm := [(decide (i < n)) == true, decide (0 ≤ i), decide (i.toNat < (List.map (AV.int IntKind.i64) x).length), (bif decide (x.getD i.toNat default > 20000000) then true else decide (x.getD i.toNat default < -20000000)) == true]) (eqs := [((List.map (AV.int IntKind.i64) x).get?Internal i.toNat = some (AV.int IntKind.i64 (x.getD i.toNat default)))]) (calls := []) (AV.tup [AV.int IntKind.i64 0, AV.int IntKind.i64 11]) (by kernel_rfl) (by kernel_rfl) (allB_cons (beq_t (i1.2 d2)) (allB_cons (i3.2 k4) (allB_cons (i6.2 k7) (allB_cons (beq_t (i8.2 d9)) allB_nil)))) (allP_cons (el_map k7) allP_nil) allC_nil (pq_of (d := AV.tup [AV.int IntKind.i64 0, AV.int IntKind.i64 11]) (bs := []) (by kernel_rfl) (by kernel_rfl) allB_nil (by kernel_rfl) H)
    · have H := H.2 d9
      have k10 := H.1; have H := H.2
      have w11 : IntKind.i64.wrap (i + 1) = i + 1 := wI64 k10
      exact path_wp (G := given kp24 [(8, 1, .elem (AV.int IntKind.i64 (x.getD i.toNat default)))] []) 1000 [true, false] ⟨(atC (cd Try.f24) [1, 1, 1, 0, 1, 0, 0]), [(0, AV.vec fl 2 (List.map G2.a gs)), (1, AV.vec fw 1 (List.map (AV.int IntKind.i64) w)), (26, AV.vec fx 1 (List.map (AV.int IntKind.i64) x)), (27, AV.int IntKind.i64 n), (28, AV.int IntKind.i64 (IntKind.i64.wrap (i + 1)))], [], [(decide (i < n)) == true, decide (0 ≤ i), decide (i.toNat < (List.map (AV.int IntKind.i64) x).length), (bif decide (x.getD i.toNat default > 20000000) then true else decide (x.getD i.toNat default < -20000000)) == false], [((List.map (AV.int IntKind.i64) x).get?Internal i.toNat = some (AV.int IntKind.i64 (x.getD i.toNat default)))], []⟩ (by kernel_rfl) (allB_cons (beq_t (i1.2 d2)) (allB_cons (i3.2 k4) (allB_cons (i6.2 k7) (allB_cons (beq_f (fun h => d9 (i8.1 h))) allB_nil)))) (allP_cons (el_map k7) allP_nil) allC_nil (by rw [w11] <;> exact H)
  · have H := H.2 d2
    have k12 := H.1; have H := H.2
    exact path_ret (G := given kp24 [(12, 2, .call (AV.tup [AV.int IntKind.i64 (if (↑gs.length : Int) < 2 then 0 else Sp.boundV gs w), AV.vec false 1 (List.map (AV.int IntKind.i64) (Sp.spanPairs gs w))]) none)] []) 1000 [false] (k := ((atC (cd Try.f24) [1, 1, 1, 1, 1, 1])).tail) (env' := [(4, AV.int IntKind.i64 (if (↑gs.length : Int) < 2 then 0 else Sp.boundV gs w)), (5, AV.int IntKind.i64 0)]) (L' := []) (asm := [(decide (i < n)) == false]) (eqs := []) (calls := [⟨true, false, 40, [AV.vec fl 2 (List.map G2.a gs), AV.vec fw 1 (List.map (AV.int IntKind.i64) w)], [], AV.tup [AV.int IntKind.i64 (if (↑gs.length : Int) < 2 then 0 else Sp.boundV gs w), AV.vec false 1 (List.map (AV.int IntKind.i64) (Sp.spanPairs gs w))], []⟩]) (AV.tup [AV.int IntKind.i64 (if (↑gs.length : Int) < 2 then 0 else Sp.boundV gs w), AV.int IntKind.i64 0]) (by kernel_rfl) (by kernel_rfl) (allB_cons (beq_f (fun h => d2 (i1.1 h))) allB_nil) allP_nil (allC_cons (fun _ => ((@ev40 (fl) (fw) (gs) (w) k12) : Ev M1 (Conf.pure 40 [AV.vec fl 2 (List.map G2.a gs), AV.vec fw 1 (List.map (AV.int IntKind.i64) w)]) (AV.tup [AV.int IntKind.i64 (if (↑gs.length : Int) < 2 then 0 else Sp.boundV gs w), AV.vec false 1 (List.map (AV.int IntKind.i64) (Sp.spanPairs gs w))]) [])) allC_nil) (pq_of (d := AV.tup [AV.int IntKind.i64 (if (↑gs.length : Int) < 2 then 0 else Sp.boundV gs w), AV.int IntKind.i64 0]) (bs := []) (by kernel_rfl) (by kernel_rfl) allB_nil (by kernel_rfl) H)

theorem v25a (fl fw : Bool) (gs : List G2) (w : List Int) (s i : Int) (dq : AV) (H :
    ((i < (↑w.length : Int)) → (0 ≤ i) ∧
      (i.toNat < w.length) ∧
      (((w.getD i.toNat default > 20000000) ∨ (w.getD i.toNat default < -20000000)) → AV.tup [AV.int IntKind.i64 0, AV.int IntKind.i64 11] = dq) ∧
      (¬((w.getD i.toNat default > 20000000) ∨ (w.getD i.toNat default < -20000000)) → (-9223372036854775808 ≤ s + w.getD i.toNat default ∧ s + w.getD i.toNat default ≤ 9223372036854775807) ∧
        (-9223372036854775808 ≤ i + 1 ∧ i + 1 ≤ 9223372036854775807) ∧
        v25a_at (fl) (fw) (gs) (w) (s + w.getD i.toNat default) (i + 1) (PureQ dq))) ∧
    (¬(i < (↑w.length : Int)) → (((↑gs.length : Int) = 1) → AV.tup [AV.int IntKind.i64 0, AV.int IntKind.i64 0] = dq) ∧
      (¬((↑gs.length : Int) = 1) → (1 < w.length) ∧
        v25b_at (fl) (fw) (gs) (w) (s) (w.getD 1 default) (1) (PureQ dq)))) :
  v25a_at fl fw gs w s i (PureQ dq) := by
  unfold v25a_at
  have w1 : (List.map (AV.int IntKind.i64) w).length = w.length := List.length_map ..
  have i2 : (decide (i < (↑(List.map (AV.int IntKind.i64) w).length : Int))) = true ↔ (i < (↑w.length : Int)) := (by rw [w1] <;> exact i_dec)
  rcases Classical.em (i < (↑w.length : Int)) with d3 | d3
  · have H := H.1 d3
    have i4 : (decide (0 ≤ i)) = true ↔ (0 ≤ i) := i_dec
    have k5 := H.1; have H := H.2
    have i6 : (decide (i.toNat < (List.map (AV.int IntKind.i64) w).length)) = true ↔ (i.toNat < w.length) := (by rw [w1] <;> exact i_dec)
    have k7 := H.1; have H := H.2
    have i8 : (!(decide (w.getD i.toNat default > 20000000) == false && true) || decide (0 ≤ i)) = true ↔ ((¬(w.getD i.toNat default > 20000000)) → (0 ≤ i)) := (i_imp (i_at (i_bf i_dec)) i_dec)
    have i9 : (!(decide (w.getD i.toNat default > 20000000) == false && true) || decide (i.toNat < (List.map (AV.int IntKind.i64) w).length)) = true ↔ ((¬(w.getD i.toNat default > 20000000)) → (i.toNat < w.length)) := (by rw [w1] <;> exact (i_imp (i_at (i_bf i_dec)) i_dec))
    have i10 : (decide (w.getD i.toNat default > 20000000) == false && true) = true ↔ (¬(w.getD i.toNat default > 20000000)) := (i_at (i_bf i_dec))
    have i11 : (bif decide (w.getD i.toNat default > 20000000) then true else decide (w.getD i.toNat default < -20000000)) = true ↔ ((w.getD i.toNat default > 20000000) ∨ (w.getD i.toNat default < -20000000)) := (i_bor i_dec i_dec)
    rcases Classical.em ((w.getD i.toNat default > 20000000) ∨ (w.getD i.toNat default < -20000000)) with d12 | d12
    · have H := H.1 d12
      exact path_ret (G := given kp25 [(10, 3, .elem (AV.int IntKind.i64 (w.getD i.toNat default))), (10, 9, .elem (AV.int IntKind.i64 (w.getD i.toNat default)))] []) 1000 [true, true] (k := ((atC (cd Try.f25) [1, 1, 1, 1, 0, 1, 0, 0, 1, 0, 0, 0, 1, 0, 1])).tail) (env' := [(4, AV.int IntKind.i64 0), (5, AV.int IntKind.i64 11)]) (L' := []) (asm := [(decide (i < (↑(List.map (AV.int IntKind.i64) w).length : Int))) == true, decide (0 ≤ i), decide (i.toNat < (List.map (AV.int IntKind.i64) w).length), !(decide (w.getD i.toNat default > 20000000) == false && true) || decide (0 ≤ i), !(decide (w.getD i.toNat default > 20000000) == false && true) || decide (i.toNat < (List.map (AV.int IntKind.i64) w).length), (bif decide (w.getD i.toNat default > 20000000) then true else decide (w.getD i.toNat default < -20000000)) == true]) (eqs := [((List.map (AV.int IntKind.i64) w).get?Internal i.toNat = some (AV.int IntKind.i64 (w.getD i.toNat default))), ((decide (w.getD i.toNat default > 20000000) == false && true) = true → (List.map (AV.int IntKind.i64) w).get?Internal i.toNat = some (AV.int IntKind.i64 (w.getD i.toNat default)))]) (calls := []) (AV.tup [AV.int IntKind.i64 0, AV.int IntKind.i64 11]) (by kernel_rfl) (by kernel_rfl) (allB_cons (beq_t (i2.2 d3)) (allB_cons (i4.2 k5) (allB_cons (i6.2 k7) (allB_cons (i8.2 (fun _ => k5)) (allB_cons (i9.2 (fun _ => k7)) (allB_cons (beq_t (i11.2 d12)) allB_nil)))))) (allP_cons (el_map k7) (allP_cons (fun h => el_map k7) allP_nil)) allC_nil (pq_of (d := AV.tup [AV.int IntKind.i64 0, AV.int IntKind.i64 11]) (bs := []) (by kernel_rfl) (by kernel_rfl) allB_nil (by kernel_rfl) H)
    · have H := H.2 d12
      have i13 : (decide (0 ≤ i)) = true ↔ (0 ≤ i) := i_dec
      have i14 : (decide (i.toNat < (List.map (AV.int IntKind.i64) w).length)) = true ↔ (i.toNat < w.length) := (by rw [w1] <;> exact i_dec)
      have k15 := H.1; have H := H.2
      have w16 : IntKind.i64.wrap (s + w.getD i.toNat default) = s + w.getD i.toNat default := wI64 k15
      have k17 := H.1; have H := H.2
      have w18 : IntKind.i64.wrap (i + 1) = i + 1 := wI64 k17
      exact path_wp (G := given kp25 [(10, 3, .elem (AV.int IntKind.i64 (w.getD i.toNat default))), (10, 9, .elem (AV.int IntKind.i64 (w.getD i.toNat default))), (12, 4, .elem (AV.int IntKind.i64 (w.getD i.toNat default)))] []) 1000 [true, false] ⟨(atC (cd Try.f25) [1, 1, 1, 1, 0, 1, 0, 0]), [(0, AV.vec fl 2 (List.map G2.a gs)), (1, AV.vec fw 1 (List.map (AV.int IntKind.i64) w)), (7, AV.int IntKind.i64 (IntKind.i64.wrap (s + w.getD i.toNat default))), (8, AV.int IntKind.i64 (IntKind.i64.wrap (i + 1)))], [], [(decide (i < (↑(List.map (AV.int IntKind.i64) w).length : Int))) == true, decide (0 ≤ i), decide (i.toNat < (List.map (AV.int IntKind.i64) w).length), !(decide (w.getD i.toNat default > 20000000) == false && true) || decide (0 ≤ i), !(decide (w.getD i.toNat default > 20000000) == false && true) || decide (i.toNat < (List.map (AV.int IntKind.i64) w).length), (bif decide (w.getD i.toNat default > 20000000) then true else decide (w.getD i.toNat default < -20000000)) == false, decide (0 ≤ i), decide (i.toNat < (List.map (AV.int IntKind.i64) w).length)], [((List.map (AV.int IntKind.i64) w).get?Internal i.toNat = some (AV.int IntKind.i64 (w.getD i.toNat default))), ((decide (w.getD i.toNat default > 20000000) == false && true) = true → (List.map (AV.int IntKind.i64) w).get?Internal i.toNat = some (AV.int IntKind.i64 (w.getD i.toNat default))), ((List.map (AV.int IntKind.i64) w).get?Internal i.toNat = some (AV.int IntKind.i64 (w.getD i.toNat default)))], []⟩ (by kernel_rfl) (allB_cons (beq_t (i2.2 d3)) (allB_cons (i4.2 k5) (allB_cons (i6.2 k7) (allB_cons (i8.2 (fun _ => k5)) (allB_cons (i9.2 (fun _ => k7)) (allB_cons (beq_f (fun h => d12 (i11.1 h))) (allB_cons (i13.2 k5) (allB_cons (i14.2 k7) allB_nil)))))))) (allP_cons (el_map k7) (allP_cons (fun h => el_map k7) (allP_cons (el_map k7) allP_nil))) allC_nil (by rw [w16, w18] <;> exact H)
  · have H := H.2 d3
    have w19 : (List.map G2.a gs).length = gs.length := List.length_map ..
    have i20 : ((↑(List.map G2.a gs).length : Int) == 1) = true ↔ ((↑gs.length : Int) = 1) := (by rw [w19] <;> exact i_eq)
    rcases Classical.em ((↑gs.length : Int) = 1) with d21 | d21
    · have H := H.1 d21
      exact path_ret (G := given kp25 [] []) 1000 [false, true] (k := ((atC (cd Try.f25) [1, 1, 1, 1, 1, 0, 1, 0, 1])).tail) (env' := [(4, AV.int IntKind.i64 0), (5, AV.int IntKind.i64 0)]) (L' := []) (asm := [(decide (i < (↑(List.map (AV.int IntKind.i64) w).length : Int))) == false, ((↑(List.map G2.a gs).length : Int) == 1) == true]) (eqs := []) (calls := []) (AV.tup [AV.int IntKind.i64 0, AV.int IntKind.i64 0]) (by kernel_rfl) (by kernel_rfl) (allB_cons (beq_f (fun h => d3 (i2.1 h))) (allB_cons (beq_t (i20.2 d21)) allB_nil)) allP_nil allC_nil (pq_of (d := AV.tup [AV.int IntKind.i64 0, AV.int IntKind.i64 0]) (bs := []) (by kernel_rfl) (by kernel_rfl) allB_nil (by kernel_rfl) H)
    · have H := H.2 d21
      have i22 : (decide (1 < (List.map (AV.int IntKind.i64) w).length)) = true ↔ (1 < w.length) := (by rw [w1] <;> exact i_dec)
      have k23 := H.1; have H := H.2
      exact path_wp (G := given kp25 [(15, 2, .elem (AV.int IntKind.i64 (w.getD 1 default)))] []) 1000 [false, false] ⟨(atC (cd Try.f25) [1, 1, 1, 1, 1, 1, 1, 0, 1, 0, 0]), [(0, AV.vec fl 2 (List.map G2.a gs)), (1, AV.vec fw 1 (List.map (AV.int IntKind.i64) w)), (7, AV.int IntKind.i64 s), (9, AV.int IntKind.i64 (w.getD 1 default)), (10, AV.int IntKind.i64 1)], [], [(decide (i < (↑(List.map (AV.int IntKind.i64) w).length : Int))) == false, ((↑(List.map G2.a gs).length : Int) == 1) == false, true, decide (1 < (List.map (AV.int IntKind.i64) w).length)], [((List.map (AV.int IntKind.i64) w).get?Internal 1 = some (AV.int IntKind.i64 (w.getD 1 default)))], []⟩ (by kernel_rfl) (allB_cons (beq_f (fun h => d3 (i2.1 h))) (allB_cons (beq_f (fun h => d21 (i20.1 h))) (allB_cons rfl (allB_cons (i22.2 k23) allB_nil)))) (allP_cons (el_map k23) allP_nil) allC_nil (H)

theorem v25b (fl fw : Bool) (gs : List G2) (w : List Int) (s m i : Int) (dq : AV) (H :
    ((i < (↑w.length : Int)) → (0 ≤ i) ∧
      (i.toNat < w.length) ∧
      (-9223372036854775808 ≤ i + 1 ∧ i + 1 ≤ 9223372036854775807) ∧
      v25b_at (fl) (fw) (gs) (w) (s) (if w.getD i.toNat default < m then w.getD i.toNat default else m) (i + 1) (PureQ dq)) ∧
    (¬(i < (↑w.length : Int)) → (Sp.okG gs ∧ gs.length ≤ 1000 ∧ Sp.okW w ∧ w.length = gs.length) ∧
      (0 < w.length) ∧
      (-9223372036854775808 ≤ 2 * s ∧ 2 * s ≤ 9223372036854775807) ∧
      (-9223372036854775808 ≤ Sp.mst gs w - 2 * s ∧ Sp.mst gs w - 2 * s ≤ 9223372036854775807) ∧
      (-9223372036854775808 ≤ Sp.mst gs w - 2 * s + w.getD 0 default ∧ Sp.mst gs w - 2 * s + w.getD 0 default ≤ 9223372036854775807) ∧
      (-9223372036854775808 ≤ Sp.mst gs w - 2 * s + w.getD 0 default + m ∧ Sp.mst gs w - 2 * s + w.getD 0 default + m ≤ 9223372036854775807) ∧
      AV.tup [AV.int IntKind.i64 (Sp.mst gs w - 2 * s + w.getD 0 default + m), AV.int IntKind.i64 0] = dq)) :
  v25b_at fl fw gs w s m i (PureQ dq) := by
  unfold v25b_at
  have w1 : (List.map (AV.int IntKind.i64) w).length = w.length := List.length_map ..
  have i2 : (decide (i < (↑(List.map (AV.int IntKind.i64) w).length : Int))) = true ↔ (i < (↑w.length : Int)) := (by rw [w1] <;> exact i_dec)
  rcases Classical.em (i < (↑w.length : Int)) with d3 | d3
  · have H := H.1 d3
    have i4 : (decide (0 ≤ i)) = true ↔ (0 ≤ i) := i_dec
    have k5 := H.1; have H := H.2
    have i6 : (decide (i.toNat < (List.map (AV.int IntKind.i64) w).length)) = true ↔ (i.toNat < w.length) := (by rw [w1] <;> exact i_dec)
    have k7 := H.1; have H := H.2
    have k8 := H.1; have H := H.2
    have w9 : IntKind.i64.wrap (i + 1) = i + 1 := wI64 k8
    exact path_wp (G := given kp25 [(19, 4, .elem (AV.int IntKind.i64 (w.getD i.toNat default)))] []) 1000 [true] ⟨(atC (cd Try.f25) [1, 1, 1, 1, 1, 1, 1, 0, 1, 0, 0]), [(0, AV.vec fl 2 (List.map G2.a gs)), (1, AV.vec fw 1 (List.map (AV.int IntKind.i64) w)), (7, AV.int IntKind.i64 s), (9, AV.int IntKind.i64 (if w.getD i.toNat default < m then w.getD i.toNat default else m)), (10, AV.int IntKind.i64 (IntKind.i64.wrap (i + 1)))], [], [(decide (i < (↑(List.map (AV.int IntKind.i64) w).length : Int))) == true, decide (0 ≤ i), decide (i.toNat < (List.map (AV.int IntKind.i64) w).length)], [((List.map (AV.int IntKind.i64) w).get?Internal i.toNat = some (AV.int IntKind.i64 (w.getD i.toNat default)))], []⟩ (by kernel_rfl) (allB_cons (beq_t (i2.2 d3)) (allB_cons (i4.2 k5) (allB_cons (i6.2 k7) allB_nil))) (allP_cons (el_map k7) allP_nil) allC_nil (by rw [w9] <;> exact H)
  · have H := H.2 d3
    have k10 := H.1; have H := H.2
    have i11 : (decide (0 < (List.map (AV.int IntKind.i64) w).length)) = true ↔ (0 < w.length) := (by rw [w1] <;> exact i_dec)
    have k12 := H.1; have H := H.2
    have k13 := H.1; have H := H.2
    have w14 : IntKind.i64.wrap (2 * s) = 2 * s := wI64 k13
    have k15 := H.1; have H := H.2
    have w16 : IntKind.i64.wrap (Sp.mst gs w - 2 * s) = Sp.mst gs w - 2 * s := wI64 k15
    have k17 := H.1; have H := H.2
    have w18 : IntKind.i64.wrap (Sp.mst gs w - 2 * s + w.getD 0 default) = Sp.mst gs w - 2 * s + w.getD 0 default := wI64 k17
    have k19 := H.1; have H := H.2
    have w20 : IntKind.i64.wrap (Sp.mst gs w - 2 * s + w.getD 0 default + m) = Sp.mst gs w - 2 * s + w.getD 0 default + m := wI64 k19
    exact path_ret (G := given kp25 [(20, 2, .call (AV.int IntKind.i64 (Sp.mst gs w)) none), (20, 8, .elem (AV.int IntKind.i64 (w.getD 0 default)))] []) 1000 [false] (k := ((atC (cd Try.f25) [1, 1, 1, 1, 1, 1, 1, 1, 1])).tail) (env' := [(4, AV.int IntKind.i64 (IntKind.i64.wrap (IntKind.i64.wrap (IntKind.i64.wrap (Sp.mst gs w - IntKind.i64.wrap (2 * s)) + w.getD 0 default) + m))), (5, AV.int IntKind.i64 0)]) (L' := []) (asm := [(decide (i < (↑(List.map (AV.int IntKind.i64) w).length : Int))) == false, true, decide (0 < (List.map (AV.int IntKind.i64) w).length)]) (eqs := [((List.map (AV.int IntKind.i64) w).get?Internal 0 = some (AV.int IntKind.i64 (w.getD 0 default)))]) (calls := [⟨true, false, 37, [AV.vec fl 2 (List.map G2.a gs), AV.vec fw 1 (List.map (AV.int IntKind.i64) w)], [], AV.int IntKind.i64 (Sp.mst gs w), []⟩]) (AV.tup [AV.int IntKind.i64 (IntKind.i64.wrap (IntKind.i64.wrap (IntKind.i64.wrap (Sp.mst gs w - IntKind.i64.wrap (2 * s)) + w.getD 0 default) + m)), AV.int IntKind.i64 0]) (by kernel_rfl) (by kernel_rfl) (allB_cons (beq_f (fun h => d3 (i2.1 h))) (allB_cons rfl (allB_cons (i11.2 k12) allB_nil))) (allP_cons (el_map k12) allP_nil) (allC_cons (fun _ => ((@ev37 (fl) (fw) (gs) (w) k10) : Ev M1 (Conf.pure 37 [AV.vec fl 2 (List.map G2.a gs), AV.vec fw 1 (List.map (AV.int IntKind.i64) w)]) (AV.int IntKind.i64 (Sp.mst gs w)) [])) allC_nil) (pq_of (d := AV.tup [AV.int IntKind.i64 (IntKind.i64.wrap (IntKind.i64.wrap (IntKind.i64.wrap (Sp.mst gs w - IntKind.i64.wrap (2 * s)) + w.getD 0 default) + m)), AV.int IntKind.i64 0]) (bs := []) (by kernel_rfl) (by kernel_rfl) allB_nil (by kernel_rfl) (by rw [w14, w16, w18, w20] <;> exact H))

theorem v24 (fl fw : Bool) (gs : List G2) (w : List Int) (dq : AV) (H :
    (Sp.mOk 200) ∧
    ((¬Sp.checkE gs 200 = 0) → AV.tup [AV.int IntKind.i64 0, AV.int IntKind.i64 (Sp.checkE gs 200)] = dq) ∧
    (¬(¬Sp.checkE gs 200 = 0) → ((((↑gs.length : Int) = 0) ∨ (¬(↑w.length : Int) = (↑gs.length : Int))) → AV.tup [AV.int IntKind.i64 0, AV.int IntKind.i64 1] = dq) ∧
      (¬(((↑gs.length : Int) = 0) ∨ (¬(↑w.length : Int) = (↑gs.length : Int))) → v24a_at (fl) (fw) (gs) (w) (fw) (w) ((↑w.length : Int)) (0) (PureQ dq)))) :
  v24_at fl fw gs w (PureQ dq) := by
  unfold v24_at
  have k1 := H.1; have H := H.2
  have i2 : (Sp.checkE gs 200 != 0) = true ↔ (¬Sp.checkE gs 200 = 0) := i_ne
  rcases Classical.em (¬Sp.checkE gs 200 = 0) with d3 | d3
  · have H := H.1 d3
    exact path_ret (G := given kp24 [(1, 1, .call (AV.int IntKind.i64 (Sp.checkE gs 200)) none)] []) 1000 [true] (k := ((atC (cd Try.f24) [1, 0, 1, 1, 0, 1])).tail) (env' := [(4, AV.int IntKind.i64 0), (5, AV.int IntKind.i64 (Sp.checkE gs 200))]) (L' := []) (asm := [(Sp.checkE gs 200 != 0) == true]) (eqs := []) (calls := [⟨true, false, 28, [AV.vec fl 2 (List.map G2.a gs), AV.int IntKind.i64 200], [], AV.int IntKind.i64 (Sp.checkE gs 200), []⟩]) (AV.tup [AV.int IntKind.i64 0, AV.int IntKind.i64 (Sp.checkE gs 200)]) (by kernel_rfl) (by kernel_rfl) (allB_cons (beq_t (i2.2 d3)) allB_nil) allP_nil (allC_cons (fun _ => ((@ev28 (fl) (gs) (200) k1) : Ev M1 (Conf.pure 28 [AV.vec fl 2 (List.map G2.a gs), AV.int IntKind.i64 200]) (AV.int IntKind.i64 (Sp.checkE gs 200)) [])) allC_nil) (pq_of (d := AV.tup [AV.int IntKind.i64 0, AV.int IntKind.i64 (Sp.checkE gs 200)]) (bs := []) (by kernel_rfl) (by kernel_rfl) allB_nil (by kernel_rfl) H)
  · have H := H.2 d3
    have w4 : (List.map G2.a gs).length = gs.length := List.length_map ..
    have w5 : (List.map (AV.int IntKind.i64) w).length = w.length := List.length_map ..
    have i6 : (bif (↑(List.map G2.a gs).length : Int) == 0 then true else (↑(List.map (AV.int IntKind.i64) w).length : Int) != (↑(List.map G2.a gs).length : Int)) = true ↔ (((↑gs.length : Int) = 0) ∨ (¬(↑w.length : Int) = (↑gs.length : Int))) := (by rw [w4, w5] <;> exact (i_bor i_eq i_ne))
    rcases Classical.em (((↑gs.length : Int) = 0) ∨ (¬(↑w.length : Int) = (↑gs.length : Int))) with d7 | d7
    · have H := H.1 d7
      exact path_ret (G := given kp24 [(1, 1, .call (AV.int IntKind.i64 (Sp.checkE gs 200)) none)] []) 1000 [false, true] (k := ((atC (cd Try.f24) [1, 1, 0, 1, 0, 1])).tail) (env' := [(4, AV.int IntKind.i64 0), (5, AV.int IntKind.i64 1)]) (L' := []) (asm := [(Sp.checkE gs 200 != 0) == false, (bif (↑(List.map G2.a gs).length : Int) == 0 then true else (↑(List.map (AV.int IntKind.i64) w).length : Int) != (↑(List.map G2.a gs).length : Int)) == true]) (eqs := []) (calls := [⟨true, false, 28, [AV.vec fl 2 (List.map G2.a gs), AV.int IntKind.i64 200], [], AV.int IntKind.i64 (Sp.checkE gs 200), []⟩]) (AV.tup [AV.int IntKind.i64 0, AV.int IntKind.i64 1]) (by kernel_rfl) (by kernel_rfl) (allB_cons (beq_f (fun h => d3 (i2.1 h))) (allB_cons (beq_t (i6.2 d7)) allB_nil)) allP_nil (allC_cons (fun _ => ((@ev28 (fl) (gs) (200) k1) : Ev M1 (Conf.pure 28 [AV.vec fl 2 (List.map G2.a gs), AV.int IntKind.i64 200]) (AV.int IntKind.i64 (Sp.checkE gs 200)) [])) allC_nil) (pq_of (d := AV.tup [AV.int IntKind.i64 0, AV.int IntKind.i64 1]) (bs := []) (by kernel_rfl) (by kernel_rfl) allB_nil (by kernel_rfl) H)
    · have H := H.2 d7
      exact path_wp (G := given kp24 [(1, 1, .call (AV.int IntKind.i64 (Sp.checkE gs 200)) none)] []) 1000 [false, false] ⟨(atC (cd Try.f24) [1, 1, 1, 0, 1, 0, 0]), [(0, AV.vec fl 2 (List.map G2.a gs)), (1, AV.vec fw 1 (List.map (AV.int IntKind.i64) w)), (26, AV.vec fw 1 (List.map (AV.int IntKind.i64) w)), (27, AV.int IntKind.i64 (↑(List.map (AV.int IntKind.i64) w).length : Int)), (28, AV.int IntKind.i64 0)], [], [(Sp.checkE gs 200 != 0) == false, (bif (↑(List.map G2.a gs).length : Int) == 0 then true else (↑(List.map (AV.int IntKind.i64) w).length : Int) != (↑(List.map G2.a gs).length : Int)) == false], [], [⟨true, false, 28, [AV.vec fl 2 (List.map G2.a gs), AV.int IntKind.i64 200], [], AV.int IntKind.i64 (Sp.checkE gs 200), []⟩]⟩ (by kernel_rfl) (allB_cons (beq_f (fun h => d3 (i2.1 h))) (allB_cons (beq_f (fun h => d7 (i6.1 h))) allB_nil)) allP_nil (allC_cons (fun _ => ((@ev28 (fl) (gs) (200) k1) : Ev M1 (Conf.pure 28 [AV.vec fl 2 (List.map G2.a gs), AV.int IntKind.i64 200]) (AV.int IntKind.i64 (Sp.checkE gs 200)) [])) allC_nil) (by rw [w5] <;> exact H)

theorem v25 (fl fw : Bool) (gs : List G2) (w : List Int) (dq : AV) (H :
    (Sp.mOk 200) ∧
    ((¬Sp.checkE gs 200 = 0) → AV.tup [AV.int IntKind.i64 0, AV.int IntKind.i64 (Sp.checkE gs 200)] = dq) ∧
    (¬(¬Sp.checkE gs 200 = 0) → ((((↑gs.length : Int) = 0) ∨ (¬(↑w.length : Int) = (↑gs.length : Int))) → AV.tup [AV.int IntKind.i64 0, AV.int IntKind.i64 1] = dq) ∧
      (¬(((↑gs.length : Int) = 0) ∨ (¬(↑w.length : Int) = (↑gs.length : Int))) → v25a_at (fl) (fw) (gs) (w) (0) (0) (PureQ dq)))) :
  v25_at fl fw gs w (PureQ dq) := by
  unfold v25_at
  have k1 := H.1; have H := H.2
  have i2 : (Sp.checkE gs 200 != 0) = true ↔ (¬Sp.checkE gs 200 = 0) := i_ne
  rcases Classical.em (¬Sp.checkE gs 200 = 0) with d3 | d3
  · have H := H.1 d3
    exact path_ret (G := given kp25 [(1, 1, .call (AV.int IntKind.i64 (Sp.checkE gs 200)) none)] []) 1000 [true] (k := ((atC (cd Try.f25) [1, 0, 1, 1, 0, 1])).tail) (env' := [(4, AV.int IntKind.i64 0), (5, AV.int IntKind.i64 (Sp.checkE gs 200))]) (L' := []) (asm := [(Sp.checkE gs 200 != 0) == true]) (eqs := []) (calls := [⟨true, false, 31, [AV.vec fl 2 (List.map G2.a gs), AV.int IntKind.i64 200], [], AV.int IntKind.i64 (Sp.checkE gs 200), []⟩]) (AV.tup [AV.int IntKind.i64 0, AV.int IntKind.i64 (Sp.checkE gs 200)]) (by kernel_rfl) (by kernel_rfl) (allB_cons (beq_t (i2.2 d3)) allB_nil) allP_nil (allC_cons (fun _ => ((@ev31 (fl) (gs) (200) k1) : Ev M1 (Conf.pure 31 [AV.vec fl 2 (List.map G2.a gs), AV.int IntKind.i64 200]) (AV.int IntKind.i64 (Sp.checkE gs 200)) [])) allC_nil) (pq_of (d := AV.tup [AV.int IntKind.i64 0, AV.int IntKind.i64 (Sp.checkE gs 200)]) (bs := []) (by kernel_rfl) (by kernel_rfl) allB_nil (by kernel_rfl) H)
  · have H := H.2 d3
    have w4 : (List.map G2.a gs).length = gs.length := List.length_map ..
    have w5 : (List.map (AV.int IntKind.i64) w).length = w.length := List.length_map ..
    have i6 : (bif (↑(List.map G2.a gs).length : Int) == 0 then true else (↑(List.map (AV.int IntKind.i64) w).length : Int) != (↑(List.map G2.a gs).length : Int)) = true ↔ (((↑gs.length : Int) = 0) ∨ (¬(↑w.length : Int) = (↑gs.length : Int))) := (by rw [w4, w5] <;> exact (i_bor i_eq i_ne))
    rcases Classical.em (((↑gs.length : Int) = 0) ∨ (¬(↑w.length : Int) = (↑gs.length : Int))) with d7 | d7
    · have H := H.1 d7
      exact path_ret (G := given kp25 [(1, 1, .call (AV.int IntKind.i64 (Sp.checkE gs 200)) none)] []) 1000 [false, true] (k := ((atC (cd Try.f25) [1, 1, 0, 1, 0, 1])).tail) (env' := [(4, AV.int IntKind.i64 0), (5, AV.int IntKind.i64 1)]) (L' := []) (asm := [(Sp.checkE gs 200 != 0) == false, (bif (↑(List.map G2.a gs).length : Int) == 0 then true else (↑(List.map (AV.int IntKind.i64) w).length : Int) != (↑(List.map G2.a gs).length : Int)) == true]) (eqs := []) (calls := [⟨true, false, 31, [AV.vec fl 2 (List.map G2.a gs), AV.int IntKind.i64 200], [], AV.int IntKind.i64 (Sp.checkE gs 200), []⟩]) (AV.tup [AV.int IntKind.i64 0, AV.int IntKind.i64 1]) (by kernel_rfl) (by kernel_rfl) (allB_cons (beq_f (fun h => d3 (i2.1 h))) (allB_cons (beq_t (i6.2 d7)) allB_nil)) allP_nil (allC_cons (fun _ => ((@ev31 (fl) (gs) (200) k1) : Ev M1 (Conf.pure 31 [AV.vec fl 2 (List.map G2.a gs), AV.int IntKind.i64 200]) (AV.int IntKind.i64 (Sp.checkE gs 200)) [])) allC_nil) (pq_of (d := AV.tup [AV.int IntKind.i64 0, AV.int IntKind.i64 1]) (bs := []) (by kernel_rfl) (by kernel_rfl) allB_nil (by kernel_rfl) H)
    · have H := H.2 d7
      exact path_wp (G := given kp25 [(1, 1, .call (AV.int IntKind.i64 (Sp.checkE gs 200)) none)] []) 1000 [false, false] ⟨(atC (cd Try.f25) [1, 1, 1, 1, 0, 1, 0, 0]), [(0, AV.vec fl 2 (List.map G2.a gs)), (1, AV.vec fw 1 (List.map (AV.int IntKind.i64) w)), (7, AV.int IntKind.i64 0), (8, AV.int IntKind.i64 0)], [], [(Sp.checkE gs 200 != 0) == false, (bif (↑(List.map G2.a gs).length : Int) == 0 then true else (↑(List.map (AV.int IntKind.i64) w).length : Int) != (↑(List.map G2.a gs).length : Int)) == false], [], [⟨true, false, 31, [AV.vec fl 2 (List.map G2.a gs), AV.int IntKind.i64 200], [], AV.int IntKind.i64 (Sp.checkE gs 200), []⟩]⟩ (by kernel_rfl) (allB_cons (beq_f (fun h => d3 (i2.1 h))) (allB_cons (beq_f (fun h => d7 (i6.1 h))) allB_nil)) allP_nil (allC_cons (fun _ => ((@ev31 (fl) (gs) (200) k1) : Ev M1 (Conf.pure 31 [AV.vec fl 2 (List.map G2.a gs), AV.int IntKind.i64 200]) (AV.int IntKind.i64 (Sp.checkE gs 200)) [])) allC_nil) (H)


end Go.Av
