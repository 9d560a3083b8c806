/- PART 4 of the texts of a claim, joined by a program: what each part shows stands at its head. -/
import Derived.Test.YtablgkhmbcegkaaPart65904b796a

/- PATHS, written by a program of the prover's. -/
namespace Go.Av
open Go.Proofs
set_option maxRecDepth 100000
def fi37 : Fi := ⟨78, [.tmp 4]⟩
def kp37 : List (Nat × List Nat) := [(0, [0, 1]), (1, [0, 1, 5]), (2, [0, 1, 5, 6]), (3, [0, 1, 5, 6, 17]), (4, [0, 1, 5, 6, 7, 8]), (5, [0, 1, 5, 6, 7, 8, 9]), (6, [0, 1, 5, 6, 7, 8, 9, 21]), (7, [0, 1, 5, 6, 7, 8, 9]), (8, [0, 1, 5, 6, 7, 8, 9, 10]), (9, [0, 1, 5, 6, 7, 8, 9, 10, 27]), (10, [0, 1, 5, 6, 7, 8, 9, 10]), (11, [0, 1, 5, 6, 7, 8, 9, 10, 11]), (12, [0, 1, 5, 6, 7, 8, 9, 10, 11, 67]), (13, [0, 1, 5, 6, 7, 8, 9, 10]), (14, [0, 1, 5, 6, 7]), (15, [0, 1, 5, 6]), (16, [4])]
def v37_at (fl fw : Bool) (gs : List G2) (w : List Int) (Q : AV → Heap → Prop) : Prop := Wp M1 (.run fi37 (atC (cd Try.f37) []) [(0, .vec fl 2 (gs.map G2.a)), (1, .vec fw 1 (w.map (.int .i64)))] []) Q
def v37a_at (fl fw : Bool) (gs : List G2) (w : List Int) (s : Int) (o : List Int) (v : Nat) (Q : AV → Heap → Prop) : Prop := Wp M1 (.run fi37 (atC (cd Try.f37) [1, 1, 1, 0, 0, 0]) [(0, .vec fl 2 (gs.map G2.a)), (1, .vec fw 1 (w.map (.int .i64))), (5, .int .i64 s), (6, .row 0 v)] [⟨o.map (.int .i64), 1, v, false, true⟩]) Q
def v37b_at (fl fw : Bool) (gs : List G2) (w : List Int) (s nx le i : Int) (o : List Int) (v : Nat) (Q : AV → Heap → Prop) : Prop := Wp M1 (.run fi37 (atC (cd Try.f37) [1, 1, 1, 0, 0, 0, 1, 0, 1, 0, 1, 0, 0]) [(0, .vec fl 2 (gs.map G2.a)), (1, .vec fw 1 (w.map (.int .i64))), (5, .int .i64 s), (6, .row 0 v), (7, .int .i64 nx), (8, .int .i64 le), (9, .int .i64 i)] [⟨o.map (.int .i64), 1, v, false, true⟩]) Q
def v37c_at (fl fw : Bool) (gs : List G2) (w : List Int) (s nx le i k : Int) (o : List Int) (v : Nat) (Q : AV → Heap → Prop) : Prop := Wp M1 (.run fi37 (atC (cd Try.f37) [1, 1, 1, 0, 0, 0, 1, 0, 1, 0, 1, 0, 0, 1, 0, 0, 1, 0, 0]) [(0, .vec fl 2 (gs.map G2.a)), (1, .vec fw 1 (w.map (.int .i64))), (5, .int .i64 s), (6, .row 0 v), (7, .int .i64 nx), (8, .int .i64 le), (9, .int .i64 i), (10, .int .i64 k)] [⟨o.map (.int .i64), 1, v, false, true⟩]) Q
theorem call37 {args : List AV} {d : AV} (h : Wp M1 (.run fi37 [.code (cd Try.f37)] (argVars 0 args) []) (PureQ d)) : Ev M1 (.pure 37 args) d [] :=
  pure_pq Try.f37 fi37 (by kernel_rfl) (by kernel_rfl) (by kernel_rfl) (by kernel_rfl) h
theorem owncall37 {args : List AV} {L : Heap} {Q : AV → Heap → Prop} (h : Wp M1 (.run fi37 [.code (cd Try.f37)] (argVars 0 args) L) Q) : Wp M1 (.own 37 args L) Q :=
  own_wp Try.f37 fi37 (by kernel_rfl) (by kernel_rfl) (by kernel_rfl) (by kernel_rfl) h
theorem keepcall37 {args : List AV} {L : Heap} {v : AV} {K : Heap} (hk : keepOk L.length v K = true) (h : Wp M1 (.run fi37 [.code (cd Try.f37)] (argVars 0 args) L) (KeepQ v K)) : Ev M1 (.own 37 args L) v K :=
  own_keep Try.f37 fi37 (by kernel_rfl) (by kernel_rfl) (by kernel_rfl) (by kernel_rfl) hk h
theorem v37 (fl fw : Bool) (gs : List G2) (w : List Int) (dq : AV) (H :
    v37a_at (fl) (fw) (gs) (w) (0) ([0]) (0) (PureQ dq)) :
  v37_at fl fw gs w (PureQ dq) := by
  unfold v37_at
  have w1 : [AV.int IntKind.i64 0] = List.map (AV.int IntKind.i64) [0] := rfl
  exact path_wp (G := given kp37 [(2, 0, .keep)] []) 1000 [] ⟨(atC (cd Try.f37) [1, 1, 1, 0, 0, 0]), [(0, AV.vec fl 2 (List.map G2.a gs)), (1, AV.vec fw 1 (List.map (AV.int IntKind.i64) w)), (5, AV.int IntKind.i64 0), (6, AV.row 0 0)], [{ elems := [AV.int IntKind.i64 0], es := 1, ver := 0, frozen := false, clean := true }], [], [], []⟩ (by kernel_rfl) allB_nil allP_nil allC_nil (by rw [w1] <;> exact H)

theorem v37a (fl fw : Bool) (gs : List G2) (w : List Int) (s : Int) (o : List Int) (v : Nat) (dq : AV) (H :
    (((↑o.length : Int) < (↑gs.length : Int)) → v37b_at (fl) (fw) (gs) (w) (s) (-1) (0) (0) (o) (v) (PureQ dq)) ∧
    (¬((↑o.length : Int) < (↑gs.length : Int)) → AV.int IntKind.i64 s = dq)) :
  v37a_at fl fw gs w s o v (PureQ dq) := by
  unfold v37a_at
  have w1 : (List.map (AV.int IntKind.i64) o).length = o.length := List.length_map ..
  have w2 : (List.map G2.a gs).length = gs.length := List.length_map ..
  have i3 : (decide ((↑(List.map (AV.int IntKind.i64) o).length : Int) < (↑(List.map G2.a gs).length : Int))) = true ↔ ((↑o.length : Int) < (↑gs.length : Int)) := (by rw [w1, w2] <;> exact i_dec)
  rcases Classical.em ((↑o.length : Int) < (↑gs.length : Int)) with d4 | d4
  · have H := H.1 d4
    exact path_wp (G := given kp37 [] []) 1000 [true] ⟨(atC (cd Try.f37) [1, 1, 1, 0, 0, 0, 1, 0, 1, 0, 1, 0, 0]), [(0, AV.vec fl 2 (List.map G2.a gs)), (1, AV.vec fw 1 (List.map (AV.int IntKind.i64) w)), (5, AV.int IntKind.i64 s), (6, AV.row 0 v), (7, AV.int IntKind.i64 (-1)), (8, AV.int IntKind.i64 0), (9, AV.int IntKind.i64 0)], [{ elems := List.map (AV.int IntKind.i64) o, es := 1, ver := v, frozen := false, clean := true }], [v == v, (decide ((↑(List.map (AV.int IntKind.i64) o).length : Int) < (↑(List.map G2.a gs).length : Int))) == true], [], []⟩ (by kernel_rfl) (allB_cons (beq_self_eq_true _) (allB_cons (beq_t (i3.2 d4)) allB_nil)) allP_nil allC_nil (H)
  · have H := H.2 d4
    exact path_ret (G := given kp37 [] []) 1000 [false] (k := ((atC (cd Try.f37) [1, 1, 1, 1, 1])).tail) (env' := [(4, AV.int IntKind.i64 s)]) (L' := [{ elems := List.map (AV.int IntKind.i64) o, es := 1, ver := v, frozen := false, clean := true }]) (asm := [v == v, (decide ((↑(List.map (AV.int IntKind.i64) o).length : Int) < (↑(List.map G2.a gs).length : Int))) == false]) (eqs := []) (calls := []) (AV.int IntKind.i64 s) (by kernel_rfl) (by kernel_rfl) (allB_cons (beq_self_eq_true _) (allB_cons (beq_f (fun h => d4 (i3.1 h))) allB_nil)) allP_nil allC_nil (pq_of (d := AV.int IntKind.i64 s) (bs := []) (by kernel_rfl) (by kernel_rfl) allB_nil (by kernel_rfl) H)

theorem v37b (fl fw : Bool) (gs : List G2) (w : List Int) (s nx le i : Int) (o : List Int) (v : Nat) (dq : AV) (H :
    ((i < (↑o.length : Int)) → v37c_at (fl) (fw) (gs) (w) (s) (nx) (le) (i) (0) (o) (v) (PureQ dq)) ∧
    (¬(i < (↑o.length : Int)) → (-9223372036854775808 ≤ s + le ∧ s + le ≤ 9223372036854775807) ∧
      ((o.length + 1) * 8 ≤ 1099511627776) ∧
      v37a_at (fl) (fw) (gs) (w) (s + le) (o ++ [nx]) (v + 1) (PureQ dq))) :
  v37b_at fl fw gs w s nx le i o v (PureQ dq) := by
  unfold v37b_at
  have w1 : (List.map (AV.int IntKind.i64) o).length = o.length := List.length_map ..
  have i2 : (decide (i < (↑(List.map (AV.int IntKind.i64) o).length : Int))) = true ↔ (i < (↑o.length : Int)) := (by rw [w1] <;> exact i_dec)
  rcases Classical.em (i < (↑o.length : Int)) with d3 | d3
  · have H := H.1 d3
    exact path_wp (G := given kp37 [] []) 1000 [true] ⟨(atC (cd Try.f37) [1, 1, 1, 0, 0, 0, 1, 0, 1, 0, 1, 0, 0, 1, 0, 0, 1, 0, 0]), [(0, AV.vec fl 2 (List.map G2.a gs)), (1, AV.vec fw 1 (List.map (AV.int IntKind.i64) w)), (5, AV.int IntKind.i64 s), (6, AV.row 0 v), (7, AV.int IntKind.i64 nx), (8, AV.int IntKind.i64 le), (9, AV.int IntKind.i64 i), (10, AV.int IntKind.i64 0)], [{ elems := List.map (AV.int IntKind.i64) o, es := 1, ver := v, frozen := false, clean := true }], [v == v, (decide (i < (↑(List.map (AV.int IntKind.i64) o).length : Int))) == true], [], []⟩ (by kernel_rfl) (allB_cons (beq_self_eq_true _) (allB_cons (beq_t (i2.2 d3)) allB_nil)) allP_nil allC_nil (H)
  · have H := H.2 d3
    have k4 := H.1; have H := H.2
    have w5 : IntKind.i64.wrap (s + le) = s + le := wI64 k4
    have i6 : (decide (((List.map (AV.int IntKind.i64) o).length + 1) * 8 ≤ 1099511627776)) = true ↔ ((o.length + 1) * 8 ≤ 1099511627776) := (by rw [w1] <;> exact i_dec)
    have k7 := H.1; have H := H.2
    have w8 : List.map (AV.int IntKind.i64) o ++ [AV.int IntKind.i64 nx] = List.map (AV.int IntKind.i64) (o ++ [nx]) := (lm_app rfl rfl)
    exact path_wp (G := given kp37 [] []) 1000 [false] ⟨(atC (cd Try.f37) [1, 1, 1, 0, 0, 0]), [(0, AV.vec fl 2 (List.map G2.a gs)), (1, AV.vec fw 1 (List.map (AV.int IntKind.i64) w)), (5, AV.int IntKind.i64 (IntKind.i64.wrap (s + le))), (6, AV.row 0 (v + 1))], [{ elems := List.map (AV.int IntKind.i64) o ++ [AV.int IntKind.i64 nx], es := 1, ver := v + 1, frozen := false, clean := true }], [v == v, (decide (i < (↑(List.map (AV.int IntKind.i64) o).length : Int))) == false, v == v, decide (((List.map (AV.int IntKind.i64) o).length + 1) * 8 ≤ 1099511627776)], [], []⟩ (by kernel_rfl) (allB_cons (beq_self_eq_true _) (allB_cons (beq_f (fun h => d3 (i2.1 h))) (allB_cons (beq_self_eq_true _) (allB_cons (i6.2 k7) allB_nil)))) allP_nil allC_nil (by rw [w5, w8] <;> exact H)

theorem v37c (fl fw : Bool) (gs : List G2) (w : List Int) (s nx le i k : Int) (o : List Int) (v : Nat) (dq : AV) (H :
    ((k < (↑gs.length : Int)) → (Sp.inM (gs.getD (o.getD i.toNat default).toNat default).x ∧ Sp.inM (gs.getD (o.getD i.toNat default).toNat default).y ∧ Sp.inM (gs.getD k.toNat default).x ∧ Sp.inM (gs.getD k.toNat default).y) ∧
      (0 ≤ i) ∧
      (i.toNat < o.length) ∧
      (0 ≤ o.getD i.toNat default) ∧
      ((o.getD i.toNat default).toNat < gs.length) ∧
      (0 ≤ k) ∧
      (k.toNat < gs.length) ∧
      ((o.getD i.toNat default).toNat < w.length) ∧
      (k.toNat < w.length) ∧
      (-9223372036854775808 ≤ Sp.dist (gs.getD (o.getD i.toNat default).toNat default).x (gs.getD (o.getD i.toNat default).toNat default).y (gs.getD k.toNat default).x (gs.getD k.toNat default).y + w.getD (o.getD i.toNat default).toNat default ∧ Sp.dist (gs.getD (o.getD i.toNat default).toNat default).x (gs.getD (o.getD i.toNat default).toNat default).y (gs.getD k.toNat default).x (gs.getD k.toNat default).y + w.getD (o.getD i.toNat default).toNat default ≤ 9223372036854775807) ∧
      (-9223372036854775808 ≤ Sp.dist (gs.getD (o.getD i.toNat default).toNat default).x (gs.getD (o.getD i.toNat default).toNat default).y (gs.getD k.toNat default).x (gs.getD k.toNat default).y + w.getD (o.getD i.toNat default).toNat default + w.getD k.toNat default ∧ Sp.dist (gs.getD (o.getD i.toNat default).toNat default).x (gs.getD (o.getD i.toNat default).toNat default).y (gs.getD k.toNat default).x (gs.getD k.toNat default).y + w.getD (o.getD i.toNat default).toNat default + w.getD k.toNat default ≤ 9223372036854775807) ∧
      (o.length ≤ 1000000) ∧
      (((¬(Sp.has o k = true)) ∧ ((nx < 0) ∨ (Sp.dist (gs.getD (o.getD i.toNat default).toNat default).x (gs.getD (o.getD i.toNat default).toNat default).y (gs.getD k.toNat default).x (gs.getD k.toNat default).y + w.getD (o.getD i.toNat default).toNat default + w.getD k.toNat default < le))) → (-9223372036854775808 ≤ k + 1 ∧ k + 1 ≤ 9223372036854775807) ∧
        v37c_at (fl) (fw) (gs) (w) (s) (k) (Sp.dist (gs.getD (o.getD i.toNat default).toNat default).x (gs.getD (o.getD i.toNat default).toNat default).y (gs.getD k.toNat default).x (gs.getD k.toNat default).y + w.getD (o.getD i.toNat default).toNat default + w.getD k.toNat default) (i) (k + 1) (o) (v) (PureQ dq)) ∧
      (¬((¬(Sp.has o k = true)) ∧ ((nx < 0) ∨ (Sp.dist (gs.getD (o.getD i.toNat default).toNat default).x (gs.getD (o.getD i.toNat default).toNat default).y (gs.getD k.toNat default).x (gs.getD k.toNat default).y + w.getD (o.getD i.toNat default).toNat default + w.getD k.toNat default < le))) → (-9223372036854775808 ≤ k + 1 ∧ k + 1 ≤ 9223372036854775807) ∧
        v37c_at (fl) (fw) (gs) (w) (s) (nx) (le) (i) (k + 1) (o) (v) (PureQ dq))) ∧
    (¬(k < (↑gs.length : Int)) → (-9223372036854775808 ≤ i + 1 ∧ i + 1 ≤ 9223372036854775807) ∧
      v37b_at (fl) (fw) (gs) (w) (s) (nx) (le) (i + 1) (o) (v) (PureQ dq))) :
  v37c_at fl fw gs w s nx le i k o v (PureQ dq) := by
  unfold v37c_at
  have w1 : (List.map G2.a gs).length = gs.length := List.length_map ..
  have i2 : (decide (k < (↑(List.map G2.a gs).length : Int))) = true ↔ (k < (↑gs.length : Int)) := (by rw [w1] <;> exact i_dec)
  rcases Classical.em (k < (↑gs.length : Int)) with d3 | d3
  · have H := H.1 d3
    have k4 := H.1; have H := H.2
    have i5 : (decide (0 ≤ i)) = true ↔ (0 ≤ i) := i_dec
    have k6 := H.1; have H := H.2
    have w7 : (List.map (AV.int IntKind.i64) o).length = o.length := List.length_map ..
    have i8 : (decide (i.toNat < (List.map (AV.int IntKind.i64) o).length)) = true ↔ (i.toNat < o.length) := (by rw [w7] <;> exact i_dec)
    have k9 := H.1; have H := H.2
    have i10 : (decide (0 ≤ o.getD i.toNat default)) = true ↔ (0 ≤ o.getD i.toNat default) := i_dec
    have k11 := H.1; have H := H.2
    have i12 : (decide ((o.getD i.toNat default).toNat < (List.map G2.a gs).length)) = true ↔ ((o.getD i.toNat default).toNat < gs.length) := (by rw [w1] <;> exact i_dec)
    have k13 := H.1; have H := H.2
    have i14 : (decide (0 ≤ k)) = true ↔ (0 ≤ k) := i_dec
    have k15 := H.1; have H := H.2
    have i16 : (decide (k.toNat < (List.map G2.a gs).length)) = true ↔ (k.toNat < gs.length) := (by rw [w1] <;> exact i_dec)
    have k17 := H.1; have H := H.2
    have i18 : (decide (0 ≤ i)) = true ↔ (0 ≤ i) := i_dec
    have i19 : (decide (i.toNat < (List.map (AV.int IntKind.i64) o).length)) = true ↔ (i.toNat < o.length) := (by rw [w7] <;> exact i_dec)
    have i20 : (decide (0 ≤ o.getD i.toNat default)) = true ↔ (0 ≤ o.getD i.toNat default) := i_dec
    have w21 : (List.map (AV.int IntKind.i64) w).length = w.length := List.length_map ..
    have i22 : (decide ((o.getD i.toNat default).toNat < (List.map (AV.int IntKind.i64) w).length)) = true ↔ ((o.getD i.toNat default).toNat < w.length) := (by rw [w21] <;> exact i_dec)
    have k23 := H.1; have H := H.2
    have i24 : (decide (0 ≤ k)) = true ↔ (0 ≤ k) := i_dec
    have i25 : (decide (k.toNat < (List.map (AV.int IntKind.i64) w).length)) = true ↔ (k.toNat < w.length) := (by rw [w21] <;> exact i_dec)
    have k26 := H.1; have H := H.2
    have k27 := H.1; have H := H.2
    have w28 : IntKind.i64.wrap (Sp.dist (gs.getD (o.getD i.toNat default).toNat default).x (gs.getD (o.getD i.toNat default).toNat default).y (gs.getD k.toNat default).x (gs.getD k.toNat default).y + w.getD (o.getD i.toNat default).toNat default) = Sp.dist (gs.getD (o.getD i.toNat default).toNat default).x (gs.getD (o.getD i.toNat default).toNat default).y (gs.getD k.toNat default).x (gs.getD k.toNat default).y + w.getD (o.getD i.toNat default).toNat default := wI64 k27
    have k29 := H.1; have H := H.2
    have w30 : IntKind.i64.wrap (Sp.dist (gs.getD (o.getD i.toNat default).toNat default).x (gs.getD (o.getD i.toNat default).toNat default).y (gs.getD k.toNat default).x (gs.getD k.toNat default).y + w.getD (o.getD i.toNat default).toNat default + w.getD k.toNat default) = Sp.dist (gs.getD (o.getD i.toNat default).toNat default).x (gs.getD (o.getD i.toNat default).toNat default).y (gs.getD k.toNat default).x (gs.getD k.toNat default).y + w.getD (o.getD i.toNat default).toNat default + w.getD k.toNat default := wI64 k29
    have k31 := H.1; have H := H.2
    have i32 : (bif !Sp.has o k then bif decide (nx < 0) then true else decide (IntKind.i64.wrap (IntKind.i64.wrap (Sp.dist (gs.getD (o.getD i.toNat default).toNat default).x (gs.getD (o.getD i.toNat default).toNat default).y (gs.getD k.toNat default).x (gs.getD k.toNat default).y + w.getD (o.getD i.toNat default).toNat default) + w.getD k.toNat default) < le) else false) = true ↔ ((¬(Sp.has o k = true)) ∧ ((nx < 0) ∨ (Sp.dist (gs.getD (o.getD i.toNat default).toNat default).x (gs.getD (o.getD i.toNat default).toNat default).y (gs.getD k.toNat default).x (gs.getD k.toNat default).y + w.getD (o.getD i.toNat default).toNat default + w.getD k.toNat default < le))) := (by rw [w28, w30] <;> exact (i_band (i_not (i_var _)) (i_bor i_dec i_dec)))
    rcases Classical.em ((¬(Sp.has o k = true)) ∧ ((nx < 0) ∨ (Sp.dist (gs.getD (o.getD i.toNat default).toNat default).x (gs.getD (o.getD i.toNat default).toNat default).y (gs.getD k.toNat default).x (gs.getD k.toNat default).y + w.getD (o.getD i.toNat default).toNat default + w.getD k.toNat default < le))) with d33 | d33
    · have H := H.1 d33
      have k34 := H.1; have H := H.2
      have w35 : IntKind.i64.wrap (k + 1) = k + 1 := wI64 k34
      exact path_wp (G := given kp37 [(11, 4, .elem (AV.int IntKind.i64 (o.getD i.toNat default))), (11, 6, .elem (AV.agg [AV.int IntKind.i64 (gs.getD (o.getD i.toNat default).toNat default).x, AV.int IntKind.i64 (gs.getD (o.getD i.toNat default).toNat default).y])), (11, 10, .elem (AV.agg [AV.int IntKind.i64 (gs.getD k.toNat default).x, AV.int IntKind.i64 (gs.getD k.toNat default).y])), (11, 11, .call (AV.int IntKind.i64 (Sp.dist (gs.getD (o.getD i.toNat default).toNat default).x (gs.getD (o.getD i.toNat default).toNat default).y (gs.getD k.toNat default).x (gs.getD k.toNat default).y)) none), (11, 16, .elem (AV.int IntKind.i64 (o.getD i.toNat default))), (11, 18, .elem (AV.int IntKind.i64 (w.getD (o.getD i.toNat default).toNat default))), (11, 23, .elem (AV.int IntKind.i64 (w.getD k.toNat default))), (12, 2, .call (AV.bool (Sp.has o k)) none)] []) 1000 [true, true] ⟨(atC (cd Try.f37) [1, 1, 1, 0, 0, 0, 1, 0, 1, 0, 1, 0, 0, 1, 0, 0, 1, 0, 0]), [(0, AV.vec fl 2 (List.map G2.a gs)), (1, AV.vec fw 1 (List.map (AV.int IntKind.i64) w)), (5, AV.int IntKind.i64 s), (6, AV.row 0 v), (7, AV.int IntKind.i64 k), (8, AV.int IntKind.i64 (IntKind.i64.wrap (IntKind.i64.wrap (Sp.dist (gs.getD (o.getD i.toNat default).toNat default).x (gs.getD (o.getD i.toNat default).toNat default).y (gs.getD k.toNat default).x (gs.getD k.toNat default).y + w.getD (o.getD i.toNat default).toNat default) + w.getD k.toNat default))), (9, AV.int IntKind.i64 i), (10, AV.int IntKind.i64 (IntKind.i64.wrap (k + 1)))], [{ elems := List.map (AV.int IntKind.i64) o, es := 1, ver := v, frozen := false, clean := true }], [(decide (k < (↑(List.map G2.a gs).length : Int))) == true, v == v, decide (0 ≤ i), decide (i.toNat < (List.map (AV.int IntKind.i64) o).length), v == v, decide (0 ≤ o.getD i.toNat default), decide ((o.getD i.toNat default).toNat < (List.map G2.a gs).length), decide (0 ≤ k), decide (k.toNat < (List.map G2.a gs).length), v == v, decide (0 ≤ i), decide (i.toNat < (List.map (AV.int IntKind.i64) o).length), v == v, decide (0 ≤ o.getD i.toNat default), decide ((o.getD i.toNat default).toNat < (List.map (AV.int IntKind.i64) w).length), decide (0 ≤ k), decide (k.toNat < (List.map (AV.int IntKind.i64) w).length), v == v, (bif !Sp.has o k then bif decide (nx < 0) then true else decide (IntKind.i64.wrap (IntKind.i64.wrap (Sp.dist (gs.getD (o.getD i.toNat default).toNat default).x (gs.getD (o.getD i.toNat default).toNat default).y (gs.getD k.toNat default).x (gs.getD k.toNat default).y + w.getD (o.getD i.toNat default).toNat default) + w.getD k.toNat default) < le) else false) == true], [((List.map (AV.int IntKind.i64) o).get?Internal i.toNat = some (AV.int IntKind.i64 (o.getD i.toNat default))), ((List.map G2.a gs).get?Internal (o.getD i.toNat default).toNat = some (AV.agg [AV.int IntKind.i64 (gs.getD (o.getD i.toNat default).toNat default).x, AV.int IntKind.i64 (gs.getD (o.getD i.toNat default).toNat default).y])), ((List.map G2.a gs).get?Internal k.toNat = some (AV.agg [AV.int IntKind.i64 (gs.getD k.toNat default).x, AV.int IntKind.i64 (gs.getD k.toNat default).y])), ((List.map (AV.int IntKind.i64) o).get?Internal i.toNat = some (AV.int IntKind.i64 (o.getD i.toNat default))), ((List.map (AV.int IntKind.i64) w).get?Internal (o.getD i.toNat default).toNat = some (AV.int IntKind.i64 (w.getD (o.getD i.toNat default).toNat default))), ((List.map (AV.int IntKind.i64) w).get?Internal k.toNat = some (AV.int IntKind.i64 (w.getD k.toNat default)))], [⟨true, false, 16, [AV.agg [AV.int IntKind.i64 (gs.getD (o.getD i.toNat default).toNat default).x, AV.int IntKind.i64 (gs.getD (o.getD i.toNat default).toNat default).y], AV.agg [AV.int IntKind.i64 (gs.getD k.toNat default).x, AV.int IntKind.i64 (gs.getD k.toNat default).y]], [], AV.int IntKind.i64 (Sp.dist (gs.getD (o.getD i.toNat default).toNat default).x (gs.getD (o.getD i.toNat default).toNat default).y (gs.getD k.toNat default).x (gs.getD k.toNat default).y), []⟩, ⟨true, false, 35, [AV.vec false 1 (List.map (AV.int IntKind.i64) o), AV.int IntKind.i64 k], [], AV.bool (Sp.has o k), []⟩]⟩ (by kernel_rfl) (allB_cons (beq_t (i2.2 d3)) (allB_cons (beq_self_eq_true _) (allB_cons (i5.2 k6) (allB_cons (i8.2 k9) (allB_cons (beq_self_eq_true _) (allB_cons (i10.2 k11) (allB_cons (i12.2 k13) (allB_cons (i14.2 k15) (allB_cons (i16.2 k17) (allB_cons (beq_self_eq_true _) (allB_cons (i18.2 k6) (allB_cons (i19.2 k9) (allB_cons (beq_self_eq_true _) (allB_cons (i20.2 k11) (allB_cons (i22.2 k23) (allB_cons (i24.2 k15) (allB_cons (i25.2 k26) (allB_cons (beq_self_eq_true _) (allB_cons (beq_t (i32.2 d33)) allB_nil))))))))))))))))))) (allP_cons (el_map k9) (allP_cons (el_map k13) (allP_cons (el_map k17) (allP_cons (el_map k9) (allP_cons (el_map k23) (allP_cons (el_map k26) allP_nil)))))) (allC_cons (fun _ => ((@ev16 ((gs.getD (o.getD i.toNat default).toNat default).x) ((gs.getD (o.getD i.toNat default).toNat default).y) ((gs.getD k.toNat default).x) ((gs.getD k.toNat default).y) k4) : Ev M1 (Conf.pure 16 [AV.agg [AV.int IntKind.i64 (gs.getD (o.getD i.toNat default).toNat default).x, AV.int IntKind.i64 (gs.getD (o.getD i.toNat default).toNat default).y], AV.agg [AV.int IntKind.i64 (gs.getD k.toNat default).x, AV.int IntKind.i64 (gs.getD k.toNat default).y]]) (AV.int IntKind.i64 (Sp.dist (gs.getD (o.getD i.toNat default).toNat default).x (gs.getD (o.getD i.toNat default).toNat default).y (gs.getD k.toNat default).x (gs.getD k.toNat default).y)) [])) (allC_cons (fun _ => ((@ev35 (false) (o) (k) k31) : Ev M1 (Conf.pure 35 [AV.vec false 1 (List.map (AV.int IntKind.i64) o), AV.int IntKind.i64 k]) (AV.bool (Sp.has o k)) [])) allC_nil)) (by rw [w28, w30, w35] <;> exact H)
    · have H := H.2 d33
      have k36 := H.1; have H := H.2
      have w37 : IntKind.i64.wrap (k + 1) = k + 1 := wI64 k36
      exact path_wp (G := given kp37 [(11, 4, .elem (AV.int IntKind.i64 (o.getD i.toNat default))), (11, 6, .elem (AV.agg [AV.int IntKind.i64 (gs.getD (o.getD i.toNat default).toNat default).x, AV.int IntKind.i64 (gs.getD (o.getD i.toNat default).toNat default).y])), (11, 10, .elem (AV.agg [AV.int IntKind.i64 (gs.getD k.toNat default).x, AV.int IntKind.i64 (gs.getD k.toNat default).y])), (11, 11, .call (AV.int IntKind.i64 (Sp.dist (gs.getD (o.getD i.toNat default).toNat default).x (gs.getD (o.getD i.toNat default).toNat default).y (gs.getD k.toNat default).x (gs.getD k.toNat default).y)) none), (11, 16, .elem (AV.int IntKind.i64 (o.getD i.toNat default))), (11, 18, .elem (AV.int IntKind.i64 (w.getD (o.getD i.toNat default).toNat default))), (11, 23, .elem (AV.int IntKind.i64 (w.getD k.toNat default))), (12, 2, .call (AV.bool (Sp.has o k)) none)] []) 1000 [true, false] ⟨(atC (cd Try.f37) [1, 1, 1, 0, 0, 0, 1, 0, 1, 0, 1, 0, 0, 1, 0, 0, 1, 0, 0]), [(0, AV.vec fl 2 (List.map G2.a gs)), (1, AV.vec fw 1 (List.map (AV.int IntKind.i64) w)), (5, AV.int IntKind.i64 s), (6, AV.row 0 v), (7, AV.int IntKind.i64 nx), (8, AV.int IntKind.i64 le), (9, AV.int IntKind.i64 i), (10, AV.int IntKind.i64 (IntKind.i64.wrap (k + 1)))], [{ elems := List.map (AV.int IntKind.i64) o, es := 1, ver := v, frozen := false, clean := true }], [(decide (k < (↑(List.map G2.a gs).length : Int))) == true, v == v, decide (0 ≤ i), decide (i.toNat < (List.map (AV.int IntKind.i64) o).length), v == v, decide (0 ≤ o.getD i.toNat default), decide ((o.getD i.toNat default).toNat < (List.map G2.a gs).length), decide (0 ≤ k), decide (k.toNat < (List.map G2.a gs).length), v == v, decide (0 ≤ i), decide (i.toNat < (List.map (AV.int IntKind.i64) o).length), v == v, decide (0 ≤ o.getD i.toNat default), decide ((o.getD i.toNat default).toNat < (List.map (AV.int IntKind.i64) w).length), decide (0 ≤ k), decide (k.toNat < (List.map (AV.int IntKind.i64) w).length), v == v, (bif !Sp.has o k then bif decide (nx < 0) then true else decide (IntKind.i64.wrap (IntKind.i64.wrap (Sp.dist (gs.getD (o.getD i.toNat default).toNat default).x (gs.getD (o.getD i.toNat default).toNat default).y (gs.getD k.toNat default).x (gs.getD k.toNat default).y + w.getD (o.getD i.toNat default).toNat default) + w.getD k.toNat default) < le) else false) == false], [((List.map (AV.int IntKind.i64) o).get?Internal i.toNat = some (AV.int IntKind.i64 (o.getD i.toNat default))), ((List.map G2.a gs).get?Internal (o.getD i.toNat default).toNat = some (AV.agg [AV.int IntKind.i64 (gs.getD (o.getD i.toNat default).toNat default).x, AV.int IntKind.i64 (gs.getD (o.getD i.toNat default).toNat default).y])), ((List.map G2.a gs).get?Internal k.toNat = some (AV.agg [AV.int IntKind.i64 (gs.getD k.toNat default).x, AV.int IntKind.i64 (gs.getD k.toNat default).y])), ((List.map (AV.int IntKind.i64) o).get?Internal i.toNat = some (AV.int IntKind.i64 (o.getD i.toNat default))), ((List.map (AV.int IntKind.i64) w).get?Internal (o.getD i.toNat default).toNat = some (AV.int IntKind.i64 (w.getD (o.getD i.toNat default).toNat default))), ((List.map (AV.int IntKind.i64) w).get?Internal k.toNat = some (AV.int IntKind.i64 (w.getD k.toNat default)))], [⟨true, false, 16, [AV.agg [AV.int IntKind.i64 (gs.getD (o.getD i.toNat default).toNat default).x, AV.int IntKind.i64 (gs.getD (o.getD i.toNat default).toNat default).y], AV.agg [AV.int IntKind.i64 (gs.getD k.toNat default).x, AV.int IntKind.i64 (gs.getD k.toNat default).y]], [], AV.int IntKind.i64 (Sp.dist (gs.getD (o.getD i.toNat default).toNat default).x (gs.getD (o.getD i.toNat default).toNat default).y (gs.getD k.toNat default).x (gs.getD k.toNat default).y), []⟩, ⟨true, false, 35, [AV.vec false 1 (List.map (AV.int IntKind.i64) o), AV.int IntKind.i64 k], [], AV.bool (Sp.has o k), []⟩]⟩ (by kernel_rfl) (allB_cons (beq_t (i2.2 d3)) (allB_cons (beq_self_eq_true _) (allB_cons (i5.2 k6) (allB_cons (i8.2 k9) (allB_cons (beq_self_eq_true _) (allB_cons (i10.2 k11) (allB_cons (i12.2 k13) (allB_cons (i14.2 k15) (allB_cons (i16.2 k17) (allB_cons (beq_self_eq_true _) (allB_cons (i18.2 k6) (allB_cons (i19.2 k9) (allB_cons (beq_self_eq_true _) (allB_cons (i20.2 k11) (allB_cons (i22.2 k23) (allB_cons (i24.2 k15) (allB_cons (i25.2 k26) (allB_cons (beq_self_eq_true _) (allB_cons (beq_f (fun h => d33 (i32.1 h))) allB_nil))))))))))))))))))) (allP_cons (el_map k9) (allP_cons (el_map k13) (allP_cons (el_map k17) (allP_cons (el_map k9) (allP_cons (el_map k23) (allP_cons (el_map k26) allP_nil)))))) (allC_cons (fun _ => ((@ev16 ((gs.getD (o.getD i.toNat default).toNat default).x) ((gs.getD (o.getD i.toNat default).toNat default).y) ((gs.getD k.toNat default).x) ((gs.getD k.toNat default).y) k4) : Ev M1 (Conf.pure 16 [AV.agg [AV.int IntKind.i64 (gs.getD (o.getD i.toNat default).toNat default).x, AV.int IntKind.i64 (gs.getD (o.getD i.toNat default).toNat default).y], AV.agg [AV.int IntKind.i64 (gs.getD k.toNat default).x, AV.int IntKind.i64 (gs.getD k.toNat default).y]]) (AV.int IntKind.i64 (Sp.dist (gs.getD (o.getD i.toNat default).toNat default).x (gs.getD (o.getD i.toNat default).toNat default).y (gs.getD k.toNat default).x (gs.getD k.toNat default).y)) [])) (allC_cons (fun _ => ((@ev35 (false) (o) (k) k31) : Ev M1 (Conf.pure 35 [AV.vec false 1 (List.map (AV.int IntKind.i64) o), AV.int IntKind.i64 k]) (AV.bool (Sp.has o k)) [])) allC_nil)) (by rw [w37] <;> exact H)
  · have H := H.2 d3
    have k38 := H.1; have H := H.2
    have w39 : IntKind.i64.wrap (i + 1) = i + 1 := wI64 k38
    exact path_wp (G := given kp37 [] []) 1000 [false] ⟨(atC (cd Try.f37) [1, 1, 1, 0, 0, 0, 1, 0, 1, 0, 1, 0, 0]), [(0, AV.vec fl 2 (List.map G2.a gs)), (1, AV.vec fw 1 (List.map (AV.int IntKind.i64) w)), (5, AV.int IntKind.i64 s), (6, AV.row 0 v), (7, AV.int IntKind.i64 nx), (8, AV.int IntKind.i64 le), (9, AV.int IntKind.i64 (IntKind.i64.wrap (i + 1)))], [{ elems := List.map (AV.int IntKind.i64) o, es := 1, ver := v, frozen := false, clean := true }], [(decide (k < (↑(List.map G2.a gs).length : Int))) == false], [], []⟩ (by kernel_rfl) (allB_cons (beq_f (fun h => d3 (i2.1 h))) allB_nil) allP_nil allC_nil (by rw [w39] <;> exact H)


end Go.Av

/- WHAT tree OF THE REFERENCE ANSWERS: the cost of a least spanning tree. -/
namespace Go.Av
open Go.Proofs

namespace Sp
/-- The cost of a pair. -/
def cw (gs : List G2) (w : List Int) (i j : Int) : Int := dAt gs i j + w.getD i.toNat default + w.getD j.toNat default
noncomputable def rest (gs : List G2) (w : List Int) (S : List Int) : Int := Mst.rem (cw gs w) gs.length S
/-- The cost of a least spanning tree with weights. -/
noncomputable def mst (gs : List G2) (w : List Int) : Int := if gs.length = 0 then 0 else rest gs w [0]
def okW (w : List Int) : Prop := ∀ x ∈ w, -20000000 ≤ x ∧ x ≤ 20000000
end Sp

theorem dAt_symm (gs : List G2) (i j : Int) : Sp.dAt gs i j = Sp.dAt gs j i := by
  unfold Sp.dAt Sp.dist Sp.gap
  (repeat' split) <;> omega
theorem cw_symm (gs : List G2) (w : List Int) (i j : Int) : Sp.cw gs w i j = Sp.cw gs w j i := by
  unfold Sp.cw
  rw [dAt_symm]; omega
theorem okW_at {w : List Int} (h : Sp.okW w) (k : Nat) : -20000000 ≤ w.getD k default ∧ w.getD k default ≤ 20000000 := by
  by_cases hk : k < w.length
  · exact h _ (getD_mem hk)
  · have : w.getD k default = 0 := by simp [List.getD_eq_getElem?_getD, List.getElem?_eq_none (by omega : w.length ≤ k)]
    omega
theorem cw_le {gs : List G2} {w : List Int} (hg : Sp.okG gs) (hw : Sp.okW w) (i j : Int) : -40000000 ≤ Sp.cw gs w i j ∧ Sp.cw gs w i j ≤ 60000000 := by
  have h1 := dAt_le hg i j
  have h2 := okW_at hw i.toNat
  have h3 := okW_at hw j.toNat
  unfold Sp.cw
  omega

/-- The cheapest pair among those seen. -/
def Pick (gs : List G2) (w o : List Int) (nx le : Int) (seen : Nat → Int → Prop) : Prop :=
  (nx = -1 ∧ le = 0 ∧ ∀ (x : Nat) (y : Int), x < o.length → (0 ≤ y ∧ y < gs.length) → seen x y → y ∈ o) ∨
  ((0 ≤ nx ∧ nx < gs.length ∧ nx ∉ o) ∧ (∃ a ∈ o, le = Sp.cw gs w a nx) ∧ ∀ (x : Nat) (y : Int), x < o.length → (0 ≤ y ∧ y < gs.length) → y ∉ o → seen x y → le ≤ Sp.cw gs w (o.getD x default) y)

theorem Pick.more {gs : List G2} {w o : List Int} {nx le : Int} {s s' : Nat → Int → Prop} (h : Pick gs w o nx le s) (hs : ∀ (x : Nat) (y : Int), x < o.length → (0 ≤ y ∧ y < gs.length) → s' x y → s x y) : Pick gs w o nx le s' := by
  rcases h with ⟨h1, h2, h3⟩ | ⟨h1, h2, h3⟩
  · exact .inl ⟨h1, h2, fun x y hx hy hxy => h3 x y hx hy (hs x y hx hy hxy)⟩
  · exact .inr ⟨h1, h2, fun x y hx hy ho hxy => h3 x y hx hy ho (hs x y hx hy hxy)⟩

theorem loop37c {fl fw : Bool} {gs : List G2} {w o : List Int} {s : Int} {v i : Nat} {dq : AV} (hg : Sp.okG gs) (hl : gs.length ≤ 1000) (hw : Sp.okW w) (hwl : w.length = gs.length) (ho : o.length ≤ 1000) (hr : ∀ x ∈ o, 0 ≤ x ∧ x < gs.length) (hi : i < o.length)
    (cont : ∀ nx le, Pick gs w o nx le (fun x _ => x < i + 1) → v37b_at fl fw gs w s nx le (i + 1 : Nat) o v (PureQ dq)) :
    ∀ (k y : Nat) (nx le : Int), y + k = gs.length → Pick gs w o nx le (fun x z => x < i ∨ (x = i ∧ z < y)) → v37c_at fl fw gs w s nx le i y o v (PureQ dq) := by
  have hri := hr _ (getD_mem hi)
  intro k
  induction k with
  | zero =>
    intro y nx le hy hp
    refine v37c _ _ _ _ _ _ _ _ _ _ _ _ ⟨fun h => by omega, fun _ => ⟨by omega, ?_⟩⟩
    exact cont nx le (hp.more fun x z hx hz h => by omega)
  | succ k ih =>
    intro y nx le hy hp
    refine v37c _ _ _ _ _ _ _ _ _ _ _ _ ⟨fun _ => ?_, fun h => by omega⟩
    rw [Int.toNat_natCast, Int.toNat_natCast]
    have e : ∀ z, z = o.getD i default → Sp.dist (gs.getD z.toNat default).x (gs.getD z.toNat default).y (gs.getD y default).x (gs.getD y default).y + w.getD z.toNat default + w.getD y default = Sp.cw gs w z y := fun z _ => rfl
    have e2 : ∀ z, z = o.getD i default → Sp.dist (gs.getD z.toNat default).x (gs.getD z.toNat default).y (gs.getD y default).x (gs.getD y default).y = Sp.dAt gs z y := fun z _ => rfl
    rw [e _ rfl, e2 _ rfl]
    have hc := cw_le hg hw (o.getD i default) y
    have hd := dAt_le hg (o.getD i default) y
    have hw1 := okW_at hw (o.getD i default).toNat
    refine ⟨⟨(okG_at hg _).1, (okG_at hg _).2, (okG_at hg _).1, (okG_at hg _).2⟩, by omega, by omega, hri.1, by omega, by omega, by omega, by omega, by omega, by omega, by omega, by omega, fun h => ⟨by omega, ?_⟩, fun h => ⟨by omega, ?_⟩⟩
    · refine ih (y + 1) y _ (by omega) (.inr ⟨⟨by omega, by omega, fun hm => h.1 (has_iff.2 hm)⟩, ⟨_, getD_mem hi, rfl⟩, ?_⟩)
      intro x z hx hz hzo hs
      by_cases hxz : x = i ∧ z = y
      · obtain ⟨rfl, rfl⟩ := hxz; exact Int.le_refl _
      · have hs' : x < i ∨ (x = i ∧ z < y) := by omega
        rcases hp with ⟨h1, h2, h3⟩ | ⟨h1, h2, h3⟩
        · exact absurd (h3 x z hx hz hs') hzo
        · have := h3 x z hx hz hzo hs'
          omega
    · refine ih (y + 1) nx le (by omega) ?_
      rcases hp with ⟨h1, h2, h3⟩ | ⟨h1, h2, h3⟩
      · refine .inl ⟨h1, h2, fun x z hx hz hs => ?_⟩
        by_cases hxz : x = i ∧ z = y
        · obtain ⟨rfl, rfl⟩ := hxz
          by_cases hm : (y : Int) ∈ o
          · exact hm
          · exact absurd ⟨fun k => hm (has_iff.1 k), .inl (by omega)⟩ h
        · exact h3 x z hx hz (by omega)
      · refine .inr ⟨h1, h2, fun x z hx hz hzo hs => ?_⟩
        by_cases hxz : x = i ∧ z = y
        · obtain ⟨rfl, rfl⟩ := hxz
          by_cases hlt : Sp.cw gs w (o.getD x default) y < le
          · exact absurd ⟨fun k => hzo (has_iff.1 k), .inr hlt⟩ h
          · omega
        · exact h3 x z hx hz hzo (by omega)

theorem loop37b {fl fw : Bool} {gs : List G2} {w o : List Int} {s : Int} {v : Nat} {dq : AV} (hg : Sp.okG gs) (hl : gs.length ≤ 1000) (hw : Sp.okW w) (hwl : w.length = gs.length) (ho : o.length ≤ 1000) (hr : ∀ x ∈ o, 0 ≤ x ∧ x < gs.length) (hs : -1000000000000 ≤ s ∧ s ≤ 1000000000000)
    (cont : ∀ nx le, Pick gs w o nx le (fun _ _ => True) → v37a_at fl fw gs w (s + le) (o ++ [nx]) (v + 1) (PureQ dq)) :
    ∀ (k i : Nat) (nx le : Int), i + k = o.length → Pick gs w o nx le (fun x _ => x < i) → (-40000000 ≤ le ∧ le ≤ 60000000) → v37b_at fl fw gs w s nx le i o v (PureQ dq) := by
  intro k
  induction k with
  | zero =>
    intro i nx le hi hp hle
    exact v37b _ _ _ _ _ _ _ _ _ _ _ ⟨fun h => by omega, fun _ => ⟨by omega, by omega, cont nx le (hp.more fun x y hx hy _ => by omega)⟩⟩
  | succ k ih =>
    intro i nx le hi hp hle
    refine v37b _ _ _ _ _ _ _ _ _ _ _ ⟨fun _ => ?_, fun h => by omega⟩
    refine loop37c hg hl hw hwl ho hr (by omega) (fun nx le hp => ih (i + 1) nx le (by omega) hp ?_) gs.length 0 nx le (by omega) (hp.more fun x y hx hy h => by omega)
    rcases hp with ⟨h1, h2, h3⟩ | ⟨h1, ⟨a, h2, h4⟩, h3⟩
    · omega
    · have := cw_le hg hw a nx; omega

theorem mem_getD {o : List Int} {x : Int} (h : x ∈ o) : ∃ i, i < o.length ∧ o.getD i default = x := by
  obtain ⟨i, hi, rfl⟩ := List.getElem_of_mem h
  exact ⟨i, hi, by simp [hi]⟩

theorem loop37 {fl fw : Bool} {gs : List G2} {w : List Int} {dq : AV} (hg : Sp.okG gs) (hl : gs.length ≤ 1000) (hw : Sp.okW w) (hwl : w.length = gs.length) :
    ∀ (k : Nat) (o : List Int) (s : Int) (v : Nat), o.length + k = gs.length → o.Nodup → (∀ x ∈ o, 0 ≤ x ∧ x < gs.length) → o ≠ [] → (-60000000 * (1000 - k) ≤ s ∧ s ≤ 60000000 * (1000 - k)) → AV.int .i64 (s + Sp.rest gs w o) = dq → v37a_at fl fw gs w s o v (PureQ dq) := by
  intro k
  induction k with
  | zero =>
    intro o s v hk hd hr h0 hs hq
    have : Sp.rest gs w o = 0 := Mst.rem_full (cw_symm gs w) hd hr h0 (by omega)
    rw [this, Int.add_zero] at hq
    exact v37a _ _ _ _ _ _ _ _ ⟨fun h => by omega, fun _ => hq⟩
  | succ k ih =>
    intro o s v hk hd hr h0 hs hq
    refine v37a _ _ _ _ _ _ _ _ ⟨fun _ => ?_, fun h => by omega⟩
    refine loop37b hg hl hw hwl (by omega) hr (by omega) ?_ o.length 0 (-1) 0 (by omega) (.inl ⟨rfl, rfl, fun x y hx hy h => by omega⟩) (by omega)
    intro nx le hp
    rcases hp with ⟨h1, h2, h3⟩ | ⟨h1, ⟨a, h2, h4⟩, h3⟩
    · have hp : 0 < o.length := List.length_pos_iff.2 h0
      have := il_ge gs.length o (fun j hj => h3 0 j hp (by omega) trivial)
      omega
    · have hc := cw_le hg hw a nx
      have e : Sp.rest gs w o = le + Sp.rest gs w (o ++ [nx]) := Mst.rem_step (cw_symm gs w) hd hr h2 h1.2.2 ⟨h1.1, h1.2.1⟩ h4 (fun x hx y hy hyo => by
        obtain ⟨i, hi, rfl⟩ := mem_getD hx
        exact h3 i y hi hy hyo trivial)
      exact ih (o ++ [nx]) (s + le) (v + 1) (by simp; omega) (Mst.nodup_snoc hd h1.2.2) (Mst.rng_snoc hr ⟨h1.1, h1.2.1⟩) (by simp) (by omega) (by rw [← hq, e, Int.add_assoc])

theorem ev37 (fl fw : Bool) (gs : List G2) (w : List Int) (h : Sp.okG gs ∧ gs.length ≤ 1000 ∧ Sp.okW w ∧ w.length = gs.length) : Ev M1 (.pure 37 [gsA fl gs, isA fw w]) (.int .i64 (Sp.mst gs w)) [] := by
  obtain ⟨hg, hl, hw, hwl⟩ := h
  refine call37 (v37 fl fw gs w _ ?_)
  unfold Sp.mst
  by_cases h0 : gs.length = 0
  · rw [if_pos h0]
    exact v37a _ _ _ _ _ _ _ _ ⟨fun h => by simp at h; omega, fun _ => rfl⟩
  · rw [if_neg h0]
    exact loop37 hg hl hw hwl (gs.length - 1) [0] 0 0 (by simp; omega) (by simp) (by simp; omega) (by simp) (by omega) (by rw [Int.zero_add])
end Go.Av

/- WHAT span ANSWERS: the cost of a least spanning tree, and how many pairs each position has. -/
namespace Go.Av
open Go.Proofs

namespace Sp
def pickC (dn : List Bool) (co : List Int) : Nat → Nat → Int → Int
  | 0, _, nx => nx
  | k + 1, j, nx => pickC dn co k (j + 1) (if ¬dn.getD j default = true ∧ (nx < 0 ∨ co.getD j default < co.getD nx.toNat default) then j else nx)
def updC (gs : List G2) (w : List Int) (dn : List Bool) (nx : Int) : Nat → Nat → List Int → List Int → List Int × List Int
  | 0, _, co, fr => (co, fr)
  | k + 1, j, co, fr => if ¬dn.getD j default = true ∧ cw gs w nx j < co.getD j default then updC gs w dn nx k (j + 1) (co.set j (cw gs w nx j)) (fr.set j nx) else updC gs w dn nx k (j + 1) co fr
def psUp (ps fr : List Int) (nx : Int) : List Int :=
  (ps.set nx.toNat (ps.getD nx.toNat default + 1)).set (fr.getD nx.toNat default).toNat ((ps.set nx.toNat (ps.getD nx.toNat default + 1)).getD (fr.getD nx.toNat default).toNat default + 1)
def spanP (gs : List G2) (w : List Int) : Nat → List Int → List Int → List Int → List Bool → List Int
  | 0, ps, _, _, _ => ps
  | k + 1, ps, co, fr, dn =>
    spanP gs w k (psUp ps fr (pickC dn co gs.length 0 (-1))) (updC gs w (dn.set (pickC dn co gs.length 0 (-1)).toNat true) (pickC dn co gs.length 0 (-1)) gs.length 0 co fr).1
      (updC gs w (dn.set (pickC dn co gs.length 0 (-1)).toNat true) (pickC dn co gs.length 0 (-1)) gs.length 0 co fr).2 (dn.set (pickC dn co gs.length 0 (-1)).toNat true)
/-- The costs of the pairs with the first position. -/
def cost0 (gs : List G2) (w : List Int) : Nat → Nat → List Int → List Int
  | 0, _, co => co
  | k + 1, j, co => cost0 gs w k (j + 1) (co.set j (cw gs w 0 j))
def zeros (n : Nat) : List Int := List.replicate n 0
/-- How many pairs each position has. -/
def spanPairs (gs : List G2) (w : List Int) : List Int :=
  if gs.length = 0 then [] else spanP gs w (gs.length - 1) (zeros gs.length) (cost0 gs w gs.length 0 (zeros gs.length)) (zeros gs.length) ((List.replicate gs.length false).set 0 true)
end Sp

theorem getD_set {α : Type} [Inhabited α] {l : List α} {i j : Nat} {x : α} (hi : i < l.length) : (l.set i x).getD j default = if i = j then x else l.getD j default := by
  rw [List.getD_eq_getElem?_getD, List.getElem?_set]
  split
  · rfl
  · rw [List.getD_eq_getElem?_getD]
theorem zeros_getD (n j : Nat) : (Sp.zeros n).getD j default = 0 := by
  simp only [Sp.zeros, List.getD_eq_getElem?_getD, List.getElem?_replicate]
  split <;> rfl

theorem pickC_facts {dn : List Bool} {co : List Int} {n : Nat} : ∀ (k j : Nat) (nx : Int), j + k = n →
    ((nx = -1 ∧ ∀ y, y < j → dn.getD y default = true) ∨ ((0 ≤ nx ∧ nx < n ∧ ¬dn.getD nx.toNat default = true) ∧ ∀ y, y < j → ¬dn.getD y default = true → co.getD nx.toNat default ≤ co.getD y default)) →
    ((Sp.pickC dn co k j nx = -1 ∧ ∀ y, y < n → dn.getD y default = true) ∨ ((0 ≤ Sp.pickC dn co k j nx ∧ Sp.pickC dn co k j nx < n ∧ ¬dn.getD (Sp.pickC dn co k j nx).toNat default = true) ∧ ∀ y, y < n → ¬dn.getD y default = true → co.getD (Sp.pickC dn co k j nx).toNat default ≤ co.getD y default))
  | 0, j, nx, hj, h => by rw [Nat.add_zero] at hj; subst hj; exact h
  | k + 1, j, nx, hj, h => by
    rw [Sp.pickC]
    refine pickC_facts k (j + 1) _ (by omega) ?_
    split
    · rename_i hc
      refine .inr ⟨⟨by omega, by omega, by rw [Int.toNat_natCast]; exact hc.1⟩, fun y hy hd => ?_⟩
      rw [Int.toNat_natCast]
      by_cases hyj : y = j
      · subst hyj; exact Int.le_refl _
      · rcases h with ⟨h1, h2⟩ | ⟨h1, h2⟩
        · exact absurd (h2 y (by omega)) hd
        · have := h2 y (by omega) hd
          have := hc.2
          omega
    · rename_i hc
      rcases h with ⟨h1, h2⟩ | ⟨h1, h2⟩
      · refine .inl ⟨h1, fun y hy => ?_⟩
        by_cases hyj : y = j
        · subst hyj
          by_cases hd : dn.getD y default = true
          · exact hd
          · exact absurd ⟨hd, .inl (by omega)⟩ hc
        · exact h2 y (by omega)
      · refine .inr ⟨h1, fun y hy hd => ?_⟩
        by_cases hyj : y = j
        · subst hyj
          by_cases hlt : co.getD y default < co.getD nx.toNat default
          · exact absurd ⟨hd, .inr hlt⟩ hc
          · omega
        · exact h2 y (by omega) hd

theorem updC_facts {gs : List G2} {w : List Int} {dn : List Bool} {nx : Int} {n : Nat} : ∀ (k j : Nat) (co fr : List Int), j + k = n → co.length = n → fr.length = n →
    (Sp.updC gs w dn nx k j co fr).1.length = n ∧ (Sp.updC gs w dn nx k j co fr).2.length = n ∧
    ∀ y, y < n → (Sp.updC gs w dn nx k j co fr).1.getD y default = (if j ≤ y ∧ ¬dn.getD y default = true ∧ Sp.cw gs w nx y < co.getD y default then Sp.cw gs w nx y else co.getD y default) ∧
      ((Sp.updC gs w dn nx k j co fr).2.getD y default = fr.getD y default ∨ (Sp.updC gs w dn nx k j co fr).2.getD y default = nx)
  | 0, j, co, fr, hj, hc, hf => by
    refine ⟨hc, hf, fun y hy => ⟨?_, .inl rfl⟩⟩
    rw [if_neg (by omega)]; rfl
  | k + 1, j, co, fr, hj, hc, hf => by
    rw [Sp.updC]
    split
    · rename_i h
      obtain ⟨h1, h2, h3⟩ := updC_facts (gs := gs) (w := w) (dn := dn) (nx := nx) (n := n) k (j + 1) (co.set j (Sp.cw gs w nx j)) (fr.set j nx) (by omega) (by simpa using hc) (by simpa using hf)
      refine ⟨h1, h2, fun y hy => ?_⟩
      obtain ⟨k1, k2⟩ := h3 y hy
      rw [k1]
      rw [getD_set (by omega)] at k2 ⊢
      by_cases hyj : j = y
      · subst hyj
        rw [if_pos rfl] at k2 ⊢
        refine ⟨?_, .inr (by rcases k2 with k2 | k2 <;> exact k2)⟩
        rw [if_neg (by omega), if_pos ⟨by omega, h.1, h.2⟩]
      · rw [if_neg hyj] at k2 ⊢
        refine ⟨?_, k2⟩
        have e : (j + 1 ≤ y ↔ j ≤ y) := by omega
        simp only [e]
    · rename_i h
      obtain ⟨h1, h2, h3⟩ := updC_facts (gs := gs) (w := w) (dn := dn) (nx := nx) (n := n) k (j + 1) co fr (by omega) hc hf
      refine ⟨h1, h2, fun y hy => ?_⟩
      obtain ⟨k1, k2⟩ := h3 y hy
      refine ⟨?_, k2⟩
      rw [k1]
      by_cases hyj : j = y
      · subst hyj
        rw [if_neg (by omega), if_neg (fun x => h ⟨x.2.1, x.2.2⟩)]
      · have e : (j + 1 ≤ y ↔ j ≤ y) := by omega
        simp only [e]

theorem cost0_facts {gs : List G2} {w : List Int} {n : Nat} : ∀ (k j : Nat) (co : List Int), j + k = n → co.length = n →
    (Sp.cost0 gs w k j co).length = n ∧ ∀ y, y < n → (Sp.cost0 gs w k j co).getD y default = if j ≤ y then Sp.cw gs w 0 y else co.getD y default
  | 0, j, co, hj, hc => by
    refine ⟨hc, fun y hy => ?_⟩
    rw [if_neg (by omega)]; rfl
  | k + 1, j, co, hj, hc => by
    rw [Sp.cost0]
    obtain ⟨h1, h2⟩ := cost0_facts (gs := gs) (w := w) (n := n) k (j + 1) (co.set j (Sp.cw gs w 0 j)) (by omega) (by simpa using hc)
    refine ⟨h1, fun y hy => ?_⟩
    rw [h2 y hy, getD_set (by omega)]
    by_cases hyj : j = y
    · subst hyj; rw [if_neg (by omega), if_pos rfl, if_pos (by omega)]
    · have e : (j + 1 ≤ y ↔ j ≤ y) := by omega
      simp only [e, if_neg hyj]

/-- What holds ahead of a round. -/
structure SpI (gs : List G2) (w : List Int) (k : Nat) (o ps co fr : List Int) (dn : List Bool) : Prop where
  len : o.length + k = gs.length
  nod : o.Nodup
  rng : ∀ x ∈ o, 0 ≤ x ∧ x < (gs.length : Int)
  ne : o ≠ []
  dnl : dn.length = gs.length
  col : co.length = gs.length
  frl : fr.length = gs.length
  psl : ps.length = gs.length
  dne : ∀ j : Nat, j < gs.length → dn.getD j default = Sp.has o j
  coe : ∀ j : Nat, j < gs.length → (j : Int) ∉ o → (∃ a ∈ o, co.getD j default = Sp.cw gs w a j) ∧ ∀ x ∈ o, co.getD j default ≤ Sp.cw gs w x j
  fre : ∀ j : Nat, j < gs.length → 0 ≤ fr.getD j default ∧ fr.getD j default < gs.length
  pse : ∀ j : Nat, j < gs.length → 0 ≤ ps.getD j default ∧ ps.getD j default ≤ 2 * (1000 - k)

theorem SpI.pick {gs : List G2} {w : List Int} {k : Nat} {o ps co fr : List Int} {dn : List Bool} (h : SpI gs w (k + 1) o ps co fr dn) {nx : Int} (hx : nx = Sp.pickC dn co gs.length 0 (-1)) :
    0 ≤ nx ∧ nx < gs.length ∧ nx ∉ o ∧ (∃ a ∈ o, co.getD nx.toNat default = Sp.cw gs w a nx) ∧ ∀ x ∈ o, ∀ y : Int, 0 ≤ y ∧ y < gs.length → y ∉ o → co.getD nx.toNat default ≤ Sp.cw gs w x y := by
  have hf := pickC_facts (dn := dn) (co := co) (n := gs.length) gs.length 0 (-1) (by omega) (.inl ⟨rfl, fun y hy => by omega⟩)
  rw [← hx] at hf
  rcases hf with ⟨h1, h2⟩ | ⟨⟨h1, h2, h3⟩, h4⟩
  · have := il_ge gs.length o (fun j hj => by
      have := h2 j hj
      rw [h.dne j hj] at this
      exact has_iff.1 this)
    have := h.len
    omega
  · have en : ((nx.toNat : Nat) : Int) = nx := Int.toNat_of_nonneg h1
    have hno : nx ∉ o := by
      rw [h.dne _ (by omega), has_iff, en] at h3
      exact h3
    have hce := h.coe nx.toNat (by omega) (by rw [en]; exact hno)
    rw [en] at hce
    refine ⟨h1, h2, hno, hce.1, fun x hxo y hy hyo => ?_⟩
    have ey : ((y.toNat : Nat) : Int) = y := Int.toNat_of_nonneg hy.1
    have a := h4 y.toNat (by omega) (by rw [h.dne _ (by omega), has_iff, ey]; exact hyo)
    have b := (h.coe y.toNat (by omega) (by rw [ey]; exact hyo)).2 x hxo
    rw [ey] at b
    omega

theorem SpI.psl' {gs : List G2} {w : List Int} {k : Nat} {o ps co fr : List Int} {dn : List Bool} (h : SpI gs w (k + 1) o ps co fr dn) (hk : gs.length ≤ 1000) {nx : Int} (hx : 0 ≤ nx ∧ nx < gs.length) :
    (Sp.psUp ps fr nx).length = gs.length ∧ ∀ j : Nat, j < gs.length → 0 ≤ (Sp.psUp ps fr nx).getD j default ∧ (Sp.psUp ps fr nx).getD j default ≤ 2 * (1000 - k) := by
  have hf := h.fre nx.toNat (by omega)
  have hl := h.psl
  refine ⟨by simp [Sp.psUp, hl], fun j hj => ?_⟩
  unfold Sp.psUp
  rw [getD_set (by rw [List.length_set]; omega)]
  have hj1 := h.pse j hj
  have hj2 := h.pse nx.toNat (by omega)
  have hj3 := h.pse (fr.getD nx.toNat default).toNat (by omega)
  rw [getD_set (by omega), getD_set (by omega)]
  (repeat' split) <;> omega

theorem SpI.next {gs : List G2} {w : List Int} {k : Nat} {o ps co fr : List Int} {dn : List Bool} (h : SpI gs w (k + 1) o ps co fr dn) (hk : gs.length ≤ 1000) {nx : Int} (hx : nx = Sp.pickC dn co gs.length 0 (-1)) :
    SpI gs w k (o ++ [nx]) (Sp.psUp ps fr nx) (Sp.updC gs w (dn.set nx.toNat true) nx gs.length 0 co fr).1 (Sp.updC gs w (dn.set nx.toNat true) nx gs.length 0 co fr).2 (dn.set nx.toNat true) := by
  obtain ⟨p1, p2, p3, p4, p5⟩ := h.pick hx
  obtain ⟨u1, u2, u3⟩ := updC_facts (gs := gs) (w := w) (dn := dn.set nx.toNat true) (nx := nx) (n := gs.length) gs.length 0 co fr (by omega) h.col h.frl
  have hdn := has_app h.dnl h.dne ⟨p1, p2⟩
  refine ⟨by have := h.len; simp; omega, Mst.nodup_snoc h.nod p3, Mst.rng_snoc h.rng ⟨p1, p2⟩, by simp, by simpa using h.dnl, u1, u2, (h.psl' hk ⟨p1, p2⟩).1, hdn, fun j hj hjo => ?_, fun j hj => ?_, (h.psl' hk ⟨p1, p2⟩).2⟩
  · have hjo' : (j : Int) ∉ o ∧ (j : Int) ≠ nx := by simpa using hjo
    have hd : ¬(dn.set nx.toNat true).getD j default = true := by rw [hdn j hj, has_iff]; exact hjo
    obtain ⟨⟨a, c1, c2⟩, c3⟩ := h.coe j hj hjo'.1
    rw [(u3 j hj).1]
    split
    · rename_i hlt
      refine ⟨⟨nx, by simp, rfl⟩, fun x hxo => ?_⟩
      rcases List.mem_append.1 hxo with hxo | hxo
      · have := c3 x hxo; have := hlt.2.2; omega
      · simp only [List.mem_singleton] at hxo; subst hxo; exact Int.le_refl _
    · rename_i hlt
      refine ⟨⟨a, by simp [c1], c2⟩, fun x hxo => ?_⟩
      rcases List.mem_append.1 hxo with hxo | hxo
      · exact c3 x hxo
      · simp only [List.mem_singleton] at hxo; subst hxo
        by_cases hl : Sp.cw gs w x j < co.getD j default
        · exact absurd ⟨by omega, hd, hl⟩ hlt
        · omega
  · rcases (u3 j hj).2 with e | e
    · rw [e]; exact h.fre j hj
    · rw [e]; exact ⟨p1, p2⟩

theorem loop36d {fl fw : Bool} {gs : List G2} {w ps : List Int} {dn : List Bool} {s nx : Int} {n : Nat} {i : Nat} {dq : AV} (hg : Sp.okG gs) (hl : gs.length ≤ 1000) (hw : Sp.okW w) (hwl : w.length = gs.length) (hd : dn.length = gs.length) (hx : 0 ≤ nx ∧ nx < gs.length) (hi : i ≤ 1000) :
    ∀ (k j : Nat) (co fr : List Int), j + k = gs.length → co.length = gs.length → fr.length = gs.length → v36b_at fl fw gs w ps (Sp.updC gs w dn nx k j co fr).1 (Sp.updC gs w dn nx k j co fr).2 dn s n (i + 1 : Nat) (PureQ dq) → v36d_at fl fw gs w ps co fr dn s nx n i gs.length j (PureQ dq) := by
  intro k
  induction k with
  | zero =>
    intro j co fr hj hc hf hq
    exact v36d _ _ _ _ _ _ _ _ _ _ _ _ _ _ _ ⟨fun h => by omega, fun _ => ⟨by omega, hq⟩⟩
  | succ k ih =>
    intro j co fr hj hc hf hq
    rw [Sp.updC] at hq
    refine v36d _ _ _ _ _ _ _ _ _ _ _ _ _ _ _ ⟨fun _ => ?_, fun h => by omega⟩
    rw [Int.toNat_natCast]
    have e : Sp.dist (gs.getD nx.toNat default).x (gs.getD nx.toNat default).y (gs.getD j default).x (gs.getD j default).y + w.getD nx.toNat default + w.getD j default = Sp.cw gs w nx j := rfl
    have e2 : Sp.dist (gs.getD nx.toNat default).x (gs.getD nx.toNat default).y (gs.getD j default).x (gs.getD j default).y = Sp.dAt gs nx j := rfl
    rw [e, e2]
    have h1 := cw_le hg hw nx j
    have h2 := dAt_le hg nx j
    have h3 := okW_at hw nx.toNat
    refine ⟨⟨(okG_at hg _).1, (okG_at hg _).2, (okG_at hg _).1, (okG_at hg _).2⟩, hx.1, by omega, by omega, by omega, by omega, by omega, by omega, by omega, by omega, fun _ => by omega, fun h => ⟨by omega, by omega, by omega, ?_⟩, fun h => ⟨by omega, ?_⟩⟩
    · rw [if_pos h] at hq
      exact ih (j + 1) _ _ (by omega) (by simpa using hc) (by simpa using hf) hq
    · rw [if_neg h] at hq
      exact ih (j + 1) _ _ (by omega) hc hf hq

theorem loop36c {fl fw : Bool} {gs : List G2} {w : List Int} {k i : Nat} {o ps co fr : List Int} {dn : List Bool} {s : Int} {n : Nat} {dq : AV} (hg : Sp.okG gs) (hl : gs.length ≤ 1000) (hw : Sp.okW w) (hwl : w.length = gs.length) (hI : SpI gs w (k + 1) o ps co fr dn) (hs : -1000000000000 ≤ s ∧ s ≤ 1000000000000) (hi : i ≤ 1000)
    (cont : ∀ nx, nx = Sp.pickC dn co gs.length 0 (-1) → v36b_at fl fw gs w (Sp.psUp ps fr nx) (Sp.updC gs w (dn.set nx.toNat true) nx gs.length 0 co fr).1 (Sp.updC gs w (dn.set nx.toNat true) nx gs.length 0 co fr).2 (dn.set nx.toNat true) (s + co.getD nx.toNat default) n (i + 1 : Nat) (PureQ dq)) :
    ∀ (r j : Nat) (nx : Int), j + r = gs.length → (nx < 0 ∨ (0 ≤ nx ∧ nx < gs.length)) → Sp.pickC dn co r j nx = Sp.pickC dn co gs.length 0 (-1) → v36c_at fl fw gs w ps co fr dn s nx n i gs.length j (PureQ dq) := by
  have hdl := hI.dnl
  have hcl := hI.col
  have hfl := hI.frl
  have hpl := hI.psl
  intro r
  induction r with
  | zero =>
    intro j nx hj hn hp
    rw [Sp.pickC] at hp
    obtain ⟨p1, p2, p3, ⟨a, p4, p5⟩, p6⟩ := hI.pick hp
    have hc := cw_le hg hw a nx
    have hps := hI.pse nx.toNat (by omega)
    have hfr := hI.fre nx.toNat (by omega)
    have hps2 := hI.pse (fr.getD nx.toNat default).toNat (by omega)
    refine v36c _ _ _ _ _ _ _ _ _ _ _ _ _ _ _ ⟨fun h => by omega, fun _ => ⟨p1, by omega, by omega, by omega, by omega, by omega, by omega, hfr.1, by rw [List.length_set]; omega, ?_, ?_⟩⟩
    · rw [getD_set (by omega)]
      split <;> omega
    · exact loop36d hg hl hw hwl (by simpa using hdl) ⟨p1, p2⟩ hi gs.length 0 co fr (by omega) hcl hfl (cont nx hp)
  | succ r ih =>
    intro j nx hj hn hp
    rw [Sp.pickC] at hp
    refine v36c _ _ _ _ _ _ _ _ _ _ _ _ _ _ _ ⟨fun _ => ?_, fun h => by omega⟩
    rw [Int.toNat_natCast]
    refine ⟨by omega, by omega, fun _ => by omega, fun h => by omega, fun h => by omega, fun h => ⟨by omega, ?_⟩, fun h => ⟨by omega, ?_⟩⟩
    · rw [if_pos h] at hp
      exact ih (j + 1) j (by omega) (by omega) hp
    · rw [if_neg h] at hp
      exact ih (j + 1) nx (by omega) hn hp

theorem loop36b {fl fw : Bool} {gs : List G2} {w : List Int} {dq : AV} (hg : Sp.okG gs) (hl : gs.length ≤ 1000) (hw : Sp.okW w) (hwl : w.length = gs.length) :
    ∀ (k i : Nat) (o ps co fr : List Int) (dn : List Bool) (s : Int), SpI gs w k o ps co fr dn → i + k + 1 = gs.length → (-60000000 * (1000 - k) ≤ s ∧ s ≤ 60000000 * (1000 - k)) → AV.tup [.int .i64 (s + Sp.rest gs w o), isA false (Sp.spanP gs w k ps co fr dn)] = dq → v36b_at fl fw gs w ps co fr dn s (gs.length - 1 : Nat) i (PureQ dq) := by
  intro k
  induction k with
  | zero =>
    intro i o ps co fr dn s hI hi hs hq
    have : Sp.rest gs w o = 0 := Mst.rem_full (cw_symm gs w) hI.nod hI.rng hI.ne (by have := hI.len; omega)
    rw [this, Int.add_zero, Sp.spanP] at hq
    exact v36b _ _ _ _ _ _ _ _ _ _ _ _ ⟨fun h => by omega, fun _ => by rw [← hq]; exact .refl _⟩
  | succ k ih =>
    intro i o ps co fr dn s hI hi hs hq
    refine v36b _ _ _ _ _ _ _ _ _ _ _ _ ⟨fun _ => ?_, fun h => by omega⟩
    refine loop36c hg hl hw hwl hI (by omega) (by omega) (fun nx hx => ?_) gs.length 0 (-1) (by omega) (by omega) rfl
    obtain ⟨p1, p2, p3, ⟨a, p4, p5⟩, p6⟩ := hI.pick hx
    have hc := cw_le hg hw a nx
    have e : Sp.rest gs w o = co.getD nx.toNat default + Sp.rest gs w (o ++ [nx]) := Mst.rem_step (cw_symm gs w) hI.nod hI.rng p4 p3 ⟨p1, p2⟩ p5 p6
    refine ih (i + 1) (o ++ [nx]) _ _ _ _ _ (hI.next hl hx) (by omega) (by omega) ?_
    rw [← hq, e, Int.add_assoc, Sp.spanP, ← hx]

theorem loop36a {fl fw : Bool} {gs : List G2} {w ps fr : List Int} {dn : List Bool} {dq : AV} (hg : Sp.okG gs) (hl : gs.length ≤ 1000) (hw : Sp.okW w) (hwl : w.length = gs.length) (h0 : 0 < gs.length) :
    ∀ (k j : Nat) (co : List Int), j + k = gs.length → co.length = gs.length → v36b_at fl fw gs w ps (Sp.cost0 gs w k j co) fr dn 0 (gs.length - 1 : Nat) 0 (PureQ dq) → v36a_at fl fw gs w ps co fr dn gs.length j (PureQ dq) := by
  intro k
  induction k with
  | zero =>
    intro j co hj hc hq
    have e : ((gs.length : Int) - 1) = (gs.length - 1 : Nat) := by omega
    exact v36a _ _ _ _ _ _ _ _ _ _ _ ⟨fun h => by omega, fun _ => ⟨by omega, by rw [e]; exact hq⟩⟩
  | succ k ih =>
    intro j co hj hc hq
    rw [Sp.cost0] at hq
    refine v36a _ _ _ _ _ _ _ _ _ _ _ ⟨fun _ => ?_, fun h => by omega⟩
    rw [Int.toNat_natCast]
    have e : Sp.dist (gs.getD 0 default).x (gs.getD 0 default).y (gs.getD j default).x (gs.getD j default).y + w.getD 0 default + w.getD j default = Sp.cw gs w 0 j := rfl
    have e2 : Sp.dist (gs.getD 0 default).x (gs.getD 0 default).y (gs.getD j default).x (gs.getD j default).y = Sp.dAt gs 0 j := rfl
    rw [e, e2]
    have h1 := cw_le hg hw 0 j
    have h2 := dAt_le hg 0 j
    have h3 := okW_at hw 0
    refine ⟨⟨(okG_at hg _).1, (okG_at hg _).2, (okG_at hg _).1, (okG_at hg _).2⟩, by omega, by omega, by omega, by omega, by omega, by omega, by omega, by omega, by omega, ?_⟩
    exact ih (j + 1) _ (by omega) (by simpa using hc) hq

theorem ev36 (fl fw : Bool) (gs : List G2) (w : List Int) (h : Sp.okG gs ∧ gs.length ≤ 1000 ∧ Sp.okW w ∧ w.length = gs.length) : Ev M1 (.pure 36 [gsA fl gs, isA fw w]) (.tup [.int .i64 (Sp.mst gs w), isA false (Sp.spanPairs gs w)]) [] := by
  obtain ⟨hg, hl, hw, hwl⟩ := h
  refine call36 (v36 fl fw gs w _ ⟨by omega, by omega, by omega, fun h0 => ?_, fun h0 => ⟨by omega, by simp; omega, ?_⟩⟩)
  · have h0 : gs.length = 0 := by omega
    unfold Sp.mst Sp.spanPairs
    rw [if_pos h0, if_pos h0, h0]
    exact .refl _
  · have h0' : ¬gs.length = 0 := by omega
    rw [Int.toNat_natCast]
    refine loop36a hg hl hw hwl (by omega) gs.length 0 _ (by omega) (by simp) ?_
    obtain ⟨c1, c2⟩ := cost0_facts (gs := gs) (w := w) (n := gs.length) gs.length 0 (Sp.zeros gs.length) (by omega) (by simp [Sp.zeros])
    refine loop36b hg hl hw hwl (gs.length - 1) 0 [0] _ _ _ _ 0 ⟨by simp; omega, by simp, by simp; omega, by simp, by simp, c1, by simp, by simp, fun j hj => ?_, fun j hj hjo => ?_, fun j hj => ?_, fun j hj => ?_⟩ (by omega) (by omega) ?_
    · rw [getD_set (by simp; omega)]
      by_cases hj0 : j = 0
      · subst hj0; simp [Sp.has]
      · rw [if_neg (by omega), List.getD_eq_getElem?_getD, List.getElem?_replicate, if_pos hj]
        simp [Sp.has, hj0]
    · refine ⟨⟨0, by simp, ?_⟩, fun x hx => ?_⟩
      · have := c2 j hj
        rw [if_pos (by omega)] at this
        exact this
      · simp only [List.mem_singleton] at hx
        subst hx
        have := c2 j hj
        rw [if_pos (by omega)] at this
        exact Int.le_of_eq this
    · have := zeros_getD gs.length j
      unfold Sp.zeros at this
      rw [this]; omega
    · have := zeros_getD gs.length j
      unfold Sp.zeros at this
      rw [this]; omega
    · unfold Sp.mst Sp.spanPairs
      rw [if_neg h0', if_neg h0', Int.zero_add]
      rfl
end Go.Av

/- PATHS, written by a program of the prover's. -/
namespace Go.Av
open Go.Proofs
set_option maxRecDepth 100000
def fi20 : Fi := ⟨14, [.tmp 2]⟩
def kp20 : List (Nat × List Nat) := [(0, [0]), (1, [3]), (2, [2])]
def fi21 : Fi := ⟨8, [.tmp 2]⟩
def kp21 : List (Nat × List Nat) := [(0, [0]), (1, [2])]
def fi40 : Fi := ⟨41, [.tmp 4, .tmp 5]⟩
def kp40 : List (Nat × List Nat) := [(0, [0, 1]), (1, [0, 1, 6, 7]), (2, [1, 6, 7, 18]), (3, [4, 5]), (4, [1, 6, 7, 20, 21, 22]), (5, [1, 6, 7, 20, 21, 22, 23]), (6, [1, 6, 7, 9, 20, 21, 22]), (7, [1, 6, 7, 20, 21, 22]), (8, [1, 6, 7, 20, 21, 22]), (9, [4, 5])]
def v20_at (fl : Bool) (gs : List G2) (Q : AV → Heap → Prop) : Prop := Wp M1 (.run fi20 (atC (cd Try.f20) []) [(0, .vec fl 2 (gs.map G2.a))] []) Q
def v21_at (fl : Bool) (gs : List G2) (Q : AV → Heap → Prop) : Prop := Wp M1 (.run fi21 (atC (cd Try.f21) []) [(0, .vec fl 2 (gs.map G2.a))] []) Q
def v40_at (fl fw : Bool) (gs : List G2) (w : List Int) (Q : AV → Heap → Prop) : Prop := Wp M1 (.run fi40 (atC (cd Try.f40) []) [(0, .vec fl 2 (gs.map G2.a)), (1, .vec fw 1 (w.map (.int .i64)))] []) Q
def v40a_at (fw fx : Bool) (w : List Int) (s n i : Int) (ps x : List Int) (Q : AV → Heap → Prop) : Prop := Wp M1 (.run fi40 (atC (cd Try.f40) [1, 1, 1, 0, 1, 0, 0]) [(1, .vec fw 1 (w.map (.int .i64))), (6, .int .i64 s), (7, .vec false 1 (ps.map (.int .i64))), (20, .vec fx 1 (x.map (.int .i64))), (21, .int .i64 n), (22, .int .i64 i)] []) Q
theorem call20 {args : List AV} {d : AV} (h : Wp M1 (.run fi20 [.code (cd Try.f20)] (argVars 0 args) []) (PureQ d)) : Ev M1 (.pure 20 args) d [] :=
  pure_pq Try.f20 fi20 (by kernel_rfl) (by kernel_rfl) (by kernel_rfl) (by kernel_rfl) h
theorem owncall20 {args : List AV} {L : Heap} {Q : AV → Heap → Prop} (h : Wp M1 (.run fi20 [.code (cd Try.f20)] (argVars 0 args) L) Q) : Wp M1 (.own 20 args L) Q :=
  own_wp Try.f20 fi20 (by kernel_rfl) (by kernel_rfl) (by kernel_rfl) (by kernel_rfl) h
theorem keepcall20 {args : List AV} {L : Heap} {v : AV} {K : Heap} (hk : keepOk L.length v K = true) (h : Wp M1 (.run fi20 [.code (cd Try.f20)] (argVars 0 args) L) (KeepQ v K)) : Ev M1 (.own 20 args L) v K :=
  own_keep Try.f20 fi20 (by kernel_rfl) (by kernel_rfl) (by kernel_rfl) (by kernel_rfl) hk h
theorem call21 {args : List AV} {d : AV} (h : Wp M1 (.run fi21 [.code (cd Try.f21)] (argVars 0 args) []) (PureQ d)) : Ev M1 (.pure 21 args) d [] :=
  pure_pq Try.f21 fi21 (by kernel_rfl) (by kernel_rfl) (by kernel_rfl) (by kernel_rfl) h
theorem owncall21 {args : List AV} {L : Heap} {Q : AV → Heap → Prop} (h : Wp M1 (.run fi21 [.code (cd Try.f21)] (argVars 0 args) L) Q) : Wp M1 (.own 21 args L) Q :=
  own_wp Try.f21 fi21 (by kernel_rfl) (by kernel_rfl) (by kernel_rfl) (by kernel_rfl) h
theorem keepcall21 {args : List AV} {L : Heap} {v : AV} {K : Heap} (hk : keepOk L.length v K = true) (h : Wp M1 (.run fi21 [.code (cd Try.f21)] (argVars 0 args) L) (KeepQ v K)) : Ev M1 (.own 21 args L) v K :=
  own_keep Try.f21 fi21 (by kernel_rfl) (by kernel_rfl) (by kernel_rfl) (by kernel_rfl) hk h
theorem call40 {args : List AV} {d : AV} (h : Wp M1 (.run fi40 [.code (cd Try.f40)] (argVars 0 args) []) (PureQ d)) : Ev M1 (.pure 40 args) d [] :=
  pure_pq Try.f40 fi40 (by kernel_rfl) (by kernel_rfl) (by kernel_rfl) (by kernel_rfl) h
theorem owncall40 {args : List AV} {L : Heap} {Q : AV → Heap → Prop} (h : Wp M1 (.run fi40 [.code (cd Try.f40)] (argVars 0 args) L) Q) : Wp M1 (.own 40 args L) Q :=
  own_wp Try.f40 fi40 (by kernel_rfl) (by kernel_rfl) (by kernel_rfl) (by kernel_rfl) h
theorem keepcall40 {args : List AV} {L : Heap} {v : AV} {K : Heap} (hk : keepOk L.length v K = true) (h : Wp M1 (.run fi40 [.code (cd Try.f40)] (argVars 0 args) L) (KeepQ v K)) : Ev M1 (.own 40 args L) v K :=
  own_keep Try.f40 fi40 (by kernel_rfl) (by kernel_rfl) (by kernel_rfl) (by kernel_rfl) hk h
theorem v20 (fl : Bool) (gs : List G2) (dq : AV) (H :
    (Sp.okG gs ∧ gs.length ≤ 1000 ∧ Sp.okW (List.replicate (↑gs.length : Int).toNat (0 : Int)) ∧ (List.replicate (↑gs.length : Int).toNat (0 : Int)).length = gs.length) ∧
    (0 ≤ (↑gs.length : Int)) ∧
    ((↑gs.length : Int) * 8 ≤ 1099511627776) ∧
    ((↑gs.length : Int) ≤ 1099511627776) ∧
    AV.int IntKind.i64 (Sp.mst gs (List.replicate (↑gs.length : Int).toNat (0 : Int))) = dq) :
  v20_at fl gs (PureQ dq) := by
  unfold v20_at
  have w1 : (List.map G2.a gs).length = gs.length := List.length_map ..
  have w2 : List.replicate (↑gs.length : Int).toNat (AV.int IntKind.i64 0) = List.map (AV.int IntKind.i64) (List.replicate (↑gs.length : Int).toNat (0 : Int)) := (lm_rep rfl)
  have k3 := H.1; have H := H.2
  have i4 : (decide (0 ≤ (↑(List.map G2.a gs).length : Int))) = true ↔ (0 ≤ (↑gs.length : Int)) := (by rw [w1] <;> exact i_dec)
  have k5 := H.1; have H := H.2
  have i6 : (decide ((↑(List.map G2.a gs).length : Int) ≤ (↑(List.map G2.a gs).length : Int))) = true ↔ ((↑gs.length : Int) ≤ (↑gs.length : Int)) := (by rw [w1] <;> exact i_dec)
  have i7 : (decide ((↑(List.map G2.a gs).length : Int) * 8 ≤ 1099511627776)) = true ↔ ((↑gs.length : Int) * 8 ≤ 1099511627776) := (by rw [w1] <;> exact i_dec)
  have k8 := H.1; have H := H.2
  have i9 : (decide ((↑(List.map G2.a gs).length : Int) ≤ 1099511627776)) = true ↔ ((↑gs.length : Int) ≤ 1099511627776) := (by rw [w1] <;> exact i_dec)
  have k10 := H.1; have H := H.2
  exact path_ret (G := given kp20 [(1, 4, .call (AV.tup [AV.int IntKind.i64 (Sp.mst gs (List.replicate (↑gs.length : Int).toNat (0 : Int))), AV.vec false 1 (List.map (AV.int IntKind.i64) (Sp.spanPairs gs (List.replicate (↑gs.length : Int).toNat (0 : Int))))]) none)] []) 1000 [] (k := ((atC (cd Try.f20) [1, 1, 1])).tail) (env' := [(2, AV.int IntKind.i64 (Sp.mst gs (List.replicate (↑gs.length : Int).toNat (0 : Int))))]) (L' := [{ elems := List.replicate (↑(List.map G2.a gs).length : Int).toNat (AV.int IntKind.i64 0), es := 1, ver := 0, frozen := true, clean := true }]) (asm := [decide (0 ≤ (↑(List.map G2.a gs).length : Int)), decide ((↑(List.map G2.a gs).length : Int) ≤ (↑(List.map G2.a gs).length : Int)), decide ((↑(List.map G2.a gs).length : Int) * 8 ≤ 1099511627776), decide ((↑(List.map G2.a gs).length : Int) ≤ 1099511627776), true]) (eqs := []) (calls := [⟨true, false, 36, [AV.vec fl 2 (List.map G2.a gs), AV.vec false 1 (List.replicate (↑(List.map G2.a gs).length : Int).toNat (AV.int IntKind.i64 0))], [], AV.tup [AV.int IntKind.i64 (Sp.mst gs (List.replicate (↑gs.length : Int).toNat (0 : Int))), AV.vec false 1 (List.map (AV.int IntKind.i64) (Sp.spanPairs gs (List.replicate (↑gs.length : Int).toNat (0 : Int))))], []⟩]) (AV.int IntKind.i64 (Sp.mst gs (List.replicate (↑gs.length : Int).toNat (0 : Int)))) (by kernel_rfl) (by kernel_rfl) (allB_cons (i4.2 k5) (allB_cons (i6.2 (by omega)) (allB_cons (i7.2 k8) (allB_cons (i9.2 k10) (allB_cons rfl allB_nil))))) allP_nil (allC_cons (fun _ => ((by rw [w1, w2] <;> exact (@ev36 (fl) (false) (gs) (List.replicate (↑gs.length : Int).toNat (0 : Int)) k3)) : Ev M1 (Conf.pure 36 [AV.vec fl 2 (List.map G2.a gs), AV.vec false 1 (List.replicate (↑(List.map G2.a gs).length : Int).toNat (AV.int IntKind.i64 0))]) (AV.tup [AV.int IntKind.i64 (Sp.mst gs (List.replicate (↑gs.length : Int).toNat (0 : Int))), AV.vec false 1 (List.map (AV.int IntKind.i64) (Sp.spanPairs gs (List.replicate (↑gs.length : Int).toNat (0 : Int))))]) [])) allC_nil) (pq_of (d := AV.int IntKind.i64 (Sp.mst gs (List.replicate (↑gs.length : Int).toNat (0 : Int)))) (bs := []) (by kernel_rfl) (by kernel_rfl) allB_nil (by kernel_rfl) H)

theorem v21 (fl : Bool) (gs : List G2) (dq : AV) (H :
    (Sp.okG gs ∧ gs.length ≤ 1000 ∧ Sp.okW (List.replicate (↑gs.length : Int).toNat (0 : Int)) ∧ (List.replicate (↑gs.length : Int).toNat (0 : Int)).length = gs.length) ∧
    (0 ≤ (↑gs.length : Int)) ∧
    ((↑gs.length : Int) * 8 ≤ 1099511627776) ∧
    ((↑gs.length : Int) ≤ 1099511627776) ∧
    AV.int IntKind.i64 (Sp.mst gs (List.replicate (↑gs.length : Int).toNat (0 : Int))) = dq) :
  v21_at fl gs (PureQ dq) := by
  unfold v21_at
  have w1 : (List.map G2.a gs).length = gs.length := List.length_map ..
  have w2 : List.replicate (↑gs.length : Int).toNat (AV.int IntKind.i64 0) = List.map (AV.int IntKind.i64) (List.replicate (↑gs.length : Int).toNat (0 : Int)) := (lm_rep rfl)
  have k3 := H.1; have H := H.2
  have i4 : (decide (0 ≤ (↑(List.map G2.a gs).length : Int))) = true ↔ (0 ≤ (↑gs.length : Int)) := (by rw [w1] <;> exact i_dec)
  have k5 := H.1; have H := H.2
  have i6 : (decide ((↑(List.map G2.a gs).length : Int) ≤ (↑(List.map G2.a gs).length : Int))) = true ↔ ((↑gs.length : Int) ≤ (↑gs.length : Int)) := (by rw [w1] <;> exact i_dec)
  have i7 : (decide ((↑(List.map G2.a gs).length : Int) * 8 ≤ 1099511627776)) = true ↔ ((↑gs.length : Int) * 8 ≤ 1099511627776) := (by rw [w1] <;> exact i_dec)
  have k8 := H.1; have H := H.2
  have i9 : (decide ((↑(List.map G2.a gs).length : Int) ≤ 1099511627776)) = true ↔ ((↑gs.length : Int) ≤ 1099511627776) := (by rw [w1] <;> exact i_dec)
  have k10 := H.1; have H := H.2
  exact path_ret (G := given kp21 [(1, 4, .call (AV.int IntKind.i64 (Sp.mst gs (List.replicate (↑gs.length : Int).toNat (0 : Int)))) none)] []) 1000 [] (k := ((atC (cd Try.f21) [1, 1])).tail) (env' := [(2, AV.int IntKind.i64 (Sp.mst gs (List.replicate (↑gs.length : Int).toNat (0 : Int))))]) (L' := [{ elems := List.replicate (↑(List.map G2.a gs).length : Int).toNat (AV.int IntKind.i64 0), es := 1, ver := 0, frozen := false, clean := true }]) (asm := [decide (0 ≤ (↑(List.map G2.a gs).length : Int)), decide ((↑(List.map G2.a gs).length : Int) ≤ (↑(List.map G2.a gs).length : Int)), decide ((↑(List.map G2.a gs).length : Int) * 8 ≤ 1099511627776), decide ((↑(List.map G2.a gs).length : Int) ≤ 1099511627776), true]) (eqs := []) (calls := [⟨true, false, 37, [AV.vec fl 2 (List.map G2.a gs), AV.vec false 1 (List.replicate (↑(List.map G2.a gs).length : Int).toNat (AV.int IntKind.i64 0))], [], AV.int IntKind.i64 (Sp.mst gs (List.replicate (↑gs.length : Int).toNat (0 : Int))), []⟩]) (AV.int IntKind.i64 (Sp.mst gs (List.replicate (↑gs.length : Int).toNat (0 : Int)))) (by kernel_rfl) (by kernel_rfl) (allB_cons (i4.2 k5) (allB_cons (i6.2 (by omega)) (allB_cons (i7.2 k8) (allB_cons (i9.2 k10) (allB_cons rfl allB_nil))))) allP_nil (allC_cons (fun _ => ((by rw [w1, w2] <;> exact (@ev37 (fl) (false) (gs) (List.replicate (↑gs.length : Int).toNat (0 : Int)) k3)) : Ev M1 (Conf.pure 37 [AV.vec fl 2 (List.map G2.a gs), AV.vec false 1 (List.replicate (↑(List.map G2.a gs).length : Int).toNat (AV.int IntKind.i64 0))]) (AV.int IntKind.i64 (Sp.mst gs (List.replicate (↑gs.length : Int).toNat (0 : Int)))) [])) allC_nil) (pq_of (d := AV.int IntKind.i64 (Sp.mst gs (List.replicate (↑gs.length : Int).toNat (0 : Int)))) (bs := []) (by kernel_rfl) (by kernel_rfl) allB_nil (by kernel_rfl) H)

theorem v40 (fl fw : Bool) (gs : List G2) (w : List Int) (dq : AV) (H :
    (Sp.okG gs ∧ gs.length ≤ 1000 ∧ Sp.okW w ∧ w.length = gs.length) ∧
    (((↑gs.length : Int) < 2) → Weak (AV.tup [AV.int IntKind.i64 0, AV.vec false 1 (List.map (AV.int IntKind.i64) (Sp.spanPairs gs w))]) dq) ∧
    (¬((↑gs.length : Int) < 2) → v40a_at (fw) (fw) (w) (Sp.mst gs w) ((↑w.length : Int)) (0) (Sp.spanPairs gs w) (w) (PureQ dq))) :
  v40_at fl fw gs w (PureQ dq) := by
  unfold v40_at
  have k1 := H.1; have H := H.2
  have w2 : (List.map G2.a gs).length = gs.length := List.length_map ..
  have i3 : (decide ((↑(List.map G2.a gs).length : Int) < 2)) = true ↔ ((↑gs.length : Int) < 2) := (by rw [w2] <;> exact i_dec)
  rcases Classical.em ((↑gs.length : Int) < 2) with d4 | d4
  · have H := H.1 d4
    exact path_ret (G := given kp40 [(1, 2, .call (AV.tup [AV.int IntKind.i64 (Sp.mst gs w), AV.vec false 1 (List.map (AV.int IntKind.i64) (Sp.spanPairs gs w))]) none)] []) 1000 [true] (k := ((atC (cd Try.f40) [1, 1, 0, 1, 0, 1])).tail) (env' := [(4, AV.int IntKind.i64 0), (5, AV.vec false 1 (List.map (AV.int IntKind.i64) (Sp.spanPairs gs w)))]) (L' := []) (asm := [(decide ((↑(List.map G2.a gs).length : Int) < 2)) == true]) (eqs := []) (calls := [⟨true, false, 36, [AV.vec fl 2 (List.map G2.a gs), AV.vec fw 1 (List.map (AV.int IntKind.i64) w)], [], AV.tup [AV.int IntKind.i64 (Sp.mst gs w), AV.vec false 1 (List.map (AV.int IntKind.i64) (Sp.spanPairs gs w))], []⟩]) (AV.tup [AV.int IntKind.i64 0, AV.vec false 1 (List.map (AV.int IntKind.i64) (Sp.spanPairs gs w))]) (by kernel_rfl) (by kernel_rfl) (allB_cons (beq_t (i3.2 d4)) allB_nil) allP_nil (allC_cons (fun _ => ((@ev36 (fl) (fw) (gs) (w) k1) : Ev M1 (Conf.pure 36 [AV.vec fl 2 (List.map G2.a gs), AV.vec fw 1 (List.map (AV.int IntKind.i64) w)]) (AV.tup [AV.int IntKind.i64 (Sp.mst gs w), AV.vec false 1 (List.map (AV.int IntKind.i64) (Sp.spanPairs gs w))]) [])) allC_nil) (pq_weak (d := AV.tup [AV.int IntKind.i64 0, AV.vec false 1 (List.map (AV.int IntKind.i64) (Sp.spanPairs gs w))]) (bs := []) (by kernel_rfl) (by kernel_rfl) allB_nil (by kernel_rfl) H)
  · have H := H.2 d4
    have w5 : (List.map (AV.int IntKind.i64) w).length = w.length := List.length_map ..
    exact path_wp (G := given kp40 [(1, 2, .call (AV.tup [AV.int IntKind.i64 (Sp.mst gs w), AV.vec false 1 (List.map (AV.int IntKind.i64) (Sp.spanPairs gs w))]) none)] []) 1000 [false] ⟨(atC (cd Try.f40) [1, 1, 1, 0, 1, 0, 0]), [(1, AV.vec fw 1 (List.map (AV.int IntKind.i64) w)), (6, AV.int IntKind.i64 (Sp.mst gs w)), (7, AV.vec false 1 (List.map (AV.int IntKind.i64) (Sp.spanPairs gs w))), (20, AV.vec fw 1 (List.map (AV.int IntKind.i64) w)), (21, AV.int IntKind.i64 (↑(List.map (AV.int IntKind.i64) w).length : Int)), (22, AV.int IntKind.i64 0)], [], [(decide ((↑(List.map G2.a gs).length : Int) < 2)) == false], [], [⟨true, false, 36, [AV.vec fl 2 (List.map G2.a gs), AV.vec fw 1 (List.map (AV.int IntKind.i64) w)], [], AV.tup [AV.int IntKind.i64 (Sp.mst gs w), AV.vec false 1 (List.map (AV.int IntKind.i64) (Sp.spanPairs gs w))], []⟩]⟩ (by kernel_rfl) (allB_cons (beq_f (fun h => d4 (i3.1 h))) allB_nil) allP_nil (allC_cons (fun _ => ((@ev36 (fl) (fw) (gs) (w) k1) : Ev M1 (Conf.pure 36 [AV.vec fl 2 (List.map G2.a gs), AV.vec fw 1 (List.map (AV.int IntKind.i64) w)]) (AV.tup [AV.int IntKind.i64 (Sp.mst gs w), AV.vec false 1 (List.map (AV.int IntKind.i64) (Sp.spanPairs gs w))]) [])) allC_nil) (by rw [w5] <;> exact H)

theorem v40a (fw fx : Bool) (w : List Int) (s n i : Int) (ps x : List Int) (dq : AV) (H :
    ((i < n) → (0 ≤ i) ∧
      (i.toNat < x.length) ∧
      (-9223372036854775808 ≤ 2 * x.getD i.toNat default ∧ 2 * x.getD i.toNat default ≤ 9223372036854775807) ∧
      (-9223372036854775808 ≤ s - 2 * x.getD i.toNat default ∧ s - 2 * x.getD i.toNat default ≤ 9223372036854775807) ∧
      (-9223372036854775808 ≤ i + 1 ∧ i + 1 ≤ 9223372036854775807) ∧
      v40a_at (fw) (fx) (w) (s - 2 * x.getD i.toNat default) (n) (i + 1) (ps) (x) (PureQ dq)) ∧
    (¬(i < n) → ((List.drop 1 (List.take w.length w)).length ≤ 1000000 ∧ 0 < (List.drop 1 (List.take w.length w)).length) ∧
      (0 < w.length) ∧
      (1 ≤ w.length) ∧
      (-9223372036854775808 ≤ s + w.getD 0 default ∧ s + w.getD 0 default ≤ 9223372036854775807) ∧
      (-9223372036854775808 ≤ s + w.getD 0 default + Sp.minL (List.drop 1 (List.take w.length w)) ∧ s + w.getD 0 default + Sp.minL (List.drop 1 (List.take w.length w)) ≤ 9223372036854775807) ∧
      Weak (AV.tup [AV.int IntKind.i64 (s + w.getD 0 default + Sp.minL (List.drop 1 (List.take w.length w))), AV.vec false 1 (List.map (AV.int IntKind.i64) ps)]) dq)) :
  v40a_at fw fx w s n i ps x (PureQ dq) := by
  unfold v40a_at
  have i1 : (decide (i < n)) = true ↔ (i < n) := i_dec
  rcases Classical.em (i < n) with d2 | d2
  · have H := H.1 d2
    have i3 : (decide (0 ≤ i)) = true ↔ (0 ≤ i) := i_dec
    have k4 := H.1; have H := H.2
    have w5 : (List.map (AV.int IntKind.i64) x).length = x.length := List.length_map ..
    have i6 : (decide (i.toNat < (List.map (AV.int IntKind.i64) x).length)) = true ↔ (i.toNat < x.length) := (by rw [w5] <;> exact i_dec)
    have k7 := H.1; have H := H.2
    have k8 := H.1; have H := H.2
    have w9 : IntKind.i64.wrap (2 * x.getD i.toNat default) = 2 * x.getD i.toNat default := wI64 k8
    have k10 := H.1; have H := H.2
    have w11 : IntKind.i64.wrap (s - 2 * x.getD i.toNat default) = s - 2 * x.getD i.toNat default := wI64 k10
    have k12 := H.1; have H := H.2
    have w13 : IntKind.i64.wrap (i + 1) = i + 1 := wI64 k12
    exact path_wp (G := given kp40 [(6, 1, .elem (AV.int IntKind.i64 (x.getD i.toNat default)))] []) 1000 [true] ⟨(atC (cd Try.f40) [1, 1, 1, 0, 1, 0, 0]), [(1, AV.vec fw 1 (List.map (AV.int IntKind.i64) w)), (6, AV.int IntKind.i64 (IntKind.i64.wrap (s - IntKind.i64.wrap (2 * x.getD i.toNat default)))), (7, AV.vec false 1 (List.map (AV.int IntKind.i64) ps)), (20, AV.vec fx 1 (List.map (AV.int IntKind.i64) x)), (21, AV.int IntKind.i64 n), (22, AV.int IntKind.i64 (IntKind.i64.wrap (i + 1)))], [], [(decide (i < n)) == true, decide (0 ≤ i), decide (i.toNat < (List.map (AV.int IntKind.i64) x).length)], [((List.map (AV.int IntKind.i64) x).get?Internal i.toNat = some (AV.int IntKind.i64 (x.getD i.toNat default)))], []⟩ (by kernel_rfl) (allB_cons (beq_t (i1.2 d2)) (allB_cons (i3.2 k4) (allB_cons (i6.2 k7) allB_nil))) (allP_cons (el_map k7) allP_nil) allC_nil (by rw [w9, w11, w13] <;> exact H)
  · have H := H.2 d2
    have w14 : (List.map (AV.int IntKind.i64) w).length = w.length := List.length_map ..
    have w15 : List.take w.length (List.map (AV.int IntKind.i64) w) = List.map (AV.int IntKind.i64) (List.take w.length w) := (lm_take rfl)
    have w16 : List.drop 1 (List.map (AV.int IntKind.i64) (List.take w.length w)) = List.map (AV.int IntKind.i64) (List.drop 1 (List.take w.length w)) := (lm_drop rfl)
    have k17 := H.1; have H := H.2
    have i18 : (decide (0 < (List.map (AV.int IntKind.i64) w).length)) = true ↔ (0 < w.length) := (by rw [w14] <;> exact i_dec)
    have k19 := H.1; have H := H.2
    have i20 : (decide (1 ≤ (List.map (AV.int IntKind.i64) w).length)) = true ↔ (1 ≤ w.length) := (by rw [w14] <;> exact i_dec)
    have k21 := H.1; have H := H.2
    have i22 : (decide ((List.map (AV.int IntKind.i64) w).length ≤ (List.map (AV.int IntKind.i64) w).length)) = true ↔ (w.length ≤ w.length) := (by rw [w14] <;> exact i_dec)
    have k23 := H.1; have H := H.2
    have w24 : IntKind.i64.wrap (s + w.getD 0 default) = s + w.getD 0 default := wI64 k23
    have k25 := H.1; have H := H.2
    have w26 : IntKind.i64.wrap (s + w.getD 0 default + Sp.minL (List.drop 1 (List.take w.length w))) = s + w.getD 0 default + Sp.minL (List.drop 1 (List.take w.length w)) := wI64 k25
    exact path_ret (G := given kp40 [(9, 3, .elem (AV.int IntKind.i64 (w.getD 0 default))), (9, 7, .call (AV.int IntKind.i64 (Sp.minL (List.drop 1 (List.take w.length w)))) none)] []) 1000 [false] (k := ((atC (cd Try.f40) [1, 1, 1, 1, 1])).tail) (env' := [(4, AV.int IntKind.i64 (IntKind.i64.wrap (IntKind.i64.wrap (s + w.getD 0 default) + Sp.minL (List.drop 1 (List.take w.length w))))), (5, AV.vec false 1 (List.map (AV.int IntKind.i64) ps))]) (L' := []) (asm := [(decide (i < n)) == false, true, decide (0 < (List.map (AV.int IntKind.i64) w).length), true, decide (1 ≤ (List.map (AV.int IntKind.i64) w).length), decide ((List.map (AV.int IntKind.i64) w).length ≤ (List.map (AV.int IntKind.i64) w).length)]) (eqs := [((List.map (AV.int IntKind.i64) w).get?Internal 0 = some (AV.int IntKind.i64 (w.getD 0 default)))]) (calls := [⟨true, false, 46, [AV.vec (fw && true) 1 (List.drop 1 (List.take (List.map (AV.int IntKind.i64) w).length (List.map (AV.int IntKind.i64) w)))], [], AV.int IntKind.i64 (Sp.minL (List.drop 1 (List.take w.length w))), []⟩]) (AV.tup [AV.int IntKind.i64 (IntKind.i64.wrap (IntKind.i64.wrap (s + w.getD 0 default) + Sp.minL (List.drop 1 (List.take w.length w)))), AV.vec false 1 (List.map (AV.int IntKind.i64) ps)]) (by kernel_rfl) (by kernel_rfl) (allB_cons (beq_f (fun h => d2 (i1.1 h))) (allB_cons rfl (allB_cons (i18.2 k19) (allB_cons rfl (allB_cons (i20.2 k21) (allB_cons (i22.2 (by omega)) allB_nil)))))) (allP_cons (el_map k19) allP_nil) (allC_cons (fun _ => ((by rw [w14, w15, w16] <;> exact (@ev46 (fw && true) (List.drop 1 (List.take w.length w)) k17)) : Ev M1 (Conf.pure 46 [AV.vec (fw && true) 1 (List.drop 1 (List.take (List.map (AV.int IntKind.i64) w).length (List.map (AV.int IntKind.i64) w)))]) (AV.int IntKind.i64 (Sp.minL (List.drop 1 (List.take w.length w)))) [])) allC_nil) (pq_weak (d := AV.tup [AV.int IntKind.i64 (IntKind.i64.wrap (IntKind.i64.wrap (s + w.getD 0 default) + Sp.minL (List.drop 1 (List.take w.length w)))), AV.vec false 1 (List.map (AV.int IntKind.i64) ps)]) (bs := []) (by kernel_rfl) (by kernel_rfl) allB_nil (by kernel_rfl) (by rw [w24, w26] <;> exact H))


end Go.Av

/- WHAT Tree AND bound ANSWER. -/
namespace Go.Av
open Go.Proofs

namespace Sp
noncomputable def boundV (gs : List G2) (w : List Int) : Int := mst gs w - 2 * w.sum + w.getD 0 default + minL (w.drop 1)
noncomputable def tree (gs : List G2) : Int := mst gs (zeros gs.length)
end Sp

theorem zeros_ok (n : Nat) : Sp.okW (Sp.zeros n) ∧ (Sp.zeros n).length = n := by
  refine ⟨fun x hx => ?_, by simp [Sp.zeros]⟩
  have := (List.mem_replicate.1 hx).2
  omega

theorem prim_bound {c : Int → Int → Int} {n : Nat} (hc : ∀ i j, -40000000 ≤ c i j ∧ c i j ≤ 60000000) {S : List Int} {r : Int} (h : Mst.Prim c n S r) : S.length ≤ n ∧ -60000000 * ((n : Int) - S.length) ≤ r ∧ r ≤ 60000000 * ((n : Int) - S.length) := by
  induction h with
  | full h => omega
  | @step S a v m r _ _ _ hm _ _ ih =>
    have := hc a v
    simp only [List.length_append, List.length_singleton] at ih
    omega

theorem mst_le {gs : List G2} {w : List Int} (hg : Sp.okG gs) (hl : gs.length ≤ 1000) (hw : Sp.okW w) : -60000000000 ≤ Sp.mst gs w ∧ Sp.mst gs w ≤ 60000000000 := by
  unfold Sp.mst
  split
  · omega
  · rename_i h0
    have := prim_bound (cw_le hg hw) (Mst.rem_spec (c := Sp.cw gs w) (n := gs.length) (S := [0]) (by simp) (by simp; omega) (by simp))
    simp only [List.length_singleton] at this
    have e : Sp.rest gs w [0] = Mst.rem (Sp.cw gs w) gs.length [0] := rfl
    rw [e]
    omega

theorem ev20 (fl : Bool) (gs : List G2) (h : Sp.okG gs ∧ gs.length ≤ 1000) : Ev M1 (.pure 20 [gsA fl gs]) (.int .i64 (Sp.tree gs)) [] := by
  refine call20 (v20 fl gs _ ⟨?_, by omega, by omega, by omega, ?_⟩)
  · rw [Int.toNat_natCast]; exact ⟨h.1, h.2, zeros_ok _⟩
  · rw [Int.toNat_natCast]; rfl
theorem ev21 (fl : Bool) (gs : List G2) (h : Sp.okG gs ∧ gs.length ≤ 1000) : Ev M1 (.pure 21 [gsA fl gs]) (.int .i64 (Sp.tree gs)) [] := by
  refine call21 (v21 fl gs _ ⟨?_, by omega, by omega, by omega, ?_⟩)
  · rw [Int.toNat_natCast]; exact ⟨h.1, h.2, zeros_ok _⟩
  · rw [Int.toNat_natCast]; rfl

theorem okW_sum {w : List Int} (h : Sp.okW w) : -20000000 * (w.length : Int) ≤ w.sum ∧ w.sum ≤ 20000000 * (w.length : Int) := by
  induction w with
  | nil => simp
  | cons x w ih =>
    have h1 := ih fun y hy => h y (List.mem_cons_of_mem _ hy)
    have h2 := h x (by simp)
    simp only [List.sum_cons, List.length_cons]
    omega
theorem okW_drop {w : List Int} (h : Sp.okW w) (k : Nat) : Sp.okW (w.drop k) := fun x hx => h x (List.mem_of_mem_drop hx)
theorem foldl_min {w : List Int} (h : Sp.okW w) : ∀ (m : Int), (-20000000 ≤ m ∧ m ≤ 20000000) → -20000000 ≤ w.foldl (fun m x => if x < m then x else m) m ∧ w.foldl (fun m x => if x < m then x else m) m ≤ 20000000 := by
  induction w with
  | nil => exact fun m h => h
  | cons x w ih =>
    intro m hm
    rw [List.foldl_cons]
    refine ih (fun y hy => h y (List.mem_cons_of_mem _ hy)) _ ?_
    have := h x (by simp)
    split <;> omega
theorem minL_le {w : List Int} (h : Sp.okW w) : -20000000 ≤ Sp.minL w ∧ Sp.minL w ≤ 20000000 :=
  foldl_min (okW_drop h 1) _ (okW_at h 0)

theorem loop40 {fw fx : Bool} {w x ps : List Int} {b : Int} {dq : AV} (hw : Sp.okW w) (hwl : w.length ≤ 1000 ∧ 2 ≤ w.length) (hx : Sp.okW x) (hxl : x.length ≤ 1000) (hb : -100000000000 ≤ b ∧ b ≤ 100000000000)
    (hq : Weak (.tup [.int .i64 (b + w.getD 0 default + Sp.minL (w.drop 1)), isA false ps]) dq) :
    ∀ (k i : Nat) (s : Int), i + k = x.length → s - 2 * (x.drop i).sum = b → (-40000000 * (i : Int) - 100000000000 ≤ s ∧ s ≤ 40000000 * (i : Int) + 100000000000) → v40a_at fw fx w s x.length i ps x (PureQ dq) := by
  intro k
  induction k with
  | zero =>
    intro i s hi hs hb
    rw [List.drop_eq_nil_of_le (by omega), List.sum_nil, Int.mul_zero, Int.sub_zero] at hs
    have h1 := okW_at hw 0
    have h2 := minL_le (okW_drop hw 1)
    refine v40a _ _ _ _ _ _ _ _ _ ⟨fun h => by omega, fun _ => ?_⟩
    rw [List.take_length]
    exact ⟨by rw [List.length_drop]; omega, by omega, by omega, by omega, by omega, by rw [hs]; exact hq⟩
  | succ k ih =>
    intro i s hi hs hb
    rw [drop_getD (show i < x.length by omega), List.sum_cons] at hs
    have h1 := okW_at hx i
    refine v40a _ _ _ _ _ _ _ _ _ ⟨fun _ => ?_, fun h => by omega⟩
    rw [Int.toNat_natCast]
    exact ⟨by omega, by omega, by omega, by omega, by omega, ih (i + 1) _ (by omega) (by omega) (by omega)⟩

theorem ev40 (fl fw : Bool) (gs : List G2) (w : List Int) (h : Sp.okG gs ∧ gs.length ≤ 1000 ∧ Sp.okW w ∧ w.length = gs.length) : Ev M1 (.pure 40 [gsA fl gs, isA fw w]) (.tup [.int .i64 (if (gs.length : Int) < 2 then 0 else Sp.boundV gs w), isA false (Sp.spanPairs gs w)]) [] := by
  obtain ⟨hg, hl, hw, hwl⟩ := h
  refine call40 (v40 fl fw gs w _ ⟨⟨hg, hl, hw, hwl⟩, fun k => ?_, fun k => ?_⟩)
  · rw [if_pos k]; exact .refl _
  · rw [if_neg k]
    have h1 := mst_le hg hl hw
    have h2 := okW_sum hw
    refine loop40 hw (by omega) hw (by omega) (b := Sp.mst gs w - 2 * w.sum) (by omega) (.refl _) w.length 0 _ (by omega) rfl (by omega)
end Go.Av

/- PATHS, written by a program of the prover's. -/
namespace Go.Av
open Go.Proofs
set_option maxRecDepth 100000
def fi24 : Fi := ⟨46, [.tmp 4, .tmp 5]⟩
def kp24 : List (Nat × List Nat) := [(0, [0, 1]), (1, [0, 1, 6]), (2, [0, 1, 6, 14]), (3, [4, 5]), (4, [0, 1, 25]), (5, [4, 5]), (6, [0, 1, 26, 27, 28]), (7, [0, 1, 26, 27, 28, 29]), (8, [0, 1, 8, 26, 27, 28]), (9, [0, 1, 26, 27, 28, 37]), (10, [4, 5]), (11, [0, 1, 26, 27, 28]), (12, [9]), (13, [4, 5])]
def fi25 : Fi := ⟨80, [.tmp 4, .tmp 5]⟩
def kp25 : List (Nat × List Nat) := [(0, [0, 1]), (1, [0, 1, 6]), (2, [0, 1, 6, 14]), (3, [4, 5]), (4, [0, 1, 25]), (5, [4, 5]), (6, [0, 1, 7]), (7, [0, 1, 7, 8]), (8, [0, 1, 7, 8, 29]), (9, [0, 1, 7, 8]), (10, [0, 1, 7, 8, 43]), (11, [4, 5]), (12, [0, 1, 7, 8]), (13, [0, 1, 7, 52]), (14, [4, 5]), (15, [0, 1, 7, 9]), (16, [0, 1, 7, 9, 10]), (17, [0, 1, 7, 9, 10, 59]), (18, [0, 1, 7, 9, 10]), (19, [0, 1, 7, 9, 10]), (20, [4, 5])]
def v24a_at (fl fw : Bool) (gs : List G2) (w : List Int) (fx : Bool) (x : List Int) (n i : Int) (Q : AV → Heap → Prop) : Prop := Wp M1 (.run fi24 (atC (cd Try.f24) [1, 1, 1, 0, 1, 0, 0]) [(0, .vec fl 2 (gs.map G2.a)), (1, .vec fw 1 (w.map (.int .i64))), (26, .vec fx 1 (x.map (.int .i64))), (27, .int .i64 n), (28, .int .i64 i)] []) Q
def v25a_at (fl fw : Bool) (gs : List G2) (w : List Int) (s i : Int) (Q : AV → Heap → Prop) : Prop := Wp M1 (.run fi25 (atC (cd Try.f25) [1, 1, 1, 1, 0, 1, 0, 0]) [(0, .vec fl 2 (gs.map G2.a)), (1, .vec fw 1 (w.map (.int .i64))), (7, .int .i64 s), (8, .int .i64 i)] []) Q
def v25b_at (fl fw : Bool) (gs : List G2) (w : List Int) (s m i : Int) (Q : AV → Heap → Prop) : Prop := Wp M1 (.run fi25 (atC (cd Try.f25) [1, 1, 1, 1, 1, 1, 1, 0, 1, 0, 0]) [(0, .vec fl 2 (gs.map G2.a)), (1, .vec fw 1 (w.map (.int .i64))), (7, .int .i64 s), (9, .int .i64 m), (10, .int .i64 i)] []) Q
def v24_at (fl fw : Bool) (gs : List G2) (w : List Int) (Q : AV → Heap → Prop) : Prop := Wp M1 (.run fi24 (atC (cd Try.f24) []) [(0, .vec fl 2 (gs.map G2.a)), (1, .vec fw 1 (w.map (.int .i64)))] []) Q
def v25_at (fl fw : Bool) (gs : List G2) (w : List Int) (Q : AV → Heap → Prop) : Prop := Wp M1 (.run fi25 (atC (cd Try.f25) []) [(0, .vec fl 2 (gs.map G2.a)), (1, .vec fw 1 (w.map (.int .i64)))] []) Q
theorem call24 {args : List AV} {d : AV} (h : Wp M1 (.run fi24 [.code (cd Try.f24)] (argVars 0 args) []) (PureQ d)) : Ev M1 (.pure 24 args) d [] :=
  pure_pq Try.f24 fi24 (by kernel_rfl) (by kernel_rfl) (by kernel_rfl) (by kernel_rfl) h
theorem owncall24 {args : List AV} {L : Heap} {Q : AV → Heap → Prop} (h : Wp M1 (.run fi24 [.code (cd Try.f24)] (argVars 0 args) L) Q) : Wp M1 (.own 24 args L) Q :=
  own_wp Try.f24 fi24 (by kernel_rfl) (by kernel_rfl) (by kernel_rfl) (by kernel_rfl) h
theorem keepcall24 {args : List AV} {L : Heap} {v : AV} {K : Heap} (hk : keepOk L.length v K = true) (h : Wp M1 (.run fi24 [.code (cd Try.f24)] (argVars 0 args) L) (KeepQ v K)) : Ev M1 (.own 24 args L) v K :=
  own_keep Try.f24 fi24 (by kernel_rfl) (by kernel_rfl) (by kernel_rfl) (by kernel_rfl) hk h
theorem call25 {args : List AV} {d : AV} (h : Wp M1 (.run fi25 [.code (cd Try.f25)] (argVars 0 args) []) (PureQ d)) : Ev M1 (.pure 25 args) d [] :=
  pure_pq Try.f25 fi25 (by kernel_rfl) (by kernel_rfl) (by kernel_rfl) (by kernel_rfl) h
theorem owncall25 {args : List AV} {L : Heap} {Q : AV → Heap → Prop} (h : Wp M1 (.run fi25 [.code (cd Try.f25)] (argVars 0 args) L) Q) : Wp M1 (.own 25 args L) Q :=
  own_wp Try.f25 fi25 (by kernel_rfl) (by kernel_rfl) (by kernel_rfl) (by kernel_rfl) h
theorem keepcall25 {args : List AV} {L : Heap} {v : AV} {K : Heap} (hk : keepOk L.length v K = true) (h : Wp M1 (.run fi25 [.code (cd Try.f25)] (argVars 0 args) L) (KeepQ v K)) : Ev M1 (.own 25 args L) v K :=
  own_keep Try.f25 fi25 (by kernel_rfl) (by kernel_rfl) (by kernel_rfl) (by kernel_rfl) hk h
theorem v24a (fl fw : Bool) (gs : List G2) (w : List Int) (fx : Bool) (x : List Int) (n i : Int) (dq : AV) (H :
    ((i < n) → (0 ≤ i) ∧
      (i.toNat < x.length) ∧
      (((x.getD i.toNat default > 20000000) ∨ (x.getD i.toNat default < -20000000)) → AV.tup [AV.int IntKind.i64 0, AV.int IntKind.i64 11] = dq) ∧
      (¬((x.getD i.toNat default > 20000000) ∨ (x.getD i.toNat default < -20000000)) → (-9223372036854775808 ≤ i + 1 ∧ i + 1 ≤ 9223372036854775807) ∧
        v24a_at (fl) (fw) (gs) (w) (fx) (x) (n) (i + 1) (PureQ dq))) ∧
    (¬(i < n) → (Sp.okG gs ∧ gs.length ≤ 1000 ∧ Sp.okW w ∧ w.length = gs.length) ∧
      AV.tup [AV.int IntKind.i64 (if (↑gs.length : Int) < 2 then 0 else Sp.boundV gs w), AV.int IntKind.i64 0] = dq)) :
  v24a_at fl fw gs w fx x n i (PureQ dq) := by
  unfold v24a_at
  have i1 : (decide (i < n)) = true ↔ (i < n) := i_dec
  rcases Classical.em (i < n) with d2 | d2
  · have H := H.1 d2
    have i3 : (decide (0 ≤ i)) = true ↔ (0 ≤ i) := i_dec
    have k4 := H.1; have H := H.2
    have w5 : (List.map (AV.int IntKind.i64) x).length = x.length := List.length_map ..
    have i6 : (decide (i.toNat < (List.map (AV.int IntKind.i64) x).length)) = true ↔ (i.toNat < x.length) := (by rw [w5] <;> exact i_dec)
    have k7 := H.1; have H := H.2
    have i8 : (bif decide (x.getD i.toNat default > 20000000) then true else decide (x.getD i.toNat default < -20000000)) = true ↔ ((x.getD i.toNat default > 20000000) ∨ (x.getD i.toNat default < -20000000)) := (i_bor i_dec i_dec)
    rcases Classical.em ((x.getD i.toNat default > 20000000) ∨ (x.getD i.toNat default < -20000000)) with d9 | d9
    · have H := H.1 d9
      exact path_ret (G := given kp24 [(8, 1, .elem (AV.int IntKind.i64 (x.getD i.toNat default)))] []) 1000 [true, true] (k := ((atC (cd Try.f24) [1, 1, 1, 0, 1, 0, 0, 1, 1, 0, 0, 1, 1, 0, 1])).tail) (env' := [(4, AV.int IntKind.i64 0), (5, AV.int IntKind.i64 11)]) (L' := []) (asm := [(decide (i < n)) == true, decide (0 ≤ i), decide (i.toNat < (List.map (AV.int IntKind.i64) x).length), (bif decide (x.getD i.toNat default > 20000000) then true else decide (x.getD i.toNat default < -20000000)) == true]) (eqs := [((List.map (AV.int IntKind.i64) x).get?Internal i.toNat = some (AV.int IntKind.i64 (x.getD i.toNat default)))]) (calls := []) (AV.tup [AV.int IntKind.i64 0, AV.int IntKind.i64 11]) (by kernel_rfl) (by kernel_rfl) (allB_cons (beq_t (i1.2 d2)) (allB_cons (i3.2 k4) (allB_cons (i6.2 k7) (allB_cons (beq_t (i8.2 d9)) allB_nil)))) (allP_cons (el_map k7) allP_nil) allC_nil (pq_of (d := AV.tup [AV.int IntKind.i64 0, AV.int IntKind.i64 11]) (bs := []) (by kernel_rfl) (by kernel_rfl) allB_nil (by kernel_rfl) H)
    · have H := H.2 d9
      have k10 := H.1; have H := H.2
      have w11 : IntKind.i64.wrap (i + 1) = i + 1 := wI64 k10
      exact path_wp (G := given kp24 [(8, 1, .elem (AV.int IntKind.i64 (x.getD i.toNat default)))] []) 1000 [true, false] ⟨(atC (cd Try.f24) [1, 1, 1, 0, 1, 0, 0]), [(0, AV.vec fl 2 (List.map G2.a gs)), (1, AV.vec fw 1 (List.map (AV.int IntKind.i64) w)), (26, AV.vec fx 1 (List.map (AV.int IntKind.i64) x)), (27, AV.int IntKind.i64 n), (28, AV.int IntKind.i64 (IntKind.i64.wrap (i + 1)))], [], [(decide (i < n)) == true, decide (0 ≤ i), decide (i.toNat < (List.map (AV.int IntKind.i64) x).length), (bif decide (x.getD i.toNat default > 20000000) then true else decide (x.getD i.toNat default < -20000000)) == false], [((List.map (AV.int IntKind.i64) x).get?Internal i.toNat = some (AV.int IntKind.i64 (x.getD i.toNat default)))], []⟩ (by kernel_rfl) (allB_cons (beq_t (i1.2 d2)) (allB_cons (i3.2 k4) (allB_cons (i6.2 k7) (allB_cons (beq_f (fun h => d9 (i8.1 h))) allB_nil)))) (allP_cons (el_map k7) allP_nil) allC_nil (by rw [w11] <;> exact H)
  · have H := H.2 d2
    have k12 := H.1; have H := H.2
    exact path_ret (G := given kp24 [(12, 2, .call (AV.tup [AV.int IntKind.i64 (if (↑gs.length : Int) < 2 then 0 else Sp.boundV gs w), AV.vec false 1 (List.map (AV.int IntKind.i64) (Sp.spanPairs gs w))]) none)] []) 1000 [false] (k := ((atC (cd Try.f24) [1, 1, 1, 1, 1, 1])).tail) (env' := [(4, AV.int IntKind.i64 (if (↑gs.length : Int) < 2 then 0 else Sp.boundV gs w)), (5, AV.int IntKind.i64 0)]) (L' := []) (asm := [(decide (i < n)) == false]) (eqs := []) (calls := [⟨true, false, 40, [AV.vec fl 2 (List.map G2.a gs), AV.vec fw 1 (List.map (AV.int IntKind.i64) w)], [], AV.tup [AV.int IntKind.i64 (if (↑gs.length : Int) < 2 then 0 else Sp.boundV gs w), AV.vec false 1 (List.map (AV.int IntKind.i64) (Sp.spanPairs gs w))], []⟩]) (AV.tup [AV.int IntKind.i64 (if (↑gs.length : Int) < 2 then 0 else Sp.boundV gs w), AV.int IntKind.i64 0]) (by kernel_rfl) (by kernel_rfl) (allB_cons (beq_f (fun h => d2 (i1.1 h))) allB_nil) allP_nil (allC_cons (fun _ => ((@ev40 (fl) (fw) (gs) (w) k12) : Ev M1 (Conf.pure 40 [AV.vec fl 2 (List.map G2.a gs), AV.vec fw 1 (List.map (AV.int IntKind.i64) w)]) (AV.tup [AV.int IntKind.i64 (if (↑gs.length : Int) < 2 then 0 else Sp.boundV gs w), AV.vec false 1 (List.map (AV.int IntKind.i64) (Sp.spanPairs gs w))]) [])) allC_nil) (pq_of (d := AV.tup [AV.int IntKind.i64 (if (↑gs.length : Int) < 2 then 0 else Sp.boundV gs w), AV.int IntKind.i64 0]) (bs := []) (by kernel_rfl) (by kernel_rfl) allB_nil (by kernel_rfl) H)

theorem v25a (fl fw : Bool) (gs : List G2) (w : List Int) (s i : Int) (dq : AV) (H :
    ((i < (↑w.length : Int)) → (0 ≤ i) ∧
      (i.toNat < w.length) ∧
      (((w.getD i.toNat default > 20000000) ∨ (w.getD i.toNat default < -20000000)) → AV.tup [AV.int IntKind.i64 0, AV.int IntKind.i64 11] = dq) ∧
      (¬((w.getD i.toNat default > 20000000) ∨ (w.getD i.toNat default < -20000000)) → (-9223372036854775808 ≤ s + w.getD i.toNat default ∧ s + w.getD i.toNat default ≤ 9223372036854775807) ∧
        (-9223372036854775808 ≤ i + 1 ∧ i + 1 ≤ 9223372036854775807) ∧
        v25a_at (fl) (fw) (gs) (w) (s + w.getD i.toNat default) (i + 1) (PureQ dq))) ∧
    (¬(i < (↑w.length : Int)) → (((↑gs.length : Int) = 1) → AV.tup [AV.int IntKind.i64 0, AV.int IntKind.i64 0] = dq) ∧
      (¬((↑gs.length : Int) = 1) → (1 < w.length) ∧
        v25b_at (fl) (fw) (gs) (w) (s) (w.getD 1 default) (1) (PureQ dq)))) :
  v25a_at fl fw gs w s i (PureQ dq) := by
  unfold v25a_at
  have w1 : (List.map (AV.int IntKind.i64) w).length = w.length := List.length_map ..
  have i2 : (decide (i < (↑(List.map (AV.int IntKind.i64) w).length : Int))) = true ↔ (i < (↑w.length : Int)) := (by rw [w1] <;> exact i_dec)
  rcases Classical.em (i < (↑w.length : Int)) with d3 | d3
  · have H := H.1 d3
    have i4 : (decide (0 ≤ i)) = true ↔ (0 ≤ i) := i_dec
    have k5 := H.1; have H := H.2
    have i6 : (decide (i.toNat < (List.map (AV.int IntKind.i64) w).length)) = true ↔ (i.toNat < w.length) := (by rw [w1] <;> exact i_dec)
    have k7 := H.1; have H := H.2
    have i8 : (!(decide (w.getD i.toNat default > 20000000) == false && true) || decide (0 ≤ i)) = true ↔ ((¬(w.getD i.toNat default > 20000000)) → (0 ≤ i)) := (i_imp (i_at (i_bf i_dec)) i_dec)
    have i9 : (!(decide (w.getD i.toNat default > 20000000) == false && true) || decide (i.toNat < (List.map (AV.int IntKind.i64) w).length)) = true ↔ ((¬(w.getD i.toNat default > 20000000)) → (i.toNat < w.length)) := (by rw [w1] <;> exact (i_imp (i_at (i_bf i_dec)) i_dec))
    have i10 : (decide (w.getD i.toNat default > 20000000) == false && true) = true ↔ (¬(w.getD i.toNat default > 20000000)) := (i_at (i_bf i_dec))
    have i11 : (bif decide (w.getD i.toNat default > 20000000) then true else decide (w.getD i.toNat default < -20000000)) = true ↔ ((w.getD i.toNat default > 20000000) ∨ (w.getD i.toNat default < -20000000)) := (i_bor i_dec i_dec)
    rcases Classical.em ((w.getD i.toNat default > 20000000) ∨ (w.getD i.toNat default < -20000000)) with d12 | d12
    · have H := H.1 d12
      exact path_ret (G := given kp25 [(10, 3, .elem (AV.int IntKind.i64 (w.getD i.toNat default))), (10, 9, .elem (AV.int IntKind.i64 (w.getD i.toNat default)))] []) 1000 [true, true] (k := ((atC (cd Try.f25) [1, 1, 1, 1, 0, 1, 0, 0, 1, 0, 0, 0, 1, 0, 1])).tail) (env' := [(4, AV.int IntKind.i64 0), (5, AV.int IntKind.i64 11)]) (L' := []) (asm := [(decide (i < (↑(List.map (AV.int IntKind.i64) w).length : Int))) == true, decide (0 ≤ i), decide (i.toNat < (List.map (AV.int IntKind.i64) w).length), !(decide (w.getD i.toNat default > 20000000) == false && true) || decide (0 ≤ i), !(decide (w.getD i.toNat default > 20000000) == false && true) || decide (i.toNat < (List.map (AV.int IntKind.i64) w).length), (bif decide (w.getD i.toNat default > 20000000) then true else decide (w.getD i.toNat default < -20000000)) == true]) (eqs := [((List.map (AV.int IntKind.i64) w).get?Internal i.toNat = some (AV.int IntKind.i64 (w.getD i.toNat default))), ((decide (w.getD i.toNat default > 20000000) == false && true) = true → (List.map (AV.int IntKind.i64) w).get?Internal i.toNat = some (AV.int IntKind.i64 (w.getD i.toNat default)))]) (calls := []) (AV.tup [AV.int IntKind.i64 0, AV.int IntKind.i64 11]) (by kernel_rfl) (by kernel_rfl) (allB_cons (beq_t (i2.2 d3)) (allB_cons (i4.2 k5) (allB_cons (i6.2 k7) (allB_cons (i8.2 (fun _ => k5)) (allB_cons (i9.2 (fun _ => k7)) (allB_cons (beq_t (i11.2 d12)) allB_nil)))))) (allP_cons (el_map k7) (allP_cons (fun h => el_map k7) allP_nil)) allC_nil (pq_of (d := AV.tup [AV.int IntKind.i64 0, AV.int IntKind.i64 11]) (bs := []) (by kernel_rfl) (by kernel_rfl) allB_nil (by kernel_rfl) H)
    · have H := H.2 d12
      have i13 : (decide (0 ≤ i)) = true ↔ (0 ≤ i) := i_dec
      have i14 : (decide (i.toNat < (List.map (AV.int IntKind.i64) w).length)) = true ↔ (i.toNat < w.length) := (by rw [w1] <;> exact i_dec)
      have k15 := H.1; have H := H.2
      have w16 : IntKind.i64.wrap (s + w.getD i.toNat default) = s + w.getD i.toNat default := wI64 k15
      have k17 := H.1; have H := H.2
      have w18 : IntKind.i64.wrap (i + 1) = i + 1 := wI64 k17
      exact path_wp (G := given kp25 [(10, 3, .elem (AV.int IntKind.i64 (w.getD i.toNat default))), (10, 9, .elem (AV.int IntKind.i64 (w.getD i.toNat default))), (12, 4, .elem (AV.int IntKind.i64 (w.getD i.toNat default)))] []) 1000 [true, false] ⟨(atC (cd Try.f25) [1, 1, 1, 1, 0, 1, 0, 0]), [(0, AV.vec fl 2 (List.map G2.a gs)), (1, AV.vec fw 1 (List.map (AV.int IntKind.i64) w)), (7, AV.int IntKind.i64 (IntKind.i64.wrap (s + w.getD i.toNat default))), (8, AV.int IntKind.i64 (IntKind.i64.wrap (i + 1)))], [], [(decide (i < (↑(List.map (AV.int IntKind.i64) w).length : Int))) == true, decide (0 ≤ i), decide (i.toNat < (List.map (AV.int IntKind.i64) w).length), !(decide (w.getD i.toNat default > 20000000) == false && true) || decide (0 ≤ i), !(decide (w.getD i.toNat default > 20000000) == false && true) || decide (i.toNat < (List.map (AV.int IntKind.i64) w).length), (bif decide (w.getD i.toNat default > 20000000) then true else decide (w.getD i.toNat default < -20000000)) == false, decide (0 ≤ i), decide (i.toNat < (List.map (AV.int IntKind.i64) w).length)], [((List.map (AV.int IntKind.i64) w).get?Internal i.toNat = some (AV.int IntKind.i64 (w.getD i.toNat default))), ((decide (w.getD i.toNat default > 20000000) == false && true) = true → (List.map (AV.int IntKind.i64) w).get?Internal i.toNat = some (AV.int IntKind.i64 (w.getD i.toNat default))), ((List.map (AV.int IntKind.i64) w).get?Internal i.toNat = some (AV.int IntKind.i64 (w.getD i.toNat default)))], []⟩ (by kernel_rfl) (allB_cons (beq_t (i2.2 d3)) (allB_cons (i4.2 k5) (allB_cons (i6.2 k7) (allB_cons (i8.2 (fun _ => k5)) (allB_cons (i9.2 (fun _ => k7)) (allB_cons (beq_f (fun h => d12 (i11.1 h))) (allB_cons (i13.2 k5) (allB_cons (i14.2 k7) allB_nil)))))))) (allP_cons (el_map k7) (allP_cons (fun h => el_map k7) (allP_cons (el_map k7) allP_nil))) allC_nil (by rw [w16, w18] <;> exact H)
  · have H := H.2 d3
    have w19 : (List.map G2.a gs).length = gs.length := List.length_map ..
    have i20 : ((↑(List.map G2.a gs).length : Int) == 1) = true ↔ ((↑gs.length : Int) = 1) := (by rw [w19] <;> exact i_eq)
    rcases Classical.em ((↑gs.length : Int) = 1) with d21 | d21
    · have H := H.1 d21
      exact path_ret (G := given kp25 [] []) 1000 [false, true] (k := ((atC (cd Try.f25) [1, 1, 1, 1, 1, 0, 1, 0, 1])).tail) (env' := [(4, AV.int IntKind.i64 0), (5, AV.int IntKind.i64 0)]) (L' := []) (asm := [(decide (i < (↑(List.map (AV.int IntKind.i64) w).length : Int))) == false, ((↑(List.map G2.a gs).length : Int) == 1) == true]) (eqs := []) (calls := []) (AV.tup [AV.int IntKind.i64 0, AV.int IntKind.i64 0]) (by kernel_rfl) (by kernel_rfl) (allB_cons (beq_f (fun h => d3 (i2.1 h))) (allB_cons (beq_t (i20.2 d21)) allB_nil)) allP_nil allC_nil (pq_of (d := AV.tup [AV.int IntKind.i64 0, AV.int IntKind.i64 0]) (bs := []) (by kernel_rfl) (by kernel_rfl) allB_nil (by kernel_rfl) H)
    · have H := H.2 d21
      have i22 : (decide (1 < (List.map (AV.int IntKind.i64) w).length)) = true ↔ (1 < w.length) := (by rw [w1] <;> exact i_dec)
      have k23 := H.1; have H := H.2
      exact path_wp (G := given kp25 [(15, 2, .elem (AV.int IntKind.i64 (w.getD 1 default)))] []) 1000 [false, false] ⟨(atC (cd Try.f25) [1, 1, 1, 1, 1, 1, 1, 0, 1, 0, 0]), [(0, AV.vec fl 2 (List.map G2.a gs)), (1, AV.vec fw 1 (List.map (AV.int IntKind.i64) w)), (7, AV.int IntKind.i64 s), (9, AV.int IntKind.i64 (w.getD 1 default)), (10, AV.int IntKind.i64 1)], [], [(decide (i < (↑(List.map (AV.int IntKind.i64) w).length : Int))) == false, ((↑(List.map G2.a gs).length : Int) == 1) == false, true, decide (1 < (List.map (AV.int IntKind.i64) w).length)], [((List.map (AV.int IntKind.i64) w).get?Internal 1 = some (AV.int IntKind.i64 (w.getD 1 default)))], []⟩ (by kernel_rfl) (allB_cons (beq_f (fun h => d3 (i2.1 h))) (allB_cons (beq_f (fun h => d21 (i20.1 h))) (allB_cons rfl (allB_cons (i22.2 k23) allB_nil)))) (allP_cons (el_map k23) allP_nil) allC_nil (H)

theorem v25b (fl fw : Bool) (gs : List G2) (w : List Int) (s m i : Int) (dq : AV) (H :
    ((i < (↑w.length : Int)) → (0 ≤ i) ∧
      (i.toNat < w.length) ∧
      (-9223372036854775808 ≤ i + 1 ∧ i + 1 ≤ 9223372036854775807) ∧
      v25b_at (fl) (fw) (gs) (w) (s) (if w.getD i.toNat default < m then w.getD i.toNat default else m) (i + 1) (PureQ dq)) ∧
    (¬(i < (↑w.length : Int)) → (Sp.okG gs ∧ gs.length ≤ 1000 ∧ Sp.okW w ∧ w.length = gs.length) ∧
      (0 < w.length) ∧
      (-9223372036854775808 ≤ 2 * s ∧ 2 * s ≤ 9223372036854775807) ∧
      (-9223372036854775808 ≤ Sp.mst gs w - 2 * s ∧ Sp.mst gs w - 2 * s ≤ 9223372036854775807) ∧
      (-9223372036854775808 ≤ Sp.mst gs w - 2 * s + w.getD 0 default ∧ Sp.mst gs w - 2 * s + w.getD 0 default ≤ 9223372036854775807) ∧
      (-9223372036854775808 ≤ Sp.mst gs w - 2 * s + w.getD 0 default + m ∧ Sp.mst gs w - 2 * s + w.getD 0 default + m ≤ 9223372036854775807) ∧
      AV.tup [AV.int IntKind.i64 (Sp.mst gs w - 2 * s + w.getD 0 default + m), AV.int IntKind.i64 0] = dq)) :
  v25b_at fl fw gs w s m i (PureQ dq) := by
  unfold v25b_at
  have w1 : (List.map (AV.int IntKind.i64) w).length = w.length := List.length_map ..
  have i2 : (decide (i < (↑(List.map (AV.int IntKind.i64) w).length : Int))) = true ↔ (i < (↑w.length : Int)) := (by rw [w1] <;> exact i_dec)
  rcases Classical.em (i < (↑w.length : Int)) with d3 | d3
  · have H := H.1 d3
    have i4 : (decide (0 ≤ i)) = true ↔ (0 ≤ i) := i_dec
    have k5 := H.1; have H := H.2
    have i6 : (decide (i.toNat < (List.map (AV.int IntKind.i64) w).length)) = true ↔ (i.toNat < w.length) := (by rw [w1] <;> exact i_dec)
    have k7 := H.1; have H := H.2
    have k8 := H.1; have H := H.2
    have w9 : IntKind.i64.wrap (i + 1) = i + 1 := wI64 k8
    exact path_wp (G := given kp25 [(19, 4, .elem (AV.int IntKind.i64 (w.getD i.toNat default)))] []) 1000 [true] ⟨(atC (cd Try.f25) [1, 1, 1, 1, 1, 1, 1, 0, 1, 0, 0]), [(0, AV.vec fl 2 (List.map G2.a gs)), (1, AV.vec fw 1 (List.map (AV.int IntKind.i64) w)), (7, AV.int IntKind.i64 s), (9, AV.int IntKind.i64 (if w.getD i.toNat default < m then w.getD i.toNat default else m)), (10, AV.int IntKind.i64 (IntKind.i64.wrap (i + 1)))], [], [(decide (i < (↑(List.map (AV.int IntKind.i64) w).length : Int))) == true, decide (0 ≤ i), decide (i.toNat < (List.map (AV.int IntKind.i64) w).length)], [((List.map (AV.int IntKind.i64) w).get?Internal i.toNat = some (AV.int IntKind.i64 (w.getD i.toNat default)))], []⟩ (by kernel_rfl) (allB_cons (beq_t (i2.2 d3)) (allB_cons (i4.2 k5) (allB_cons (i6.2 k7) allB_nil))) (allP_cons (el_map k7) allP_nil) allC_nil (by rw [w9] <;> exact H)
  · have H := H.2 d3
    have k10 := H.1; have H := H.2
    have i11 : (decide (0 < (List.map (AV.int IntKind.i64) w).length)) = true ↔ (0 < w.length) := (by rw [w1] <;> exact i_dec)
    have k12 := H.1; have H := H.2
    have k13 := H.1; have H := H.2
    have w14 : IntKind.i64.wrap (2 * s) = 2 * s := wI64 k13
    have k15 := H.1; have H := H.2
    have w16 : IntKind.i64.wrap (Sp.mst gs w - 2 * s) = Sp.mst gs w - 2 * s := wI64 k15
    have k17 := H.1; have H := H.2
    have w18 : IntKind.i64.wrap (Sp.mst gs w - 2 * s + w.getD 0 default) = Sp.mst gs w - 2 * s + w.getD 0 default := wI64 k17
    have k19 := H.1; have H := H.2
    have w20 : IntKind.i64.wrap (Sp.mst gs w - 2 * s + w.getD 0 default + m) = Sp.mst gs w - 2 * s + w.getD 0 default + m := wI64 k19
    exact path_ret (G := given kp25 [(20, 2, .call (AV.int IntKind.i64 (Sp.mst gs w)) none), (20, 8, .elem (AV.int IntKind.i64 (w.getD 0 default)))] []) 1000 [false] (k := ((atC (cd Try.f25) [1, 1, 1, 1, 1, 1, 1, 1, 1])).tail) (env' := [(4, AV.int IntKind.i64 (IntKind.i64.wrap (IntKind.i64.wrap (IntKind.i64.wrap (Sp.mst gs w - IntKind.i64.wrap (2 * s)) + w.getD 0 default) + m))), (5, AV.int IntKind.i64 0)]) (L' := []) (asm := [(decide (i < (↑(List.map (AV.int IntKind.i64) w).length : Int))) == false, true, decide (0 < (List.map (AV.int IntKind.i64) w).length)]) (eqs := [((List.map (AV.int IntKind.i64) w).get?Internal 0 = some (AV.int IntKind.i64 (w.getD 0 default)))]) (calls := [⟨true, false, 37, [AV.vec fl 2 (List.map G2.a gs), AV.vec fw 1 (List.map (AV.int IntKind.i64) w)], [], AV.int IntKind.i64 (Sp.mst gs w), []⟩]) (AV.tup [AV.int IntKind.i64 (IntKind.i64.wrap (IntKind.i64.wrap (IntKind.i64.wrap (Sp.mst gs w - IntKind.i64.wrap (2 * s)) + w.getD 0 default) + m)), AV.int IntKind.i64 0]) (by kernel_rfl) (by kernel_rfl) (allB_cons (beq_f (fun h => d3 (i2.1 h))) (allB_cons rfl (allB_cons (i11.2 k12) allB_nil))) (allP_cons (el_map k12) allP_nil) (allC_cons (fun _ => ((@ev37 (fl) (fw) (gs) (w) k10) : Ev M1 (Conf.pure 37 [AV.vec fl 2 (List.map G2.a gs), AV.vec fw 1 (List.map (AV.int IntKind.i64) w)]) (AV.int IntKind.i64 (Sp.mst gs w)) [])) allC_nil) (pq_of (d := AV.tup [AV.int IntKind.i64 (IntKind.i64.wrap (IntKind.i64.wrap (IntKind.i64.wrap (Sp.mst gs w - IntKind.i64.wrap (2 * s)) + w.getD 0 default) + m)), AV.int IntKind.i64 0]) (bs := []) (by kernel_rfl) (by kernel_rfl) allB_nil (by kernel_rfl) (by rw [w14, w16, w18, w20] <;> exact H))

theorem v24 (fl fw : Bool) (gs : List G2) (w : List Int) (dq : AV) (H :
    (Sp.mOk 200) ∧
    ((¬Sp.checkE gs 200 = 0) → AV.tup [AV.int IntKind.i64 0, AV.int IntKind.i64 (Sp.checkE gs 200)] = dq) ∧
    (¬(¬Sp.checkE gs 200 = 0) → ((((↑gs.length : Int) = 0) ∨ (¬(↑w.length : Int) = (↑gs.length : Int))) → AV.tup [AV.int IntKind.i64 0, AV.int IntKind.i64 1] = dq) ∧
      (¬(((↑gs.length : Int) = 0) ∨ (¬(↑w.length : Int) = (↑gs.length : Int))) → v24a_at (fl) (fw) (gs) (w) (fw) (w) ((↑w.length : Int)) (0) (PureQ dq)))) :
  v24_at fl fw gs w (PureQ dq) := by
  unfold v24_at
  have k1 := H.1; have H := H.2
  have i2 : (Sp.checkE gs 200 != 0) = true ↔ (¬Sp.checkE gs 200 = 0) := i_ne
  rcases Classical.em (¬Sp.checkE gs 200 = 0) with d3 | d3
  · have H := H.1 d3
    exact path_ret (G := given kp24 [(1, 1, .call (AV.int IntKind.i64 (Sp.checkE gs 200)) none)] []) 1000 [true] (k := ((atC (cd Try.f24) [1, 0, 1, 1, 0, 1])).tail) (env' := [(4, AV.int IntKind.i64 0), (5, AV.int IntKind.i64 (Sp.checkE gs 200))]) (L' := []) (asm := [(Sp.checkE gs 200 != 0) == true]) (eqs := []) (calls := [⟨true, false, 28, [AV.vec fl 2 (List.map G2.a gs), AV.int IntKind.i64 200], [], AV.int IntKind.i64 (Sp.checkE gs 200), []⟩]) (AV.tup [AV.int IntKind.i64 0, AV.int IntKind.i64 (Sp.checkE gs 200)]) (by kernel_rfl) (by kernel_rfl) (allB_cons (beq_t (i2.2 d3)) allB_nil) allP_nil (allC_cons (fun _ => ((@ev28 (fl) (gs) (200) k1) : Ev M1 (Conf.pure 28 [AV.vec fl 2 (List.map G2.a gs), AV.int IntKind.i64 200]) (AV.int IntKind.i64 (Sp.checkE gs 200)) [])) allC_nil) (pq_of (d := AV.tup [AV.int IntKind.i64 0, AV.int IntKind.i64 (Sp.checkE gs 200)]) (bs := []) (by kernel_rfl) (by kernel_rfl) allB_nil (by kernel_rfl) H)
  · have H := H.2 d3
    have w4 : (List.map G2.a gs).length = gs.length := List.length_map ..
    have w5 : (List.map (AV.int IntKind.i64) w).length = w.length := List.length_map ..
    have i6 : (bif (↑(List.map G2.a gs).length : Int) == 0 then true else (↑(List.map (AV.int IntKind.i64) w).length : Int) != (↑(List.map G2.a gs).length : Int)) = true ↔ (((↑gs.length : Int) = 0) ∨ (¬(↑w.length : Int) = (↑gs.length : Int))) := (by rw [w4, w5] <;> exact (i_bor i_eq i_ne))
    rcases Classical.em (((↑gs.length : Int) = 0) ∨ (¬(↑w.length : Int) = (↑gs.length : Int))) with d7 | d7
    · have H := H.1 d7
      exact path_ret (G := given kp24 [(1, 1, .call (AV.int IntKind.i64 (Sp.checkE gs 200)) none)] []) 1000 [false, true] (k := ((atC (cd Try.f24) [1, 1, 0, 1, 0, 1])).tail) (env' := [(4, AV.int IntKind.i64 0), (5, AV.int IntKind.i64 1)]) (L' := []) (asm := [(Sp.checkE gs 200 != 0) == false, (bif (↑(List.map G2.a gs).length : Int) == 0 then true else (↑(List.map (AV.int IntKind.i64) w).length : Int) != (↑(List.map G2.a gs).length : Int)) == true]) (eqs := []) (calls := [⟨true, false, 28, [AV.vec fl 2 (List.map G2.a gs), AV.int IntKind.i64 200], [], AV.int IntKind.i64 (Sp.checkE gs 200), []⟩]) (AV.tup [AV.int IntKind.i64 0, AV.int IntKind.i64 1]) (by kernel_rfl) (by kernel_rfl) (allB_cons (beq_f (fun h => d3 (i2.1 h))) (allB_cons (beq_t (i6.2 d7)) allB_nil)) allP_nil (allC_cons (fun _ => ((@ev28 (fl) (gs) (200) k1) : Ev M1 (Conf.pure 28 [AV.vec fl 2 (List.map G2.a gs), AV.int IntKind.i64 200]) (AV.int IntKind.i64 (Sp.checkE gs 200)) [])) allC_nil) (pq_of (d := AV.tup [AV.int IntKind.i64 0, AV.int IntKind.i64 1]) (bs := []) (by kernel_rfl) (by kernel_rfl) allB_nil (by kernel_rfl) H)
    · have H := H.2 d7
      exact path_wp (G := given kp24 [(1, 1, .call (AV.int IntKind.i64 (Sp.checkE gs 200)) none)] []) 1000 [false, false] ⟨(atC (cd Try.f24) [1, 1, 1, 0, 1, 0, 0]), [(0, AV.vec fl 2 (List.map G2.a gs)), (1, AV.vec fw 1 (List.map (AV.int IntKind.i64) w)), (26, AV.vec fw 1 (List.map (AV.int IntKind.i64) w)), (27, AV.int IntKind.i64 (↑(List.map (AV.int IntKind.i64) w).length : Int)), (28, AV.int IntKind.i64 0)], [], [(Sp.checkE gs 200 != 0) == false, (bif (↑(List.map G2.a gs).length : Int) == 0 then true else (↑(List.map (AV.int IntKind.i64) w).length : Int) != (↑(List.map G2.a gs).length : Int)) == false], [], [⟨true, false, 28, [AV.vec fl 2 (List.map G2.a gs), AV.int IntKind.i64 200], [], AV.int IntKind.i64 (Sp.checkE gs 200), []⟩]⟩ (by kernel_rfl) (allB_cons (beq_f (fun h => d3 (i2.1 h))) (allB_cons (beq_f (fun h => d7 (i6.1 h))) allB_nil)) allP_nil (allC_cons (fun _ => ((@ev28 (fl) (gs) (200) k1) : Ev M1 (Conf.pure 28 [AV.vec fl 2 (List.map G2.a gs), AV.int IntKind.i64 200]) (AV.int IntKind.i64 (Sp.checkE gs 200)) [])) allC_nil) (by rw [w5] <;> exact H)

theorem v25 (fl fw : Bool) (gs : List G2) (w : List Int) (dq : AV) (H :
    (Sp.mOk 200) ∧
    ((¬Sp.checkE gs 200 = 0) → AV.tup [AV.int IntKind.i64 0, AV.int IntKind.i64 (Sp.checkE gs 200)] = dq) ∧
    (¬(¬Sp.checkE gs 200 = 0) → ((((↑gs.length : Int) = 0) ∨ (¬(↑w.length : Int) = (↑gs.length : Int))) → AV.tup [AV.int IntKind.i64 0, AV.int IntKind.i64 1] = dq) ∧
      (¬(((↑gs.length : Int) = 0) ∨ (¬(↑w.length : Int) = (↑gs.length : Int))) → v25a_at (fl) (fw) (gs) (w) (0) (0) (PureQ dq)))) :
  v25_at fl fw gs w (PureQ dq) := by
  unfold v25_at
  have k1 := H.1; have H := H.2
  have i2 : (Sp.checkE gs 200 != 0) = true ↔ (¬Sp.checkE gs 200 = 0) := i_ne
  rcases Classical.em (¬Sp.checkE gs 200 = 0) with d3 | d3
  · have H := H.1 d3
    exact path_ret (G := given kp25 [(1, 1, .call (AV.int IntKind.i64 (Sp.checkE gs 200)) none)] []) 1000 [true] (k := ((atC (cd Try.f25) [1, 0, 1, 1, 0, 1])).tail) (env' := [(4, AV.int IntKind.i64 0), (5, AV.int IntKind.i64 (Sp.checkE gs 200))]) (L' := []) (asm := [(Sp.checkE gs 200 != 0) == true]) (eqs := []) (calls := [⟨true, false, 31, [AV.vec fl 2 (List.map G2.a gs), AV.int IntKind.i64 200], [], AV.int IntKind.i64 (Sp.checkE gs 200), []⟩]) (AV.tup [AV.int IntKind.i64 0, AV.int IntKind.i64 (Sp.checkE gs 200)]) (by kernel_rfl) (by kernel_rfl) (allB_cons (beq_t (i2.2 d3)) allB_nil) allP_nil (allC_cons (fun _ => ((@ev31 (fl) (gs) (200) k1) : Ev M1 (Conf.pure 31 [AV.vec fl 2 (List.map G2.a gs), AV.int IntKind.i64 200]) (AV.int IntKind.i64 (Sp.checkE gs 200)) [])) allC_nil) (pq_of (d := AV.tup [AV.int IntKind.i64 0, AV.int IntKind.i64 (Sp.checkE gs 200)]) (bs := []) (by kernel_rfl) (by kernel_rfl) allB_nil (by kernel_rfl) H)
  · have H := H.2 d3
    have w4 : (List.map G2.a gs).length = gs.length := List.length_map ..
    have w5 : (List.map (AV.int IntKind.i64) w).length = w.length := List.length_map ..
    have i6 : (bif (↑(List.map G2.a gs).length : Int) == 0 then true else (↑(List.map (AV.int IntKind.i64) w).length : Int) != (↑(List.map G2.a gs).length : Int)) = true ↔ (((↑gs.length : Int) = 0) ∨ (¬(↑w.length : Int) = (↑gs.length : Int))) := (by rw [w4, w5] <;> exact (i_bor i_eq i_ne))
    rcases Classical.em (((↑gs.length : Int) = 0) ∨ (¬(↑w.length : Int) = (↑gs.length : Int))) with d7 | d7
    · have H := H.1 d7
      exact path_ret (G := given kp25 [(1, 1, .call (AV.int IntKind.i64 (Sp.checkE gs 200)) none)] []) 1000 [false, true] (k := ((atC (cd Try.f25) [1, 1, 0, 1, 0, 1])).tail) (env' := [(4, AV.int IntKind.i64 0), (5, AV.int IntKind.i64 1)]) (L' := []) (asm := [(Sp.checkE gs 200 != 0) == false, (bif (↑(List.map G2.a gs).length : Int) == 0 then true else (↑(List.map (AV.int IntKind.i64) w).length : Int) != (↑(List.map G2.a gs).length : Int)) == true]) (eqs := []) (calls := [⟨true, false, 31, [AV.vec fl 2 (List.map G2.a gs), AV.int IntKind.i64 200], [], AV.int IntKind.i64 (Sp.checkE gs 200), []⟩]) (AV.tup [AV.int IntKind.i64 0, AV.int IntKind.i64 1]) (by kernel_rfl) (by kernel_rfl) (allB_cons (beq_f (fun h => d3 (i2.1 h))) (allB_cons (beq_t (i6.2 d7)) allB_nil)) allP_nil (allC_cons (fun _ => ((@ev31 (fl) (gs) (200) k1) : Ev M1 (Conf.pure 31 [AV.vec fl 2 (List.map G2.a gs), AV.int IntKind.i64 200]) (AV.int IntKind.i64 (Sp.checkE gs 200)) [])) allC_nil) (pq_of (d := AV.tup [AV.int IntKind.i64 0, AV.int IntKind.i64 1]) (bs := []) (by kernel_rfl) (by kernel_rfl) allB_nil (by kernel_rfl) H)
    · have H := H.2 d7
      exact path_wp (G := given kp25 [(1, 1, .call (AV.int IntKind.i64 (Sp.checkE gs 200)) none)] []) 1000 [false, false] ⟨(atC (cd Try.f25) [1, 1, 1, 1, 0, 1, 0, 0]), [(0, AV.vec fl 2 (List.map G2.a gs)), (1, AV.vec fw 1 (List.map (AV.int IntKind.i64) w)), (7, AV.int IntKind.i64 0), (8, AV.int IntKind.i64 0)], [], [(Sp.checkE gs 200 != 0) == false, (bif (↑(List.map G2.a gs).length : Int) == 0 then true else (↑(List.map (AV.int IntKind.i64) w).length : Int) != (↑(List.map G2.a gs).length : Int)) == false], [], [⟨true, false, 31, [AV.vec fl 2 (List.map G2.a gs), AV.int IntKind.i64 200], [], AV.int IntKind.i64 (Sp.checkE gs 200), []⟩]⟩ (by kernel_rfl) (allB_cons (beq_f (fun h => d3 (i2.1 h))) (allB_cons (beq_f (fun h => d7 (i6.1 h))) allB_nil)) allP_nil (allC_cons (fun _ => ((@ev31 (fl) (gs) (200) k1) : Ev M1 (Conf.pure 31 [AV.vec fl 2 (List.map G2.a gs), AV.int IntKind.i64 200]) (AV.int IntKind.i64 (Sp.checkE gs 200)) [])) allC_nil) (H)


end Go.Av

/- WHAT Bound ANSWERS. -/
namespace Go.Av
open Go.Proofs

namespace Sp
def badW (x : Int) : Bool := decide (x > 20000000) || decide (x < -20000000)
def boundE (gs : List G2) (w : List Int) : Int :=
  if checkE gs 200 = 0 then (if (gs.length : Int) = 0 ∨ ¬(w.length : Int) = gs.length then 1 else if w.any badW = true then 11 else 0) else checkE gs 200
noncomputable def boundR (gs : List G2) (w : List Int) : Int := if boundE gs w = 0 ∧ ¬(gs.length : Int) < 2 then boundV gs w else 0
end Sp

theorem any_okW {w : List Int} (h : ¬w.any Sp.badW = true) : Sp.okW w := by
  intro x hx
  have hb : ¬Sp.badW x = true := fun k => h (List.any_eq_true.2 ⟨x, hx, k⟩)
  simp only [Sp.badW, Bool.or_eq_true, decide_eq_true_eq, not_or] at hb
  omega

theorem boundE_facts {gs : List G2} {w : List Int} (h : Sp.boundE gs w = 0) : Sp.okG gs ∧ gs.length ≤ 200 ∧ 0 < gs.length ∧ w.length = gs.length ∧ Sp.okW w := by
  unfold Sp.boundE at h
  split at h
  · rename_i hc
    split at h
    · simp at h
    · rename_i h2
      split at h
      · simp at h
      · rename_i h3
        obtain ⟨c1, c2⟩ := check_okG hc
        exact ⟨c1, by omega, by omega, by omega, any_okW h3⟩
  · rename_i hc; exact absurd h hc

theorem badW_iff {x : Int} : Sp.badW x = true ↔ (x > 20000000 ∨ x < -20000000) := by
  simp only [Sp.badW, Bool.or_eq_true, decide_eq_true_eq]

theorem loop24 {fl fw fx : Bool} {gs : List G2} {w x : List Int} {dq : AV} (hg : Sp.okG gs) (hl : gs.length ≤ 1000) (hwl : w.length = gs.length) (hxl : x.length ≤ 1000)
    (hq0 : ¬x.any Sp.badW = true → Sp.okW w ∧ AV.tup [.int .i64 (if (gs.length : Int) < 2 then 0 else Sp.boundV gs w), .int .i64 0] = dq) (hq1 : x.any Sp.badW = true → AV.tup [.int .i64 0, .int .i64 11] = dq) :
    ∀ (k i : Nat), i + k = x.length → (∀ j : Nat, j < i → ¬Sp.badW (x.getD j default) = true) → v24a_at fl fw gs w fx x x.length i (PureQ dq) := by
  intro k
  induction k with
  | zero =>
    intro i hi hp
    have hn : ¬x.any Sp.badW = true := by
      intro h
      obtain ⟨y, hy, hb⟩ := List.any_eq_true.1 h
      obtain ⟨j, hj, rfl⟩ := mem_getD hy
      exact hp j (by omega) hb
    obtain ⟨hw, hq⟩ := hq0 hn
    exact v24a _ _ _ _ _ _ _ _ _ ⟨fun h => by omega, fun _ => ⟨⟨hg, hl, hw, hwl⟩, hq⟩⟩
  | succ k ih =>
    intro i hi hp
    refine v24a _ _ _ _ _ _ _ _ _ ⟨fun _ => ⟨by omega, by omega, fun h => ?_, fun h => ⟨by omega, ih (i + 1) (by omega) ?_⟩⟩, fun h => by omega⟩
    · rw [Int.toNat_natCast] at h
      exact hq1 (List.any_eq_true.2 ⟨_, getD_mem (show i < x.length by omega), badW_iff.2 h⟩)
    · rw [Int.toNat_natCast] at h
      intro j hj
      by_cases hji : j = i
      · subst hji; exact fun k => h (badW_iff.1 k)
      · exact hp j (by omega)

theorem ev24 (fl fw : Bool) (gs : List G2) (w : List Int) : Ev M1 (.pure 24 [gsA fl gs, isA fw w]) (.tup [.int .i64 (Sp.boundR gs w), .int .i64 (Sp.boundE gs w)]) [] := by
  refine call24 (v24 fl fw gs w _ ⟨by simp [Sp.mOk], fun h => ?_, fun h => ⟨fun k => ?_, fun k => ?_⟩⟩)
  · have e : Sp.boundE gs w = Sp.checkE gs 200 := if_neg h
    rw [Sp.boundR, e, if_neg (fun x => h x.1)]
  · have h := Classical.not_not.1 h
    have e : Sp.boundE gs w = 1 := by rw [Sp.boundE, if_pos h, if_pos k]
    rw [Sp.boundR, e, if_neg (by simp)]
  · have h := Classical.not_not.1 h
    obtain ⟨c1, c2⟩ := check_okG h
    refine loop24 c1 (by omega) (by omega) (by omega) (fun hw => ⟨any_okW hw, ?_⟩) (fun hw => ?_) _ 0 (Nat.zero_add _) (fun j hj => by omega)
    · have e : Sp.boundE gs w = 0 := by rw [Sp.boundE, if_pos h, if_neg k, if_neg hw]
      rw [Sp.boundR, e]
      by_cases h2 : (gs.length : Int) < 2
      · rw [if_pos h2, if_neg (fun x => x.2 h2)]
      · rw [if_neg h2, if_pos ⟨rfl, h2⟩]
    · have e : Sp.boundE gs w = 11 := by rw [Sp.boundE, if_pos h, if_neg k, if_pos hw]
      rw [Sp.boundR, e, if_neg (by simp)]

theorem loop25b {fl fw : Bool} {gs : List G2} {w : List Int} {s : Int} {dq : AV} (hg : Sp.okG gs) (hl : gs.length ≤ 1000) (hw : Sp.okW w) (hwl : w.length = gs.length) (h2 : 2 ≤ gs.length) (hs : s = w.sum) (hq : AV.tup [.int .i64 (Sp.boundV gs w), .int .i64 0] = dq) :
    ∀ (k i : Nat) (m : Int), i + k = w.length → (-20000000 ≤ m ∧ m ≤ 20000000) → (w.drop i).foldl (fun m x => if x < m then x else m) m = Sp.minL (w.drop 1) → v25b_at fl fw gs w s m i (PureQ dq) := by
  intro k
  induction k with
  | zero =>
    intro i m hi hm he
    rw [List.drop_eq_nil_of_le (by omega), List.foldl_nil] at he
    have h1 := mst_le hg hl hw
    have h2 := okW_sum hw
    have h3 := okW_at hw 0
    refine v25b _ _ _ _ _ _ _ _ ⟨fun h => by omega, fun _ => ⟨⟨hg, hl, hw, hwl⟩, by omega, by omega, by omega, by omega, by omega, ?_⟩⟩
    rw [he, hs]; exact hq
  | succ k ih =>
    intro i m hi hm he
    rw [drop_getD (show i < w.length by omega), List.foldl_cons] at he
    have h1 := okW_at hw i
    refine v25b _ _ _ _ _ _ _ _ ⟨fun _ => ?_, fun h => by omega⟩
    rw [Int.toNat_natCast]
    refine ⟨by omega, by omega, by omega, ih (i + 1) _ (by omega) ?_ he⟩
    split <;> omega

theorem loop25a {fl fw : Bool} {gs : List G2} {w : List Int} {dq : AV} (hg : Sp.okG gs) (hl : gs.length ≤ 1000) (hwl : w.length = gs.length) (h0 : 0 < gs.length)
    (hq0 : ¬w.any Sp.badW = true → AV.tup [.int .i64 (if (gs.length : Int) < 2 then 0 else Sp.boundV gs w), .int .i64 0] = dq) (hq1 : w.any Sp.badW = true → AV.tup [.int .i64 0, .int .i64 11] = dq) :
    ∀ (k i : Nat) (s : Int), i + k = w.length → s + (w.drop i).sum = w.sum → (-20000000 * (i : Int) ≤ s ∧ s ≤ 20000000 * (i : Int)) → (∀ j : Nat, j < i → ¬Sp.badW (w.getD j default) = true) → v25a_at fl fw gs w s i (PureQ dq) := by
  intro k
  induction k with
  | zero =>
    intro i s hi hs hb hp
    rw [List.drop_eq_nil_of_le (by omega), List.sum_nil, Int.add_zero] at hs
    have hn : ¬w.any Sp.badW = true := by
      intro h
      obtain ⟨y, hy, hb⟩ := List.any_eq_true.1 h
      obtain ⟨j, hj, rfl⟩ := mem_getD hy
      exact hp j (by omega) hb
    have hw := any_okW hn
    have hq := hq0 hn
    refine v25a _ _ _ _ _ _ _ ⟨fun h => by omega, fun _ => ⟨fun h1 => ?_, fun h1 => ⟨by omega, ?_⟩⟩⟩
    · rw [if_pos (by omega)] at hq; exact hq
    · rw [if_neg (by omega)] at hq
      refine loop25b hg hl hw hwl (by omega) hs hq (w.length - 1) 1 _ (by omega) (okW_at hw 1) ?_
      unfold Sp.minL
      rw [drop_getD (show 1 < w.length by omega)]
      simp
  | succ k ih =>
    intro i s hi hs hb hp
    rw [drop_getD (show i < w.length by omega), List.sum_cons] at hs
    refine v25a _ _ _ _ _ _ _ ⟨fun _ => ?_, fun h => by omega⟩
    rw [Int.toNat_natCast]
    refine ⟨by omega, by omega, fun h => ?_, fun h => ?_⟩
    · exact hq1 (List.any_eq_true.2 ⟨_, getD_mem (show i < w.length by omega), badW_iff.2 h⟩)
    · refine ⟨by omega, by omega, ih (i + 1) _ (by omega) (by omega) (by omega) ?_⟩
      intro j hj
      by_cases hji : j = i
      · subst hji; exact fun k => h (badW_iff.1 k)
      · exact hp j (by omega)

theorem ev25 (fl fw : Bool) (gs : List G2) (w : List Int) : Ev M1 (.pure 25 [gsA fl gs, isA fw w]) (.tup [.int .i64 (Sp.boundR gs w), .int .i64 (Sp.boundE gs w)]) [] := by
  refine call25 (v25 fl fw gs w _ ⟨by simp [Sp.mOk], fun h => ?_, fun h => ⟨fun k => ?_, fun k => ?_⟩⟩)
  · have e : Sp.boundE gs w = Sp.checkE gs 200 := if_neg h
    rw [Sp.boundR, e, if_neg (fun x => h x.1)]
  · have h := Classical.not_not.1 h
    have e : Sp.boundE gs w = 1 := by rw [Sp.boundE, if_pos h, if_pos k]
    rw [Sp.boundR, e, if_neg (by simp)]
  · have h := Classical.not_not.1 h
    obtain ⟨c1, c2⟩ := check_okG h
    refine loop25a c1 (by omega) (by omega) (by omega) (fun hw => ?_) (fun hw => ?_) w.length 0 0 (Nat.zero_add _) (by simp) (by omega) (fun j hj => by omega)
    · have e : Sp.boundE gs w = 0 := by rw [Sp.boundE, if_pos h, if_neg k, if_neg hw]
      rw [Sp.boundR, e]
      by_cases h2 : (gs.length : Int) < 2
      · rw [if_pos h2, if_neg (fun x => x.2 h2)]
      · rw [if_neg h2, if_pos ⟨rfl, h2⟩]
    · have e : Sp.boundE gs w = 11 := by rw [Sp.boundE, if_pos h, if_neg k, if_pos hw]
      rw [Sp.boundR, e, if_neg (by simp)]
end Go.Av

/- PATHS, written by a program of the prover's. -/
namespace Go.Av
open Go.Proofs
set_option maxRecDepth 100000
def fi19 : Fi := ⟨68, [.tmp 2]⟩
def kp19 : List (Nat × List Nat) := [(0, [0]), (1, [0, 3]), (2, [0, 3, 10]), (3, [0, 3, 4]), (4, [0, 3, 4, 5]), (5, [0, 3, 4, 5, 14]), (6, [0, 3, 4, 5]), (7, [0, 3, 4, 5, 28]), (8, [0, 3, 4, 5, 61]), (9, [0, 3, 4, 5]), (10, [0, 3]), (11, [2])]
def v19_at (fl : Bool) (gs : List G2) (Q : AV → Heap → Prop) : Prop := Wp M1 (.run fi19 (atC (cd Try.f19) []) [(0, .vec fl 2 (gs.map G2.a))] []) Q
def v19z_at (fl : Bool) (gs : List G2) (Q : AV → Heap → Prop) : Prop := Wp M1 (.run fi19 (atC (cd Try.f19) [1, 1, 0, 0, 0]) [(0, .vec fl 2 (gs.map G2.a)), (3, .vnil)] []) Q
def v19x_at (fl : Bool) (gs : List G2) (Q : AV → Heap → Prop) : Prop := Wp M1 (.run fi19 (atC (cd Try.f19) [1, 1, 0, 0, 0, 1, 0, 1, 0, 1, 0, 0]) [(0, .vec fl 2 (gs.map G2.a)), (3, .vnil), (4, .int .i64 (-1)), (5, .int .i64 0)] []) Q
def v19y_at (fl : Bool) (gs : List G2) (b i : Int) (Q : AV → Heap → Prop) : Prop := Wp M1 (.run fi19 (atC (cd Try.f19) [1, 1, 0, 0, 0, 1, 0, 1, 0, 1, 0, 0]) [(0, .vec fl 2 (gs.map G2.a)), (3, .vnil), (4, .int .i64 b), (5, .int .i64 i)] []) Q
def v19a_at (fl : Bool) (gs : List G2) (o : List Int) (v : Nat) (Q : AV → Heap → Prop) : Prop := Wp M1 (.run fi19 (atC (cd Try.f19) [1, 1, 0, 0, 0]) [(0, .vec fl 2 (gs.map G2.a)), (3, .row 0 v)] [⟨o.map (.int .i64), 1, v, false, true⟩]) Q
def v19b_at (fl : Bool) (gs : List G2) (o : List Int) (v : Nat) (b i : Int) (Q : AV → Heap → Prop) : Prop := Wp M1 (.run fi19 (atC (cd Try.f19) [1, 1, 0, 0, 0, 1, 0, 1, 0, 1, 0, 0]) [(0, .vec fl 2 (gs.map G2.a)), (3, .row 0 v), (4, .int .i64 b), (5, .int .i64 i)] [⟨o.map (.int .i64), 1, v, false, true⟩]) Q
theorem call19 {args : List AV} {d : AV} (h : Wp M1 (.run fi19 [.code (cd Try.f19)] (argVars 0 args) []) (PureQ d)) : Ev M1 (.pure 19 args) d [] :=
  pure_pq Try.f19 fi19 (by kernel_rfl) (by kernel_rfl) (by kernel_rfl) (by kernel_rfl) h
theorem owncall19 {args : List AV} {L : Heap} {Q : AV → Heap → Prop} (h : Wp M1 (.run fi19 [.code (cd Try.f19)] (argVars 0 args) L) Q) : Wp M1 (.own 19 args L) Q :=
  own_wp Try.f19 fi19 (by kernel_rfl) (by kernel_rfl) (by kernel_rfl) (by kernel_rfl) h
theorem keepcall19 {args : List AV} {L : Heap} {v : AV} {K : Heap} (hk : keepOk L.length v K = true) (h : Wp M1 (.run fi19 [.code (cd Try.f19)] (argVars 0 args) L) (KeepQ v K)) : Ev M1 (.own 19 args L) v K :=
  own_keep Try.f19 fi19 (by kernel_rfl) (by kernel_rfl) (by kernel_rfl) (by kernel_rfl) hk h
theorem v19 (fl : Bool) (gs : List G2) (dq : AV) (H :
    v19z_at (fl) (gs) (PureQ dq)) :
  v19_at fl gs (PureQ dq) := by
  unfold v19_at
  exact path_wp (G := given kp19 [] []) 1000 [] ⟨(atC (cd Try.f19) [1, 1, 0, 0, 0]), [(0, AV.vec fl 2 (List.map G2.a gs)), (3, AV.vnil)], [], [], [], []⟩ (by kernel_rfl) allB_nil allP_nil allC_nil (H)

theorem v19z (fl : Bool) (gs : List G2) (dq : AV) (H :
    ((0 < (↑gs.length : Int)) → v19x_at (fl) (gs) (PureQ dq)) ∧
    (¬(0 < (↑gs.length : Int)) → Weak (AV.vnil) dq)) :
  v19z_at fl gs (PureQ dq) := by
  unfold v19z_at
  have w1 : (List.map G2.a gs).length = gs.length := List.length_map ..
  have i2 : (decide (0 < (↑(List.map G2.a gs).length : Int))) = true ↔ (0 < (↑gs.length : Int)) := (by rw [w1] <;> exact i_dec)
  rcases Classical.em (0 < (↑gs.length : Int)) with d3 | d3
  · have H := H.1 d3
    exact path_wp (G := given kp19 [] []) 1000 [true] ⟨(atC (cd Try.f19) [1, 1, 0, 0, 0, 1, 0, 1, 0, 1, 0, 0]), [(0, AV.vec fl 2 (List.map G2.a gs)), (3, AV.vnil), (4, AV.int IntKind.i64 (-1)), (5, AV.int IntKind.i64 0)], [], [(decide (0 < (↑(List.map G2.a gs).length : Int))) == true], [], []⟩ (by kernel_rfl) (allB_cons (beq_t (i2.2 d3)) allB_nil) allP_nil allC_nil (H)
  · have H := H.2 d3
    exact path_ret (G := given kp19 [] []) 1000 [false] (k := ((atC (cd Try.f19) [1, 1, 1, 1])).tail) (env' := [(2, AV.vnil)]) (L' := []) (asm := [(decide (0 < (↑(List.map G2.a gs).length : Int))) == false]) (eqs := []) (calls := []) (AV.vnil) (by kernel_rfl) (by kernel_rfl) (allB_cons (beq_f (fun h => d3 (i2.1 h))) allB_nil) allP_nil allC_nil (pq_weak (d := AV.vnil) (bs := []) (by kernel_rfl) (by kernel_rfl) allB_nil (by kernel_rfl) H)

theorem v19x (fl : Bool) (gs : List G2) (dq : AV) (H :
    ((0 < (↑gs.length : Int)) → ((false = true) → (0 < gs.length)) ∧
      v19y_at (fl) (gs) (0) (1) (PureQ dq)) ∧
    (¬(0 < (↑gs.length : Int)) → v19a_at (fl) (gs) ([-1]) (0) (PureQ dq))) :
  v19x_at fl gs (PureQ dq) := by
  unfold v19x_at
  have w1 : (List.map G2.a gs).length = gs.length := List.length_map ..
  have i2 : (decide (0 < (↑(List.map G2.a gs).length : Int))) = true ↔ (0 < (↑gs.length : Int)) := (by rw [w1] <;> exact i_dec)
  rcases Classical.em (0 < (↑gs.length : Int)) with d3 | d3
  · have H := H.1 d3
    have i4 : (false) = true ↔ (false = true) := (i_var _)
    have k5 := H.1; have H := H.2
    have i6 : (false) = true ↔ (false = true) := (i_var _)
    exact path_wp (G := given kp19 [(7, 2, .call (AV.bool false) none), (8, 15, .elem (AV.agg [AV.int IntKind.i64 (gs.getD 0 default).x, AV.int IntKind.i64 (gs.getD 0 default).y])), (8, 29, .elem (AV.agg [AV.int IntKind.i64 (gs.getD 0 default).x, AV.int IntKind.i64 (gs.getD 0 default).y]))] []) 1000 [true, false, true] ⟨(atC (cd Try.f19) [1, 1, 0, 0, 0, 1, 0, 1, 0, 1, 0, 0]), [(0, AV.vec fl 2 (List.map G2.a gs)), (3, AV.vnil), (4, AV.int IntKind.i64 0), (5, AV.int IntKind.i64 1)], [], [(decide (0 < (↑(List.map G2.a gs).length : Int))) == true, false == false, true, true, true, true, true == true], [(false = true → (List.map G2.a gs).get?Internal 0 = some (AV.agg [AV.int IntKind.i64 (gs.getD 0 default).x, AV.int IntKind.i64 (gs.getD 0 default).y])), (false = true → (List.map G2.a gs).get?Internal 0 = some (AV.agg [AV.int IntKind.i64 (gs.getD 0 default).x, AV.int IntKind.i64 (gs.getD 0 default).y]))], [⟨true, false, 35, [AV.vnil, AV.int IntKind.i64 0], [], AV.bool false, []⟩]⟩ (by kernel_rfl) (allB_cons (beq_t (i2.2 d3)) (allB_cons rfl (allB_cons rfl (allB_cons rfl (allB_cons rfl (allB_cons rfl (allB_cons rfl allB_nil))))))) (allP_cons (fun h => el_map (k5 (i4.1 h))) (allP_cons (fun h => el_map (k5 (i6.1 h))) allP_nil)) (allC_cons (fun _ => ((@ev35_a (0)) : Ev M1 (Conf.pure 35 [AV.vnil, AV.int IntKind.i64 0]) (AV.bool false) [])) allC_nil) (H)
  · have H := H.2 d3
    have w7 : [AV.int IntKind.i64 (-1)] = List.map (AV.int IntKind.i64) [-1] := rfl
    exact path_wp (G := given kp19 [] []) 1000 [false] ⟨(atC (cd Try.f19) [1, 1, 0, 0, 0]), [(0, AV.vec fl 2 (List.map G2.a gs)), (3, AV.row 0 0)], [{ elems := [AV.int IntKind.i64 (-1)], es := 1, ver := 0, frozen := false, clean := true }], [(decide (0 < (↑(List.map G2.a gs).length : Int))) == false, true], [], []⟩ (by kernel_rfl) (allB_cons (beq_f (fun h => d3 (i2.1 h))) (allB_cons rfl allB_nil)) allP_nil allC_nil (by rw [w7] <;> exact H)

theorem v19y (fl : Bool) (gs : List G2) (b i : Int) (dq : AV) (H :
    ((i < (↑gs.length : Int)) → ((i > 0) → (-9223372036854775808 ≤ i + 1 ∧ i + 1 ≤ 9223372036854775807) ∧
        v19y_at (fl) (gs) (b) (i + 1) (PureQ dq)) ∧
      (¬(i > 0) → False)) ∧
    (¬(i < (↑gs.length : Int)) → v19a_at (fl) (gs) ([b]) (0) (PureQ dq))) :
  v19y_at fl gs b i (PureQ dq) := by
  unfold v19y_at
  have w1 : (List.map G2.a gs).length = gs.length := List.length_map ..
  have i2 : (decide (i < (↑(List.map G2.a gs).length : Int))) = true ↔ (i < (↑gs.length : Int)) := (by rw [w1] <;> exact i_dec)
  rcases Classical.em (i < (↑gs.length : Int)) with d3 | d3
  · have H := H.1 d3
    have i4 : (decide (i > 0)) = true ↔ (i > 0) := i_dec
    rcases Classical.em (i > 0) with d5 | d5
    · have H := H.1 d5
      have k6 := H.1; have H := H.2
      have w7 : IntKind.i64.wrap (i + 1) = i + 1 := wI64 k6
      exact path_wp (G := given kp19 [(7, 2, .call (AV.bool false) none)] []) 1000 [true, true] ⟨(atC (cd Try.f19) [1, 1, 0, 0, 0, 1, 0, 1, 0, 1, 0, 0]), [(0, AV.vec fl 2 (List.map G2.a gs)), (3, AV.vnil), (4, AV.int IntKind.i64 b), (5, AV.int IntKind.i64 (IntKind.i64.wrap (i + 1)))], [], [(decide (i < (↑(List.map G2.a gs).length : Int))) == true, (decide (i > 0)) == true], [], [⟨true, false, 35, [AV.vnil, AV.int IntKind.i64 i], [], AV.bool false, []⟩]⟩ (by kernel_rfl) (allB_cons (beq_t (i2.2 d3)) (allB_cons (beq_t (i4.2 d5)) allB_nil)) allP_nil (allC_cons (fun _ => ((@ev35_a (i)) : Ev M1 (Conf.pure 35 [AV.vnil, AV.int IntKind.i64 i]) (AV.bool false) [])) allC_nil) (by rw [w7] <;> exact H)
    · have H := H.2 d5
      exact False.elim H
  · have H := H.2 d3
    have w8 : [AV.int IntKind.i64 b] = List.map (AV.int IntKind.i64) [b] := rfl
    exact path_wp (G := given kp19 [] []) 1000 [false] ⟨(atC (cd Try.f19) [1, 1, 0, 0, 0]), [(0, AV.vec fl 2 (List.map G2.a gs)), (3, AV.row 0 0)], [{ elems := [AV.int IntKind.i64 b], es := 1, ver := 0, frozen := false, clean := true }], [(decide (i < (↑(List.map G2.a gs).length : Int))) == false, true], [], []⟩ (by kernel_rfl) (allB_cons (beq_f (fun h => d3 (i2.1 h))) (allB_cons rfl allB_nil)) allP_nil allC_nil (by rw [w8] <;> exact H)

theorem v19a (fl : Bool) (gs : List G2) (o : List Int) (v : Nat) (dq : AV) (H :
    (((↑o.length : Int) < (↑gs.length : Int)) → v19b_at (fl) (gs) (o) (v) (-1) (0) (PureQ dq)) ∧
    (¬((↑o.length : Int) < (↑gs.length : Int)) → Weak (AV.vec false 1 (List.map (AV.int IntKind.i64) o)) dq)) :
  v19a_at fl gs o v (PureQ dq) := by
  unfold v19a_at
  have w1 : (List.map (AV.int IntKind.i64) o).length = o.length := List.length_map ..
  have w2 : (List.map G2.a gs).length = gs.length := List.length_map ..
  have i3 : (decide ((↑(List.map (AV.int IntKind.i64) o).length : Int) < (↑(List.map G2.a gs).length : Int))) = true ↔ ((↑o.length : Int) < (↑gs.length : Int)) := (by rw [w1, w2] <;> exact i_dec)
  rcases Classical.em ((↑o.length : Int) < (↑gs.length : Int)) with d4 | d4
  · have H := H.1 d4
    exact path_wp (G := given kp19 [] []) 1000 [true] ⟨(atC (cd Try.f19) [1, 1, 0, 0, 0, 1, 0, 1, 0, 1, 0, 0]), [(0, AV.vec fl 2 (List.map G2.a gs)), (3, AV.row 0 v), (4, AV.int IntKind.i64 (-1)), (5, AV.int IntKind.i64 0)], [{ elems := List.map (AV.int IntKind.i64) o, es := 1, ver := v, frozen := false, clean := true }], [v == v, (decide ((↑(List.map (AV.int IntKind.i64) o).length : Int) < (↑(List.map G2.a gs).length : Int))) == true], [], []⟩ (by kernel_rfl) (allB_cons (beq_self_eq_true _) (allB_cons (beq_t (i3.2 d4)) allB_nil)) allP_nil allC_nil (H)
  · have H := H.2 d4
    exact path_ret (G := given kp19 [] []) 1000 [false] (k := ((atC (cd Try.f19) [1, 1, 1, 1])).tail) (env' := [(2, AV.row 0 v)]) (L' := [{ elems := List.map (AV.int IntKind.i64) o, es := 1, ver := v, frozen := false, clean := true }]) (asm := [v == v, (decide ((↑(List.map (AV.int IntKind.i64) o).length : Int) < (↑(List.map G2.a gs).length : Int))) == false]) (eqs := []) (calls := []) (AV.row 0 v) (by kernel_rfl) (by kernel_rfl) (allB_cons (beq_self_eq_true _) (allB_cons (beq_f (fun h => d4 (i3.1 h))) allB_nil)) allP_nil allC_nil (pq_weak (d := AV.vec false 1 (List.map (AV.int IntKind.i64) o)) (bs := [v == v]) (by kernel_rfl) (by kernel_rfl) (allB_cons (beq_self_eq_true _) allB_nil) (by kernel_rfl) H)

theorem v19b (fl : Bool) (gs : List G2) (o : List Int) (v : Nat) (b i : Int) (dq : AV) (H :
    ((i < (↑gs.length : Int)) → (o.length ≤ 1000000) ∧
      (((Sp.has o i = true) ∨ (((↑o.length : Int) = 0) ∧ (i > 0))) → (-9223372036854775808 ≤ i + 1 ∧ i + 1 ≤ 9223372036854775807) ∧
        v19b_at (fl) (gs) (o) (v) (b) (i + 1) (PureQ dq)) ∧
      (¬((Sp.has o i = true) ∨ (((↑o.length : Int) = 0) ∧ (i > 0))) → (-9223372036854775808 ≤ (↑o.length : Int) - 1 ∧ (↑o.length : Int) - 1 ≤ 9223372036854775807) ∧
        ((¬(b < 0)) → (Sp.inM (gs.getD (o.getD ((↑o.length : Int) - 1).toNat default).toNat default).x ∧ Sp.inM (gs.getD (o.getD ((↑o.length : Int) - 1).toNat default).toNat default).y ∧ Sp.inM (gs.getD i.toNat default).x ∧ Sp.inM (gs.getD i.toNat default).y)) ∧
        ((¬(b < 0)) → (Sp.inM (gs.getD (o.getD ((↑o.length : Int) - 1).toNat default).toNat default).x ∧ Sp.inM (gs.getD (o.getD ((↑o.length : Int) - 1).toNat default).toNat default).y ∧ Sp.inM (gs.getD b.toNat default).x ∧ Sp.inM (gs.getD b.toNat default).y)) ∧
        ((¬(b < 0)) → (0 ≤ (↑o.length : Int) - 1)) ∧
        ((¬(b < 0)) → (((↑o.length : Int) - 1).toNat < o.length)) ∧
        ((¬(b < 0)) → (0 ≤ o.getD ((↑o.length : Int) - 1).toNat default)) ∧
        ((¬(b < 0)) → ((o.getD ((↑o.length : Int) - 1).toNat default).toNat < gs.length)) ∧
        ((¬(b < 0)) → (0 ≤ i)) ∧
        ((¬(b < 0)) → (i.toNat < gs.length)) ∧
        ((¬(b < 0)) → (0 ≤ b)) ∧
        ((¬(b < 0)) → (b.toNat < gs.length)) ∧
        (((b < 0) ∨ (Sp.dist (gs.getD (o.getD ((↑o.length : Int) - 1).toNat default).toNat default).x (gs.getD (o.getD ((↑o.length : Int) - 1).toNat default).toNat default).y (gs.getD i.toNat default).x (gs.getD i.toNat default).y < Sp.dist (gs.getD (o.getD ((↑o.length : Int) - 1).toNat default).toNat default).x (gs.getD (o.getD ((↑o.length : Int) - 1).toNat default).toNat default).y (gs.getD b.toNat default).x (gs.getD b.toNat default).y)) → (-9223372036854775808 ≤ i + 1 ∧ i + 1 ≤ 9223372036854775807) ∧
          v19b_at (fl) (gs) (o) (v) (i) (i + 1) (PureQ dq)) ∧
        (¬((b < 0) ∨ (Sp.dist (gs.getD (o.getD ((↑o.length : Int) - 1).toNat default).toNat default).x (gs.getD (o.getD ((↑o.length : Int) - 1).toNat default).toNat default).y (gs.getD i.toNat default).x (gs.getD i.toNat default).y < Sp.dist (gs.getD (o.getD ((↑o.length : Int) - 1).toNat default).toNat default).x (gs.getD (o.getD ((↑o.length : Int) - 1).toNat default).toNat default).y (gs.getD b.toNat default).x (gs.getD b.toNat default).y)) → (-9223372036854775808 ≤ i + 1 ∧ i + 1 ≤ 9223372036854775807) ∧
          v19b_at (fl) (gs) (o) (v) (b) (i + 1) (PureQ dq)))) ∧
    (¬(i < (↑gs.length : Int)) → ((o.length + 1) * 8 ≤ 1099511627776) ∧
      v19a_at (fl) (gs) (o ++ [b]) (v + 1) (PureQ dq))) :
  v19b_at fl gs o v b i (PureQ dq) := by
  unfold v19b_at
  have w1 : (List.map G2.a gs).length = gs.length := List.length_map ..
  have i2 : (decide (i < (↑(List.map G2.a gs).length : Int))) = true ↔ (i < (↑gs.length : Int)) := (by rw [w1] <;> exact i_dec)
  rcases Classical.em (i < (↑gs.length : Int)) with d3 | d3
  · have H := H.1 d3
    have k4 := H.1; have H := H.2
    have i5 : (!(Sp.has o i == false && true) || v == v) = true ↔ ((¬(Sp.has o i = true)) → (v = v)) := (i_imp (i_at (i_bf (i_var _))) i_eq)
    have w6 : (List.map (AV.int IntKind.i64) o).length = o.length := List.length_map ..
    have i7 : (bif Sp.has o i then true else bif (↑(List.map (AV.int IntKind.i64) o).length : Int) == 0 then decide (i > 0) else false) = true ↔ ((Sp.has o i = true) ∨ (((↑o.length : Int) = 0) ∧ (i > 0))) := (by rw [w6] <;> exact (i_bor (i_var _) (i_band i_eq i_dec)))
    rcases Classical.em ((Sp.has o i = true) ∨ (((↑o.length : Int) = 0) ∧ (i > 0))) with d8 | d8
    · have H := H.1 d8
      have k9 := H.1; have H := H.2
      have w10 : IntKind.i64.wrap (i + 1) = i + 1 := wI64 k9
      exact path_wp (G := given kp19 [(7, 2, .call (AV.bool (Sp.has o i)) none)] []) 1000 [true, true] ⟨(atC (cd Try.f19) [1, 1, 0, 0, 0, 1, 0, 1, 0, 1, 0, 0]), [(0, AV.vec fl 2 (List.map G2.a gs)), (3, AV.row 0 v), (4, AV.int IntKind.i64 b), (5, AV.int IntKind.i64 (IntKind.i64.wrap (i + 1)))], [{ elems := List.map (AV.int IntKind.i64) o, es := 1, ver := v, frozen := false, clean := true }], [(decide (i < (↑(List.map G2.a gs).length : Int))) == true, v == v, !(Sp.has o i == false && true) || v == v, (bif Sp.has o i then true else bif (↑(List.map (AV.int IntKind.i64) o).length : Int) == 0 then decide (i > 0) else false) == true], [], [⟨true, false, 35, [AV.vec false 1 (List.map (AV.int IntKind.i64) o), AV.int IntKind.i64 i], [], AV.bool (Sp.has o i), []⟩]⟩ (by kernel_rfl) (allB_cons (beq_t (i2.2 d3)) (allB_cons (beq_self_eq_true _) (allB_cons (i5.2 (fun _ => rfl)) (allB_cons (beq_t (i7.2 d8)) allB_nil)))) allP_nil (allC_cons (fun _ => ((@ev35 (false) (o) (i) k4) : Ev M1 (Conf.pure 35 [AV.vec false 1 (List.map (AV.int IntKind.i64) o), AV.int IntKind.i64 i]) (AV.bool (Sp.has o i)) [])) allC_nil) (by rw [w10] <;> exact H)
    · have H := H.2 d8
      have k11 := H.1; have H := H.2
      have w12 : IntKind.i64.wrap ((↑o.length : Int) - 1) = (↑o.length : Int) - 1 := wI64 k11
      have i13 : (decide (b < 0) == false && true && true) = true ↔ (¬(b < 0)) := (i_at (i_at (i_bf i_dec)))
      have k14 := H.1; have H := H.2
      have i15 : (decide (b < 0) == false && true && true) = true ↔ (¬(b < 0)) := (i_at (i_at (i_bf i_dec)))
      have k16 := H.1; have H := H.2
      have i17 : (!(decide (b < 0) == false && true) || v == v) = true ↔ ((¬(b < 0)) → (v = v)) := (i_imp (i_at (i_bf i_dec)) i_eq)
      have i18 : (!(decide (b < 0) == false && true) || v == v) = true ↔ ((¬(b < 0)) → (v = v)) := (i_imp (i_at (i_bf i_dec)) i_eq)
      have i19 : (!(decide (b < 0) == false && true) || decide (0 ≤ IntKind.i64.wrap ((↑(List.map (AV.int IntKind.i64) o).length : Int) - 1))) = true ↔ ((¬(b < 0)) → (0 ≤ (↑o.length : Int) - 1)) := (by rw [w6, w12] <;> exact (i_imp (i_at (i_bf i_dec)) i_dec))
      have k20 := H.1; have H := H.2
      have i21 : (!(decide (b < 0) == false && true) || decide ((IntKind.i64.wrap ((↑(List.map (AV.int IntKind.i64) o).length : Int) - 1)).toNat < (List.map (AV.int IntKind.i64) o).length)) = true ↔ ((¬(b < 0)) → (((↑o.length : Int) - 1).toNat < o.length)) := (by rw [w6, w12] <;> exact (i_imp (i_at (i_bf i_dec)) i_dec))
      have k22 := H.1; have H := H.2
      have i23 : (!(decide (b < 0) == false && true) || v == v) = true ↔ ((¬(b < 0)) → (v = v)) := (i_imp (i_at (i_bf i_dec)) i_eq)
      have i24 : (!(decide (b < 0) == false && true) || decide (0 ≤ o.getD ((↑o.length : Int) - 1).toNat default)) = true ↔ ((¬(b < 0)) → (0 ≤ o.getD ((↑o.length : Int) - 1).toNat default)) := (i_imp (i_at (i_bf i_dec)) i_dec)
      have k25 := H.1; have H := H.2
      have i26 : (!(decide (b < 0) == false && true) || decide ((o.getD ((↑o.length : Int) - 1).toNat default).toNat < (List.map G2.a gs).length)) = true ↔ ((¬(b < 0)) → ((o.getD ((↑o.length : Int) - 1).toNat default).toNat < gs.length)) := (by rw [w1] <;> exact (i_imp (i_at (i_bf i_dec)) i_dec))
      have k27 := H.1; have H := H.2
      have i28 : (!(decide (b < 0) == false && true) || decide (0 ≤ i)) = true ↔ ((¬(b < 0)) → (0 ≤ i)) := (i_imp (i_at (i_bf i_dec)) i_dec)
      have k29 := H.1; have H := H.2
      have i30 : (!(decide (b < 0) == false && true) || decide (i.toNat < (List.map G2.a gs).length)) = true ↔ ((¬(b < 0)) → (i.toNat < gs.length)) := (by rw [w1] <;> exact (i_imp (i_at (i_bf i_dec)) i_dec))
      have k31 := H.1; have H := H.2
      have i32 : (!(decide (b < 0) == false && true) || v == v) = true ↔ ((¬(b < 0)) → (v = v)) := (i_imp (i_at (i_bf i_dec)) i_eq)
      have i33 : (!(decide (b < 0) == false && true) || v == v) = true ↔ ((¬(b < 0)) → (v = v)) := (i_imp (i_at (i_bf i_dec)) i_eq)
      have i34 : (!(decide (b < 0) == false && true) || decide (0 ≤ IntKind.i64.wrap ((↑(List.map (AV.int IntKind.i64) o).length : Int) - 1))) = true ↔ ((¬(b < 0)) → (0 ≤ (↑o.length : Int) - 1)) := (by rw [w6, w12] <;> exact (i_imp (i_at (i_bf i_dec)) i_dec))
      have i35 : (!(decide (b < 0) == false && true) || decide ((IntKind.i64.wrap ((↑(List.map (AV.int IntKind.i64) o).length : Int) - 1)).toNat < (List.map (AV.int IntKind.i64) o).length)) = true ↔ ((¬(b < 0)) → (((↑o.length : Int) - 1).toNat < o.length)) := (by rw [w6, w12] <;> exact (i_imp (i_at (i_bf i_dec)) i_dec))
      have i36 : (!(decide (b < 0) == false && true) || v == v) = true ↔ ((¬(b < 0)) → (v = v)) := (i_imp (i_at (i_bf i_dec)) i_eq)
      have i37 : (!(decide (b < 0) == false && true) || decide (0 ≤ o.getD ((↑o.length : Int) - 1).toNat default)) = true ↔ ((¬(b < 0)) → (0 ≤ o.getD ((↑o.length : Int) - 1).toNat default)) := (i_imp (i_at (i_bf i_dec)) i_dec)
      have i38 : (!(decide (b < 0) == false && true) || decide ((o.getD ((↑o.length : Int) - 1).toNat default).toNat < (List.map G2.a gs).length)) = true ↔ ((¬(b < 0)) → ((o.getD ((↑o.length : Int) - 1).toNat default).toNat < gs.length)) := (by rw [w1] <;> exact (i_imp (i_at (i_bf i_dec)) i_dec))
      have i39 : (!(decide (b < 0) == false && true) || decide (0 ≤ b)) = true ↔ ((¬(b < 0)) → (0 ≤ b)) := (i_imp (i_at (i_bf i_dec)) i_dec)
      have k40 := H.1; have H := H.2
      have i41 : (!(decide (b < 0) == false && true) || decide (b.toNat < (List.map G2.a gs).length)) = true ↔ ((¬(b < 0)) → (b.toNat < gs.length)) := (by rw [w1] <;> exact (i_imp (i_at (i_bf i_dec)) i_dec))
      have k42 := H.1; have H := H.2
      have i43 : (decide (b < 0) == false && true) = true ↔ (¬(b < 0)) := (i_at (i_bf i_dec))
      have i44 : (decide (b < 0) == false && true) = true ↔ (¬(b < 0)) := (i_at (i_bf i_dec))
      have i45 : (decide (b < 0) == false && true) = true ↔ (¬(b < 0)) := (i_at (i_bf i_dec))
      have i46 : (decide (b < 0) == false && true) = true ↔ (¬(b < 0)) := (i_at (i_bf i_dec))
      have i47 : (decide (b < 0) == false && true) = true ↔ (¬(b < 0)) := (i_at (i_bf i_dec))
      have i48 : (decide (b < 0) == false && true) = true ↔ (¬(b < 0)) := (i_at (i_bf i_dec))
      have i49 : (bif decide (b < 0) then true else decide (Sp.dist (gs.getD (o.getD ((↑o.length : Int) - 1).toNat default).toNat default).x (gs.getD (o.getD ((↑o.length : Int) - 1).toNat default).toNat default).y (gs.getD i.toNat default).x (gs.getD i.toNat default).y < Sp.dist (gs.getD (o.getD ((↑o.length : Int) - 1).toNat default).toNat default).x (gs.getD (o.getD ((↑o.length : Int) - 1).toNat default).toNat default).y (gs.getD b.toNat default).x (gs.getD b.toNat default).y)) = true ↔ ((b < 0) ∨ (Sp.dist (gs.getD (o.getD ((↑o.length : Int) - 1).toNat default).toNat default).x (gs.getD (o.getD ((↑o.length : Int) - 1).toNat default).toNat default).y (gs.getD i.toNat default).x (gs.getD i.toNat default).y < Sp.dist (gs.getD (o.getD ((↑o.length : Int) - 1).toNat default).toNat default).x (gs.getD (o.getD ((↑o.length : Int) - 1).toNat default).toNat default).y (gs.getD b.toNat default).x (gs.getD b.toNat default).y)) := (i_bor i_dec i_dec)
      rcases Classical.em ((b < 0) ∨ (Sp.dist (gs.getD (o.getD ((↑o.length : Int) - 1).toNat default).toNat default).x (gs.getD (o.getD ((↑o.length : Int) - 1).toNat default).toNat default).y (gs.getD i.toNat default).x (gs.getD i.toNat default).y < Sp.dist (gs.getD (o.getD ((↑o.length : Int) - 1).toNat default).toNat default).x (gs.getD (o.getD ((↑o.length : Int) - 1).toNat default).toNat default).y (gs.getD b.toNat default).x (gs.getD b.toNat default).y)) with d50 | d50
      · have H := H.1 d50
        have k51 := H.1; have H := H.2
        have w52 : IntKind.i64.wrap (i + 1) = i + 1 := wI64 k51
        exact path_wp (G := given kp19 [(7, 2, .call (AV.bool (Sp.has o i)) none), (8, 9, .elem (AV.int IntKind.i64 (o.getD ((↑o.length : Int) - 1).toNat default))), (8, 11, .elem (AV.agg [AV.int IntKind.i64 (gs.getD (o.getD ((↑o.length : Int) - 1).toNat default).toNat default).x, AV.int IntKind.i64 (gs.getD (o.getD ((↑o.length : Int) - 1).toNat default).toNat default).y])), (8, 15, .elem (AV.agg [AV.int IntKind.i64 (gs.getD i.toNat default).x, AV.int IntKind.i64 (gs.getD i.toNat default).y])), (8, 16, .call (AV.int IntKind.i64 (Sp.dist (gs.getD (o.getD ((↑o.length : Int) - 1).toNat default).toNat default).x (gs.getD (o.getD ((↑o.length : Int) - 1).toNat default).toNat default).y (gs.getD i.toNat default).x (gs.getD i.toNat default).y)) none), (8, 23, .elem (AV.int IntKind.i64 (o.getD ((↑o.length : Int) - 1).toNat default))), (8, 25, .elem (AV.agg [AV.int IntKind.i64 (gs.getD (o.getD ((↑o.length : Int) - 1).toNat default).toNat default).x, AV.int IntKind.i64 (gs.getD (o.getD ((↑o.length : Int) - 1).toNat default).toNat default).y])), (8, 29, .elem (AV.agg [AV.int IntKind.i64 (gs.getD b.toNat default).x, AV.int IntKind.i64 (gs.getD b.toNat default).y])), (8, 30, .call (AV.int IntKind.i64 (Sp.dist (gs.getD (o.getD ((↑o.length : Int) - 1).toNat default).toNat default).x (gs.getD (o.getD ((↑o.length : Int) - 1).toNat default).toNat default).y (gs.getD b.toNat default).x (gs.getD b.toNat default).y)) none)] []) 1000 [true, false, true] ⟨(atC (cd Try.f19) [1, 1, 0, 0, 0, 1, 0, 1, 0, 1, 0, 0]), [(0, AV.vec fl 2 (List.map G2.a gs)), (3, AV.row 0 v), (4, AV.int IntKind.i64 i), (5, AV.int IntKind.i64 (IntKind.i64.wrap (i + 1)))], [{ elems := List.map (AV.int IntKind.i64) o, es := 1, ver := v, frozen := false, clean := true }], [(decide (i < (↑(List.map G2.a gs).length : Int))) == true, v == v, !(Sp.has o i == false && true) || v == v, (bif Sp.has o i then true else bif (↑(List.map (AV.int IntKind.i64) o).length : Int) == 0 then decide (i > 0) else false) == false, !(decide (b < 0) == false && true) || v == v, !(decide (b < 0) == false && true) || v == v, !(decide (b < 0) == false && true) || decide (0 ≤ IntKind.i64.wrap ((↑(List.map (AV.int IntKind.i64) o).length : Int) - 1)), !(decide (b < 0) == false && true) || decide ((IntKind.i64.wrap ((↑(List.map (AV.int IntKind.i64) o).length : Int) - 1)).toNat < (List.map (AV.int IntKind.i64) o).length), !(decide (b < 0) == false && true) || v == v, !(decide (b < 0) == false && true) || decide (0 ≤ o.getD ((↑o.length : Int) - 1).toNat default), !(decide (b < 0) == false && true) || decide ((o.getD ((↑o.length : Int) - 1).toNat default).toNat < (List.map G2.a gs).length), !(decide (b < 0) == false && true) || decide (0 ≤ i), !(decide (b < 0) == false && true) || decide (i.toNat < (List.map G2.a gs).length), !(decide (b < 0) == false && true) || v == v, !(decide (b < 0) == false && true) || v == v, !(decide (b < 0) == false && true) || decide (0 ≤ IntKind.i64.wrap ((↑(List.map (AV.int IntKind.i64) o).length : Int) - 1)), !(decide (b < 0) == false && true) || decide ((IntKind.i64.wrap ((↑(List.map (AV.int IntKind.i64) o).length : Int) - 1)).toNat < (List.map (AV.int IntKind.i64) o).length), !(decide (b < 0) == false && true) || v == v, !(decide (b < 0) == false && true) || decide (0 ≤ o.getD ((↑o.length : Int) - 1).toNat default), !(decide (b < 0) == false && true) || decide ((o.getD ((↑o.length : Int) - 1).toNat default).toNat < (List.map G2.a gs).length), !(decide (b < 0) == false && true) || decide (0 ≤ b), !(decide (b < 0) == false && true) || decide (b.toNat < (List.map G2.a gs).length), (bif decide (b < 0) then true else decide (Sp.dist (gs.getD (o.getD ((↑o.length : Int) - 1).toNat default).toNat default).x (gs.getD (o.getD ((↑o.length : Int) - 1).toNat default).toNat default).y (gs.getD i.toNat default).x (gs.getD i.toNat default).y < Sp.dist (gs.getD (o.getD ((↑o.length : Int) - 1).toNat default).toNat default).x (gs.getD (o.getD ((↑o.length : Int) - 1).toNat default).toNat default).y (gs.getD b.toNat default).x (gs.getD b.toNat default).y)) == true], [((decide (b < 0) == false && true) = true → (List.map (AV.int IntKind.i64) o).get?Internal (IntKind.i64.wrap ((↑(List.map (AV.int IntKind.i64) o).length : Int) - 1)).toNat = some (AV.int IntKind.i64 (o.getD ((↑o.length : Int) - 1).toNat default))), ((decide (b < 0) == false && true) = true → (List.map G2.a gs).get?Internal (o.getD ((↑o.length : Int) - 1).toNat default).toNat = some (AV.agg [AV.int IntKind.i64 (gs.getD (o.getD ((↑o.length : Int) - 1).toNat default).toNat default).x, AV.int IntKind.i64 (gs.getD (o.getD ((↑o.length : Int) - 1).toNat default).toNat default).y])), ((decide (b < 0) == false && true) = true → (List.map G2.a gs).get?Internal i.toNat = some (AV.agg [AV.int IntKind.i64 (gs.getD i.toNat default).x, AV.int IntKind.i64 (gs.getD i.toNat default).y])), ((decide (b < 0) == false && true) = true → (List.map (AV.int IntKind.i64) o).get?Internal (IntKind.i64.wrap ((↑(List.map (AV.int IntKind.i64) o).length : Int) - 1)).toNat = some (AV.int IntKind.i64 (o.getD ((↑o.length : Int) - 1).toNat default))), ((decide (b < 0) == false && true) = true → (List.map G2.a gs).get?Internal (o.getD ((↑o.length : Int) - 1).toNat default).toNat = some (AV.agg [AV.int IntKind.i64 (gs.getD (o.getD ((↑o.length : Int) - 1).toNat default).toNat default).x, AV.int IntKind.i64 (gs.getD (o.getD ((↑o.length : Int) - 1).toNat default).toNat default).y])), ((decide (b < 0) == false && true) = true → (List.map G2.a gs).get?Internal b.toNat = some (AV.agg [AV.int IntKind.i64 (gs.getD b.toNat default).x, AV.int IntKind.i64 (gs.getD b.toNat default).y]))], [⟨true, false, 35, [AV.vec false 1 (List.map (AV.int IntKind.i64) o), AV.int IntKind.i64 i], [], AV.bool (Sp.has o i), []⟩, ⟨decide (b < 0) == false && true && true, false, 16, [AV.agg [AV.int IntKind.i64 (gs.getD (o.getD ((↑o.length : Int) - 1).toNat default).toNat default).x, AV.int IntKind.i64 (gs.getD (o.getD ((↑o.length : Int) - 1).toNat default).toNat default).y], AV.agg [AV.int IntKind.i64 (gs.getD i.toNat default).x, AV.int IntKind.i64 (gs.getD i.toNat default).y]], [], AV.int IntKind.i64 (Sp.dist (gs.getD (o.getD ((↑o.length : Int) - 1).toNat default).toNat default).x (gs.getD (o.getD ((↑o.length : Int) - 1).toNat default).toNat default).y (gs.getD i.toNat default).x (gs.getD i.toNat default).y), []⟩, ⟨decide (b < 0) == false && true && true, false, 16, [AV.agg [AV.int IntKind.i64 (gs.getD (o.getD ((↑o.length : Int) - 1).toNat default).toNat default).x, AV.int IntKind.i64 (gs.getD (o.getD ((↑o.length : Int) - 1).toNat default).toNat default).y], AV.agg [AV.int IntKind.i64 (gs.getD b.toNat default).x, AV.int IntKind.i64 (gs.getD b.toNat default).y]], [], AV.int IntKind.i64 (Sp.dist (gs.getD (o.getD ((↑o.length : Int) - 1).toNat default).toNat default).x (gs.getD (o.getD ((↑o.length : Int) - 1).toNat default).toNat default).y (gs.getD b.toNat default).x (gs.getD b.toNat default).y), []⟩]⟩ (by kernel_rfl) (allB_cons (beq_t (i2.2 d3)) (allB_cons (beq_self_eq_true _) (allB_cons (i5.2 (fun _ => rfl)) (allB_cons (beq_f (fun h => d8 (i7.1 h))) (allB_cons (i17.2 (fun _ => rfl)) (allB_cons (i18.2 (fun _ => rfl)) (allB_cons (i19.2 k20) (allB_cons (i21.2 k22) (allB_cons (i23.2 (fun _ => rfl)) (allB_cons (i24.2 k25) (allB_cons (i26.2 k27) (allB_cons (i28.2 k29) (allB_cons (i30.2 k31) (allB_cons (i32.2 (fun _ => rfl)) (allB_cons (i33.2 (fun _ => rfl)) (allB_cons (i34.2 k20) (allB_cons (i35.2 k22) (allB_cons (i36.2 (fun _ => rfl)) (allB_cons (i37.2 k25) (allB_cons (i38.2 k27) (allB_cons (i39.2 k40) (allB_cons (i41.2 k42) (allB_cons (beq_t (i49.2 d50)) allB_nil))))))))))))))))))))))) (allP_cons (by rw [w6, w12] <;> exact (fun h => el_map (k22 (i43.1 h)))) (allP_cons (fun h => el_map (k27 (i44.1 h))) (allP_cons (fun h => el_map (k31 (i45.1 h))) (allP_cons (by rw [w6, w12] <;> exact (fun h => el_map (k22 (i46.1 h)))) (allP_cons (fun h => el_map (k27 (i47.1 h))) (allP_cons (fun h => el_map (k42 (i48.1 h))) allP_nil)))))) (allC_cons (fun _ => ((@ev35 (false) (o) (i) k4) : Ev M1 (Conf.pure 35 [AV.vec false 1 (List.map (AV.int IntKind.i64) o), AV.int IntKind.i64 i]) (AV.bool (Sp.has o i)) [])) (allC_cons (fun hc => ((@ev16 ((gs.getD (o.getD ((↑o.length : Int) - 1).toNat default).toNat default).x) ((gs.getD (o.getD ((↑o.length : Int) - 1).toNat default).toNat default).y) ((gs.getD i.toNat default).x) ((gs.getD i.toNat default).y) (k14 (i13.1 hc))) : Ev M1 (Conf.pure 16 [AV.agg [AV.int IntKind.i64 (gs.getD (o.getD ((↑o.length : Int) - 1).toNat default).toNat default).x, AV.int IntKind.i64 (gs.getD (o.getD ((↑o.length : Int) - 1).toNat default).toNat default).y], AV.agg [AV.int IntKind.i64 (gs.getD i.toNat default).x, AV.int IntKind.i64 (gs.getD i.toNat default).y]]) (AV.int IntKind.i64 (Sp.dist (gs.getD (o.getD ((↑o.length : Int) - 1).toNat default).toNat default).x (gs.getD (o.getD ((↑o.length : Int) - 1).toNat default).toNat default).y (gs.getD i.toNat default).x (gs.getD i.toNat default).y)) [])) (allC_cons (fun hc => ((@ev16 ((gs.getD (o.getD ((↑o.length : Int) - 1).toNat default).toNat default).x) ((gs.getD (o.getD ((↑o.length : Int) - 1).toNat default).toNat default).y) ((gs.getD b.toNat default).x) ((gs.getD b.toNat default).y) (k16 (i15.1 hc))) : Ev M1 (Conf.pure 16 [AV.agg [AV.int IntKind.i64 (gs.getD (o.getD ((↑o.length : Int) - 1).toNat default).toNat default).x, AV.int IntKind.i64 (gs.getD (o.getD ((↑o.length : Int) - 1).toNat default).toNat default).y], AV.agg [AV.int IntKind.i64 (gs.getD b.toNat default).x, AV.int IntKind.i64 (gs.getD b.toNat default).y]]) (AV.int IntKind.i64 (Sp.dist (gs.getD (o.getD ((↑o.length : Int) - 1).toNat default).toNat default).x (gs.getD (o.getD ((↑o.length : Int) - 1).toNat default).toNat default).y (gs.getD b.toNat default).x (gs.getD b.toNat default).y)) [])) allC_nil))) (by rw [w52] <;> exact H)
      · have H := H.2 d50
        have k53 := H.1; have H := H.2
        have w54 : IntKind.i64.wrap (i + 1) = i + 1 := wI64 k53
        exact path_wp (G := given kp19 [(7, 2, .call (AV.bool (Sp.has o i)) none), (8, 9, .elem (AV.int IntKind.i64 (o.getD ((↑o.length : Int) - 1).toNat default))), (8, 11, .elem (AV.agg [AV.int IntKind.i64 (gs.getD (o.getD ((↑o.length : Int) - 1).toNat default).toNat default).x, AV.int IntKind.i64 (gs.getD (o.getD ((↑o.length : Int) - 1).toNat default).toNat default).y])), (8, 15, .elem (AV.agg [AV.int IntKind.i64 (gs.getD i.toNat default).x, AV.int IntKind.i64 (gs.getD i.toNat default).y])), (8, 16, .call (AV.int IntKind.i64 (Sp.dist (gs.getD (o.getD ((↑o.length : Int) - 1).toNat default).toNat default).x (gs.getD (o.getD ((↑o.length : Int) - 1).toNat default).toNat default).y (gs.getD i.toNat default).x (gs.getD i.toNat default).y)) none), (8, 23, .elem (AV.int IntKind.i64 (o.getD ((↑o.length : Int) - 1).toNat default))), (8, 25, .elem (AV.agg [AV.int IntKind.i64 (gs.getD (o.getD ((↑o.length : Int) - 1).toNat default).toNat default).x, AV.int IntKind.i64 (gs.getD (o.getD ((↑o.length : Int) - 1).toNat default).toNat default).y])), (8, 29, .elem (AV.agg [AV.int IntKind.i64 (gs.getD b.toNat default).x, AV.int IntKind.i64 (gs.getD b.toNat default).y])), (8, 30, .call (AV.int IntKind.i64 (Sp.dist (gs.getD (o.getD ((↑o.length : Int) - 1).toNat default).toNat default).x (gs.getD (o.getD ((↑o.length : Int) - 1).toNat default).toNat default).y (gs.getD b.toNat default).x (gs.getD b.toNat default).y)) none)] []) 1000 [true, false, false] ⟨(atC (cd Try.f19) [1, 1, 0, 0, 0, 1, 0, 1, 0, 1, 0, 0]), [(0, AV.vec fl 2 (List.map G2.a gs)), (3, AV.row 0 v), (4, AV.int IntKind.i64 b), (5, AV.int IntKind.i64 (IntKind.i64.wrap (i + 1)))], [{ elems := List.map (AV.int IntKind.i64) o, es := 1, ver := v, frozen := false, clean := true }], [(decide (i < (↑(List.map G2.a gs).length : Int))) == true, v == v, !(Sp.has o i == false && true) || v == v, (bif Sp.has o i then true else bif (↑(List.map (AV.int IntKind.i64) o).length : Int) == 0 then decide (i > 0) else false) == false, !(decide (b < 0) == false && true) || v == v, !(decide (b < 0) == false && true) || v == v, !(decide (b < 0) == false && true) || decide (0 ≤ IntKind.i64.wrap ((↑(List.map (AV.int IntKind.i64) o).length : Int) - 1)), !(decide (b < 0) == false && true) || decide ((IntKind.i64.wrap ((↑(List.map (AV.int IntKind.i64) o).length : Int) - 1)).toNat < (List.map (AV.int IntKind.i64) o).length), !(decide (b < 0) == false && true) || v == v, !(decide (b < 0) == false && true) || decide (0 ≤ o.getD ((↑o.length : Int) - 1).toNat default), !(decide (b < 0) == false && true) || decide ((o.getD ((↑o.length : Int) - 1).toNat default).toNat < (List.map G2.a gs).length), !(decide (b < 0) == false && true) || decide (0 ≤ i), !(decide (b < 0) == false && true) || decide (i.toNat < (List.map G2.a gs).length), !(decide (b < 0) == false && true) || v == v, !(decide (b < 0) == false && true) || v == v, !(decide (b < 0) == false && true) || decide (0 ≤ IntKind.i64.wrap ((↑(List.map (AV.int IntKind.i64) o).length : Int) - 1)), !(decide (b < 0) == false && true) || decide ((IntKind.i64.wrap ((↑(List.map (AV.int IntKind.i64) o).length : Int) - 1)).toNat < (List.map (AV.int IntKind.i64) o).length), !(decide (b < 0) == false && true) || v == v, !(decide (b < 0) == false && true) || decide (0 ≤ o.getD ((↑o.length : Int) - 1).toNat default), !(decide (b < 0) == false && true) || decide ((o.getD ((↑o.length : Int) - 1).toNat default).toNat < (List.map G2.a gs).length), !(decide (b < 0) == false && true) || decide (0 ≤ b), !(decide (b < 0) == false && true) || decide (b.toNat < (List.map G2.a gs).length), (bif decide (b < 0) then true else decide (Sp.dist (gs.getD (o.getD ((↑o.length : Int) - 1).toNat default).toNat default).x (gs.getD (o.getD ((↑o.length : Int) - 1).toNat default).toNat default).y (gs.getD i.toNat default).x (gs.getD i.toNat default).y < Sp.dist (gs.getD (o.getD ((↑o.length : Int) - 1).toNat default).toNat default).x (gs.getD (o.getD ((↑o.length : Int) - 1).toNat default).toNat default).y (gs.getD b.toNat default).x (gs.getD b.toNat default).y)) == false], [((decide (b < 0) == false && true) = true → (List.map (AV.int IntKind.i64) o).get?Internal (IntKind.i64.wrap ((↑(List.map (AV.int IntKind.i64) o).length : Int) - 1)).toNat = some (AV.int IntKind.i64 (o.getD ((↑o.length : Int) - 1).toNat default))), ((decide (b < 0) == false && true) = true → (List.map G2.a gs).get?Internal (o.getD ((↑o.length : Int) - 1).toNat default).toNat = some (AV.agg [AV.int IntKind.i64 (gs.getD (o.getD ((↑o.length : Int) - 1).toNat default).toNat default).x, AV.int IntKind.i64 (gs.getD (o.getD ((↑o.length : Int) - 1).toNat default).toNat default).y])), ((decide (b < 0) == false && true) = true → (List.map G2.a gs).get?Internal i.toNat = some (AV.agg [AV.int IntKind.i64 (gs.getD i.toNat default).x, AV.int IntKind.i64 (gs.getD i.toNat default).y])), ((decide (b < 0) == false && true) = true → (List.map (AV.int IntKind.i64) o).get?Internal (IntKind.i64.wrap ((↑(List.map (AV.int IntKind.i64) o).length : Int) - 1)).toNat = some (AV.int IntKind.i64 (o.getD ((↑o.length : Int) - 1).toNat default))), ((decide (b < 0) == false && true) = true → (List.map G2.a gs).get?Internal (o.getD ((↑o.length : Int) - 1).toNat default).toNat = some (AV.agg [AV.int IntKind.i64 (gs.getD (o.getD ((↑o.length : Int) - 1).toNat default).toNat default).x, AV.int IntKind.i64 (gs.getD (o.getD ((↑o.length : Int) - 1).toNat default).toNat default).y])), ((decide (b < 0) == false && true) = true → (List.map G2.a gs).get?Internal b.toNat = some (AV.agg [AV.int IntKind.i64 (gs.getD b.toNat default).x, AV.int IntKind.i64 (gs.getD b.toNat default).y]))], [⟨true, false, 35, [AV.vec false 1 (List.map (AV.int IntKind.i64) o), AV.int IntKind.i64 i], [], AV.bool (Sp.has o i), []⟩, ⟨decide (b < 0) == false && true && true, false, 16, [AV.agg [AV.int IntKind.i64 (gs.getD (o.getD ((↑o.length : Int) - 1).toNat default).toNat default).x, AV.int IntKind.i64 (gs.getD (o.getD ((↑o.length : Int) - 1).toNat default).toNat default).y], AV.agg [AV.int IntKind.i64 (gs.getD i.toNat default).x, AV.int IntKind.i64 (gs.getD i.toNat default).y]], [], AV.int IntKind.i64 (Sp.dist (gs.getD (o.getD ((↑o.length : Int) - 1).toNat default).toNat default).x (gs.getD (o.getD ((↑o.length : Int) - 1).toNat default).toNat default).y (gs.getD i.toNat default).x (gs.getD i.toNat default).y), []⟩, ⟨decide (b < 0) == false && true && true, false, 16, [AV.agg [AV.int IntKind.i64 (gs.getD (o.getD ((↑o.length : Int) - 1).toNat default).toNat default).x, AV.int IntKind.i64 (gs.getD (o.getD ((↑o.length : Int) - 1).toNat default).toNat default).y], AV.agg [AV.int IntKind.i64 (gs.getD b.toNat default).x, AV.int IntKind.i64 (gs.getD b.toNat default).y]], [], AV.int IntKind.i64 (Sp.dist (gs.getD (o.getD ((↑o.length : Int) - 1).toNat default).toNat default).x (gs.getD (o.getD ((↑o.length : Int) - 1).toNat default).toNat default).y (gs.getD b.toNat default).x (gs.getD b.toNat default).y), []⟩]⟩ (by kernel_rfl) (allB_cons (beq_t (i2.2 d3)) (allB_cons (beq_self_eq_true _) (allB_cons (i5.2 (fun _ => rfl)) (allB_cons (beq_f (fun h => d8 (i7.1 h))) (allB_cons (i17.2 (fun _ => rfl)) (allB_cons (i18.2 (fun _ => rfl)) (allB_cons (i19.2 k20) (allB_cons (i21.2 k22) (allB_cons (i23.2 (fun _ => rfl)) (allB_cons (i24.2 k25) (allB_cons (i26.2 k27) (allB_cons (i28.2 k29) (allB_cons (i30.2 k31) (allB_cons (i32.2 (fun _ => rfl)) (allB_cons (i33.2 (fun _ => rfl)) (allB_cons (i34.2 k20) (allB_cons (i35.2 k22) (allB_cons (i36.2 (fun _ => rfl)) (allB_cons (i37.2 k25) (allB_cons (i38.2 k27) (allB_cons (i39.2 k40) (allB_cons (i41.2 k42) (allB_cons (beq_f (fun h => d50 (i49.1 h))) allB_nil))))))))))))))))))))))) (allP_cons (by rw [w6, w12] <;> exact (fun h => el_map (k22 (i43.1 h)))) (allP_cons (fun h => el_map (k27 (i44.1 h))) (allP_cons (fun h => el_map (k31 (i45.1 h))) (allP_cons (by rw [w6, w12] <;> exact (fun h => el_map (k22 (i46.1 h)))) (allP_cons (fun h => el_map (k27 (i47.1 h))) (allP_cons (fun h => el_map (k42 (i48.1 h))) allP_nil)))))) (allC_cons (fun _ => ((@ev35 (false) (o) (i) k4) : Ev M1 (Conf.pure 35 [AV.vec false 1 (List.map (AV.int IntKind.i64) o), AV.int IntKind.i64 i]) (AV.bool (Sp.has o i)) [])) (allC_cons (fun hc => ((@ev16 ((gs.getD (o.getD ((↑o.length : Int) - 1).toNat default).toNat default).x) ((gs.getD (o.getD ((↑o.length : Int) - 1).toNat default).toNat default).y) ((gs.getD i.toNat default).x) ((gs.getD i.toNat default).y) (k14 (i13.1 hc))) : Ev M1 (Conf.pure 16 [AV.agg [AV.int IntKind.i64 (gs.getD (o.getD ((↑o.length : Int) - 1).toNat default).toNat default).x, AV.int IntKind.i64 (gs.getD (o.getD ((↑o.length : Int) - 1).toNat default).toNat default).y], AV.agg [AV.int IntKind.i64 (gs.getD i.toNat default).x, AV.int IntKind.i64 (gs.getD i.toNat default).y]]) (AV.int IntKind.i64 (Sp.dist (gs.getD (o.getD ((↑o.length : Int) - 1).toNat default).toNat default).x (gs.getD (o.getD ((↑o.length : Int) - 1).toNat default).toNat default).y (gs.getD i.toNat default).x (gs.getD i.toNat default).y)) [])) (allC_cons (fun hc => ((@ev16 ((gs.getD (o.getD ((↑o.length : Int) - 1).toNat default).toNat default).x) ((gs.getD (o.getD ((↑o.length : Int) - 1).toNat default).toNat default).y) ((gs.getD b.toNat default).x) ((gs.getD b.toNat default).y) (k16 (i15.1 hc))) : Ev M1 (Conf.pure 16 [AV.agg [AV.int IntKind.i64 (gs.getD (o.getD ((↑o.length : Int) - 1).toNat default).toNat default).x, AV.int IntKind.i64 (gs.getD (o.getD ((↑o.length : Int) - 1).toNat default).toNat default).y], AV.agg [AV.int IntKind.i64 (gs.getD b.toNat default).x, AV.int IntKind.i64 (gs.getD b.toNat default).y]]) (AV.int IntKind.i64 (Sp.dist (gs.getD (o.getD ((↑o.length : Int) - 1).toNat default).toNat default).x (gs.getD (o.getD ((↑o.length : Int) - 1).toNat default).toNat default).y (gs.getD b.toNat default).x (gs.getD b.toNat default).y)) [])) allC_nil))) (by rw [w54] <;> exact H)
  · have H := H.2 d3
    have w55 : (List.map (AV.int IntKind.i64) o).length = o.length := List.length_map ..
    have i56 : (decide (((List.map (AV.int IntKind.i64) o).length + 1) * 8 ≤ 1099511627776)) = true ↔ ((o.length + 1) * 8 ≤ 1099511627776) := (by rw [w55] <;> exact i_dec)
    have k57 := H.1; have H := H.2
    have w58 : List.map (AV.int IntKind.i64) o ++ [AV.int IntKind.i64 b] = List.map (AV.int IntKind.i64) (o ++ [b]) := (lm_app rfl rfl)
    exact path_wp (G := given kp19 [] []) 1000 [false] ⟨(atC (cd Try.f19) [1, 1, 0, 0, 0]), [(0, AV.vec fl 2 (List.map G2.a gs)), (3, AV.row 0 (v + 1))], [{ elems := List.map (AV.int IntKind.i64) o ++ [AV.int IntKind.i64 b], es := 1, ver := v + 1, frozen := false, clean := true }], [(decide (i < (↑(List.map G2.a gs).length : Int))) == false, v == v, decide (((List.map (AV.int IntKind.i64) o).length + 1) * 8 ≤ 1099511627776)], [], []⟩ (by kernel_rfl) (allB_cons (beq_f (fun h => d3 (i2.1 h))) (allB_cons (beq_self_eq_true _) (allB_cons (i56.2 k57) allB_nil))) allP_nil allC_nil (by rw [w58] <;> exact H)


end Go.Av

/- WHAT Nearest OF THE REFERENCE ANSWERS. -/
namespace Go.Av
open Go.Proofs

theorem loop19y {fl : Bool} {gs : List G2} {b : Int} {dq : AV} (hl : gs.length ≤ 1000) (h : v19a_at fl gs [b] 0 (PureQ dq)) : ∀ (k i : Nat), i + 1 + k = gs.length → v19y_at fl gs b (i + 1 : Nat) (PureQ dq) := by
  intro k
  induction k with
  | zero => intro i hi; exact v19y _ _ _ _ _ ⟨fun h => by omega, fun _ => h⟩
  | succ k ih => intro i hi; exact v19y _ _ _ _ _ ⟨fun _ => ⟨fun _ => ⟨by omega, ih (i + 1) (by omega)⟩, fun h => by omega⟩, fun h => by omega⟩

theorem loop19b {fl : Bool} {gs : List G2} {o : List Int} {a : Int} {v : Nat} {dq : AV} (hg : Sp.okG gs) (hl : gs.length ≤ 1000) (ho : o.length ≤ 1000 ∧ 0 < o.length) (ha : 0 ≤ a ∧ a < gs.length) (hlast : o.getD (o.length - 1) default = a) :
    ∀ (k i : Nat) (nx : Int), i + k = gs.length → (nx < 0 ∨ (0 ≤ nx ∧ nx < gs.length)) → v19a_at fl gs (o ++ [Sp.next gs o a k i nx]) (v + 1) (PureQ dq) → v19b_at fl gs o v nx i (PureQ dq) := by
  have e1 : ((o.length : Int) - 1).toNat = o.length - 1 := by omega
  intro k
  induction k with
  | zero => intro i nx hi hn hq; exact v19b _ _ _ _ _ _ _ ⟨fun h => by omega, fun _ => ⟨by omega, hq⟩⟩
  | succ k ih =>
    intro i nx hi hn hq
    rw [Sp.next] at hq
    refine v19b _ _ _ _ _ _ _ ⟨fun _ => ?_, fun h => by omega⟩
    rw [e1, hlast, Int.toNat_natCast]
    refine ⟨by omega, fun h => ⟨by omega, ?_⟩, fun h => ⟨by omega, fun h => ⟨(okG_at hg _).1, (okG_at hg _).2, (okG_at hg _).1, (okG_at hg _).2⟩, fun h => ⟨(okG_at hg _).1, (okG_at hg _).2, (okG_at hg _).1, (okG_at hg _).2⟩, fun _ => by omega, fun _ => by omega, fun _ => ha.1, fun _ => by omega, fun _ => by omega, fun _ => by omega, fun _ => by omega, fun _ => by omega, fun k => ⟨by omega, ?_⟩, fun k => ⟨by omega, ?_⟩⟩⟩
    · have hm : (i : Int) ∈ o := by
        rcases h with h | h
        · exact has_iff.1 h
        · omega
      rw [if_neg (fun k => k.1 hm)] at hq
      exact ih (i + 1) nx (by omega) hn hq
    · have hm : (i : Int) ∉ o := fun k => h (.inl (has_iff.2 k))
      rw [if_pos (show (i : Int) ∉ o ∧ (nx < 0 ∨ Sp.dAt gs a i < Sp.dAt gs a nx) from ⟨hm, k⟩)] at hq
      exact ih (i + 1) i (by omega) (by omega) hq
    · rw [if_neg (show ¬((i : Int) ∉ o ∧ (nx < 0 ∨ Sp.dAt gs a i < Sp.dAt gs a nx)) from fun x => k x.2)] at hq
      exact ih (i + 1) nx (by omega) hn hq

theorem loop19 {fl : Bool} {gs : List G2} {dq : AV} (hg : Sp.okG gs) (hl : gs.length ≤ 1000) :
    ∀ (k : Nat) (o : List Int) (a : Int) (v : Nat), (0 ≤ a ∧ a < gs.length) → 0 < o.length → o.getD (o.length - 1) default = a → NearI gs k o (Sp.next gs o a gs.length 0 (-1)) → isA false (Sp.near gs k o (Sp.next gs o a gs.length 0 (-1))) = dq → v19a_at fl gs o v (PureQ dq) := by
  intro k
  induction k with
  | zero =>
    intro o a v ha h0 hlast hI hq
    rw [Sp.near] at hq
    have := hI.len
    exact v19a _ _ _ _ _ ⟨fun h => by omega, fun _ => by rw [← hq]; exact .refl _⟩
  | succ k ih =>
    intro o a v ha h0 hlast hI hq
    have h := hI.go
    have hlen := hI.len
    rw [Sp.near, if_neg (by omega)] at hq
    refine v19a _ _ _ _ _ ⟨fun _ => ?_, fun h => by omega⟩
    refine loop19b hg hl (by omega) ha hlast gs.length 0 (-1) (by omega) (by omega) ?_
    exact ih _ _ _ ⟨h.1, h.2.1⟩ (by simp) (by simp [List.getD_eq_getElem?_getD]) hI.next hq

theorem ev19 (fl : Bool) (gs : List G2) (h : Sp.okG gs ∧ gs.length ≤ 1000) : Ev M1 (.pure 19 [gsA fl gs]) (isA false (Sp.nearest gs)) [] := by
  obtain ⟨hg, hl⟩ := h
  refine call19 (v19 fl gs _ ?_)
  unfold Sp.nearest
  cases hn : gs.length with
  | zero =>
    refine v19z _ _ _ ⟨fun h => by omega, fun _ => ?_⟩
    rw [Sp.near]; exact .vnil 1
  | succ k =>
    have h : NearI gs (k + 1) [] 0 := by
      have h := NearI.start (gs := gs)
      rw [if_neg (by omega), hn] at h
      exact h
    have h0 := h.go
    rw [Sp.near, if_neg (by omega)]
    refine v19z _ _ _ ⟨fun _ => v19x _ _ _ ⟨fun _ => ⟨fun _ => by omega, ?_⟩, fun h => by omega⟩, fun h => by omega⟩
    refine loop19y hl ?_ k 0 (by omega)
    exact loop19 hg hl k [0] 0 0 (by omega) (by simp) rfl h.next rfl
end Go.Av

/- PATHS, written by a program of the prover's. -/
namespace Go.Av
open Go.Proofs
set_option maxRecDepth 100000
def fi12 : Fi := ⟨20, [.tmp 4, .tmp 5]⟩
def kp12 : List (Nat × List Nat) := [(0, [0, 1]), (1, [0, 1, 6]), (2, [0, 1, 6, 10]), (3, [4, 5]), (4, [0, 1, 16]), (5, [4, 5]), (6, [4, 5])]
def fi33 : Fi := ⟨32, [.tmp 4]⟩
def kp33 : List (Nat × List Nat) := [(0, [0, 1]), (1, [0, 1, 5]), (2, [0, 1, 5, 6]), (3, [0, 1, 5, 6, 10]), (4, [0, 1, 5, 6]), (5, [0, 1, 5, 6]), (6, [4])]
def v33_at (fl fm : Bool) (gs : List G2) (o : List Int) (Q : AV → Heap → Prop) : Prop := Wp M1 (.run fi33 (atC (cd Try.f33) []) [(0, .vec fl 2 (gs.map G2.a)), (1, .vec fm 1 (o.map (.int .i64)))] []) Q
def v33a_at (fl fm : Bool) (gs : List G2) (o : List Int) (s i : Int) (Q : AV → Heap → Prop) : Prop := Wp M1 (.run fi33 (atC (cd Try.f33) [1, 1, 0, 1, 0, 0]) [(0, .vec fl 2 (gs.map G2.a)), (1, .vec fm 1 (o.map (.int .i64))), (5, .int .i64 s), (6, .int .i64 i)] []) Q
def v12_at (fl fm : Bool) (gs : List G2) (o : List Int) (Q : AV → Heap → Prop) : Prop := Wp M1 (.run fi12 (atC (cd Try.f12) []) [(0, .vec fl 2 (gs.map G2.a)), (1, .vec fm 1 (o.map (.int .i64)))] []) Q
theorem call12 {args : List AV} {d : AV} (h : Wp M1 (.run fi12 [.code (cd Try.f12)] (argVars 0 args) []) (PureQ d)) : Ev M1 (.pure 12 args) d [] :=
  pure_pq Try.f12 fi12 (by kernel_rfl) (by kernel_rfl) (by kernel_rfl) (by kernel_rfl) h
theorem owncall12 {args : List AV} {L : Heap} {Q : AV → Heap → Prop} (h : Wp M1 (.run fi12 [.code (cd Try.f12)] (argVars 0 args) L) Q) : Wp M1 (.own 12 args L) Q :=
  own_wp Try.f12 fi12 (by kernel_rfl) (by kernel_rfl) (by kernel_rfl) (by kernel_rfl) h
theorem keepcall12 {args : List AV} {L : Heap} {v : AV} {K : Heap} (hk : keepOk L.length v K = true) (h : Wp M1 (.run fi12 [.code (cd Try.f12)] (argVars 0 args) L) (KeepQ v K)) : Ev M1 (.own 12 args L) v K :=
  own_keep Try.f12 fi12 (by kernel_rfl) (by kernel_rfl) (by kernel_rfl) (by kernel_rfl) hk h
theorem call33 {args : List AV} {d : AV} (h : Wp M1 (.run fi33 [.code (cd Try.f33)] (argVars 0 args) []) (PureQ d)) : Ev M1 (.pure 33 args) d [] :=
  pure_pq Try.f33 fi33 (by kernel_rfl) (by kernel_rfl) (by kernel_rfl) (by kernel_rfl) h
theorem owncall33 {args : List AV} {L : Heap} {Q : AV → Heap → Prop} (h : Wp M1 (.run fi33 [.code (cd Try.f33)] (argVars 0 args) L) Q) : Wp M1 (.own 33 args L) Q :=
  own_wp Try.f33 fi33 (by kernel_rfl) (by kernel_rfl) (by kernel_rfl) (by kernel_rfl) h
theorem keepcall33 {args : List AV} {L : Heap} {v : AV} {K : Heap} (hk : keepOk L.length v K = true) (h : Wp M1 (.run fi33 [.code (cd Try.f33)] (argVars 0 args) L) (KeepQ v K)) : Ev M1 (.own 33 args L) v K :=
  own_keep Try.f33 fi33 (by kernel_rfl) (by kernel_rfl) (by kernel_rfl) (by kernel_rfl) hk h
theorem v33 (fl fm : Bool) (gs : List G2) (o : List Int) (dq : AV) (H :
    v33a_at (fl) (fm) (gs) (o) (0) (1) (PureQ dq)) :
  v33_at fl fm gs o (PureQ dq) := by
  unfold v33_at
  exact path_wp (G := given kp33 [] []) 1000 [] ⟨(atC (cd Try.f33) [1, 1, 0, 1, 0, 0]), [(0, AV.vec fl 2 (List.map G2.a gs)), (1, AV.vec fm 1 (List.map (AV.int IntKind.i64) o)), (5, AV.int IntKind.i64 0), (6, AV.int IntKind.i64 1)], [], [], [], []⟩ (by kernel_rfl) allB_nil allP_nil allC_nil (H)

theorem v33a (fl fm : Bool) (gs : List G2) (o : List Int) (s i : Int) (dq : AV) (H :
    ((i < (↑o.length : Int)) → (-9223372036854775808 ≤ i - 1 ∧ i - 1 ≤ 9223372036854775807) ∧
      (Sp.inM (gs.getD (o.getD (i - 1).toNat default).toNat default).x ∧ Sp.inM (gs.getD (o.getD (i - 1).toNat default).toNat default).y ∧ Sp.inM (gs.getD (o.getD i.toNat default).toNat default).x ∧ Sp.inM (gs.getD (o.getD i.toNat default).toNat default).y) ∧
      (0 ≤ i - 1) ∧
      ((i - 1).toNat < o.length) ∧
      (0 ≤ o.getD (i - 1).toNat default) ∧
      ((o.getD (i - 1).toNat default).toNat < gs.length) ∧
      (0 ≤ i) ∧
      (i.toNat < o.length) ∧
      (0 ≤ o.getD i.toNat default) ∧
      ((o.getD i.toNat default).toNat < gs.length) ∧
      (-9223372036854775808 ≤ s + Sp.dist (gs.getD (o.getD (i - 1).toNat default).toNat default).x (gs.getD (o.getD (i - 1).toNat default).toNat default).y (gs.getD (o.getD i.toNat default).toNat default).x (gs.getD (o.getD i.toNat default).toNat default).y ∧ s + Sp.dist (gs.getD (o.getD (i - 1).toNat default).toNat default).x (gs.getD (o.getD (i - 1).toNat default).toNat default).y (gs.getD (o.getD i.toNat default).toNat default).x (gs.getD (o.getD i.toNat default).toNat default).y ≤ 9223372036854775807) ∧
      (-9223372036854775808 ≤ i + 1 ∧ i + 1 ≤ 9223372036854775807) ∧
      v33a_at (fl) (fm) (gs) (o) (s + Sp.dist (gs.getD (o.getD (i - 1).toNat default).toNat default).x (gs.getD (o.getD (i - 1).toNat default).toNat default).y (gs.getD (o.getD i.toNat default).toNat default).x (gs.getD (o.getD i.toNat default).toNat default).y) (i + 1) (PureQ dq)) ∧
    (¬(i < (↑o.length : Int)) → AV.int IntKind.i64 s = dq)) :
  v33a_at fl fm gs o s i (PureQ dq) := by
  unfold v33a_at
  have w1 : (List.map (AV.int IntKind.i64) o).length = o.length := List.length_map ..
  have i2 : (decide (i < (↑(List.map (AV.int IntKind.i64) o).length : Int))) = true ↔ (i < (↑o.length : Int)) := (by rw [w1] <;> exact i_dec)
  rcases Classical.em (i < (↑o.length : Int)) with d3 | d3
  · have H := H.1 d3
    have k4 := H.1; have H := H.2
    have w5 : IntKind.i64.wrap (i - 1) = i - 1 := wI64 k4
    have k6 := H.1; have H := H.2
    have i7 : (decide (0 ≤ IntKind.i64.wrap (i - 1))) = true ↔ (0 ≤ i - 1) := (by rw [w5] <;> exact i_dec)
    have k8 := H.1; have H := H.2
    have i9 : (decide ((IntKind.i64.wrap (i - 1)).toNat < (List.map (AV.int IntKind.i64) o).length)) = true ↔ ((i - 1).toNat < o.length) := (by rw [w1, w5] <;> exact i_dec)
    have k10 := H.1; have H := H.2
    have i11 : (decide (0 ≤ o.getD (i - 1).toNat default)) = true ↔ (0 ≤ o.getD (i - 1).toNat default) := i_dec
    have k12 := H.1; have H := H.2
    have w13 : (List.map G2.a gs).length = gs.length := List.length_map ..
    have i14 : (decide ((o.getD (i - 1).toNat default).toNat < (List.map G2.a gs).length)) = true ↔ ((o.getD (i - 1).toNat default).toNat < gs.length) := (by rw [w13] <;> exact i_dec)
    have k15 := H.1; have H := H.2
    have i16 : (decide (0 ≤ i)) = true ↔ (0 ≤ i) := i_dec
    have k17 := H.1; have H := H.2
    have i18 : (decide (i.toNat < (List.map (AV.int IntKind.i64) o).length)) = true ↔ (i.toNat < o.length) := (by rw [w1] <;> exact i_dec)
    have k19 := H.1; have H := H.2
    have i20 : (decide (0 ≤ o.getD i.toNat default)) = true ↔ (0 ≤ o.getD i.toNat default) := i_dec
    have k21 := H.1; have H := H.2
    have i22 : (decide ((o.getD i.toNat default).toNat < (List.map G2.a gs).length)) = true ↔ ((o.getD i.toNat default).toNat < gs.length) := (by rw [w13] <;> exact i_dec)
    have k23 := H.1; have H := H.2
    have k24 := H.1; have H := H.2
    have w25 : IntKind.i64.wrap (s + Sp.dist (gs.getD (o.getD (i - 1).toNat default).toNat default).x (gs.getD (o.getD (i - 1).toNat default).toNat default).y (gs.getD (o.getD i.toNat default).toNat default).x (gs.getD (o.getD i.toNat default).toNat default).y) = s + Sp.dist (gs.getD (o.getD (i - 1).toNat default).toNat default).x (gs.getD (o.getD (i - 1).toNat default).toNat default).y (gs.getD (o.getD i.toNat default).toNat default).x (gs.getD (o.getD i.toNat default).toNat default).y := wI64 k24
    have k26 := H.1; have H := H.2
    have w27 : IntKind.i64.wrap (i + 1) = i + 1 := wI64 k26
    exact path_wp (G := given kp33 [(5, 6, .elem (AV.int IntKind.i64 (o.getD (i - 1).toNat default))), (5, 8, .elem (AV.agg [AV.int IntKind.i64 (gs.getD (o.getD (i - 1).toNat default).toNat default).x, AV.int IntKind.i64 (gs.getD (o.getD (i - 1).toNat default).toNat default).y])), (5, 13, .elem (AV.int IntKind.i64 (o.getD i.toNat default))), (5, 15, .elem (AV.agg [AV.int IntKind.i64 (gs.getD (o.getD i.toNat default).toNat default).x, AV.int IntKind.i64 (gs.getD (o.getD i.toNat default).toNat default).y])), (5, 16, .call (AV.int IntKind.i64 (Sp.dist (gs.getD (o.getD (i - 1).toNat default).toNat default).x (gs.getD (o.getD (i - 1).toNat default).toNat default).y (gs.getD (o.getD i.toNat default).toNat default).x (gs.getD (o.getD i.toNat default).toNat default).y)) none)] []) 1000 [true] ⟨(atC (cd Try.f33) [1, 1, 0, 1, 0, 0]), [(0, AV.vec fl 2 (List.map G2.a gs)), (1, AV.vec fm 1 (List.map (AV.int IntKind.i64) o)), (5, AV.int IntKind.i64 (IntKind.i64.wrap (s + Sp.dist (gs.getD (o.getD (i - 1).toNat default).toNat default).x (gs.getD (o.getD (i - 1).toNat default).toNat default).y (gs.getD (o.getD i.toNat default).toNat default).x (gs.getD (o.getD i.toNat default).toNat default).y))), (6, AV.int IntKind.i64 (IntKind.i64.wrap (i + 1)))], [], [(decide (i < (↑(List.map (AV.int IntKind.i64) o).length : Int))) == true, decide (0 ≤ IntKind.i64.wrap (i - 1)), decide ((IntKind.i64.wrap (i - 1)).toNat < (List.map (AV.int IntKind.i64) o).length), decide (0 ≤ o.getD (i - 1).toNat default), decide ((o.getD (i - 1).toNat default).toNat < (List.map G2.a gs).length), decide (0 ≤ i), decide (i.toNat < (List.map (AV.int IntKind.i64) o).length), decide (0 ≤ o.getD i.toNat default), decide ((o.getD i.toNat default).toNat < (List.map G2.a gs).length)], [((List.map (AV.int IntKind.i64) o).get?Internal (IntKind.i64.wrap (i - 1)).toNat = some (AV.int IntKind.i64 (o.getD (i - 1).toNat default))), ((List.map G2.a gs).get?Internal (o.getD (i - 1).toNat default).toNat = some (AV.agg [AV.int IntKind.i64 (gs.getD (o.getD (i - 1).toNat default).toNat default).x, AV.int IntKind.i64 (gs.getD (o.getD (i - 1).toNat default).toNat default).y])), ((List.map (AV.int IntKind.i64) o).get?Internal i.toNat = some (AV.int IntKind.i64 (o.getD i.toNat default))), ((List.map G2.a gs).get?Internal (o.getD i.toNat default).toNat = some (AV.agg [AV.int IntKind.i64 (gs.getD (o.getD i.toNat default).toNat default).x, AV.int IntKind.i64 (gs.getD (o.getD i.toNat default).toNat default).y]))], [⟨true, false, 16, [AV.agg [AV.int IntKind.i64 (gs.getD (o.getD (i - 1).toNat default).toNat default).x, AV.int IntKind.i64 (gs.getD (o.getD (i - 1).toNat default).toNat default).y], AV.agg [AV.int IntKind.i64 (gs.getD (o.getD i.toNat default).toNat default).x, AV.int IntKind.i64 (gs.getD (o.getD i.toNat default).toNat default).y]], [], AV.int IntKind.i64 (Sp.dist (gs.getD (o.getD (i - 1).toNat default).toNat default).x (gs.getD (o.getD (i - 1).toNat default).toNat default).y (gs.getD (o.getD i.toNat default).toNat default).x (gs.getD (o.getD i.toNat default).toNat default).y), []⟩]⟩ (by kernel_rfl) (allB_cons (beq_t (i2.2 d3)) (allB_cons (i7.2 k8) (allB_cons (i9.2 k10) (allB_cons (i11.2 k12) (allB_cons (i14.2 k15) (allB_cons (i16.2 k17) (allB_cons (i18.2 k19) (allB_cons (i20.2 k21) (allB_cons (i22.2 k23) allB_nil))))))))) (allP_cons (by rw [w5] <;> exact (el_map k10)) (allP_cons (el_map k15) (allP_cons (el_map k19) (allP_cons (el_map k23) allP_nil)))) (allC_cons (fun _ => ((@ev16 ((gs.getD (o.getD (i - 1).toNat default).toNat default).x) ((gs.getD (o.getD (i - 1).toNat default).toNat default).y) ((gs.getD (o.getD i.toNat default).toNat default).x) ((gs.getD (o.getD i.toNat default).toNat default).y) k6) : Ev M1 (Conf.pure 16 [AV.agg [AV.int IntKind.i64 (gs.getD (o.getD (i - 1).toNat default).toNat default).x, AV.int IntKind.i64 (gs.getD (o.getD (i - 1).toNat default).toNat default).y], AV.agg [AV.int IntKind.i64 (gs.getD (o.getD i.toNat default).toNat default).x, AV.int IntKind.i64 (gs.getD (o.getD i.toNat default).toNat default).y]]) (AV.int IntKind.i64 (Sp.dist (gs.getD (o.getD (i - 1).toNat default).toNat default).x (gs.getD (o.getD (i - 1).toNat default).toNat default).y (gs.getD (o.getD i.toNat default).toNat default).x (gs.getD (o.getD i.toNat default).toNat default).y)) [])) allC_nil) (by rw [w25, w27] <;> exact H)
  · have H := H.2 d3
    exact path_ret (G := given kp33 [] []) 1000 [false] (k := ((atC (cd Try.f33) [1, 1, 1, 1])).tail) (env' := [(4, AV.int IntKind.i64 s)]) (L' := []) (asm := [(decide (i < (↑(List.map (AV.int IntKind.i64) o).length : Int))) == false]) (eqs := []) (calls := []) (AV.int IntKind.i64 s) (by kernel_rfl) (by kernel_rfl) (allB_cons (beq_f (fun h => d3 (i2.1 h))) allB_nil) allP_nil allC_nil (pq_of (d := AV.int IntKind.i64 s) (bs := []) (by kernel_rfl) (by kernel_rfl) allB_nil (by kernel_rfl) H)

theorem v12 (fl fm : Bool) (gs : List G2) (o : List Int) (dq : AV) (H :
    (Sp.mOk 200) ∧
    ((¬Sp.checkE gs 200 = 0) → AV.tup [AV.int IntKind.i64 0, AV.int IntKind.i64 (Sp.checkE gs 200)] = dq) ∧
    (¬(¬Sp.checkE gs 200 = 0) → (0 ≤ (↑gs.length : Int) ∧ (↑gs.length : Int) ≤ 1000000) ∧
      ((¬(Sp.isOrd o (↑gs.length : Int) = true)) → AV.tup [AV.int IntKind.i64 0, AV.int IntKind.i64 1] = dq) ∧
      (¬(¬(Sp.isOrd o (↑gs.length : Int) = true)) → (Sp.okG gs) ∧
        (Sp.okO gs o) ∧
        (o.length ≤ 1000) ∧
        AV.tup [AV.int IntKind.i64 (Sp.way gs o), AV.int IntKind.i64 0] = dq))) :
  v12_at fl fm gs o (PureQ dq) := by
  unfold v12_at
  have k1 := H.1; have H := H.2
  have i2 : (Sp.checkE gs 200 != 0) = true ↔ (¬Sp.checkE gs 200 = 0) := i_ne
  rcases Classical.em (¬Sp.checkE gs 200 = 0) with d3 | d3
  · have H := H.1 d3
    exact path_ret (G := given kp12 [(1, 1, .call (AV.int IntKind.i64 (Sp.checkE gs 200)) none)] []) 1000 [true] (k := ((atC (cd Try.f12) [1, 0, 1, 1, 0, 1])).tail) (env' := [(4, AV.int IntKind.i64 0), (5, AV.int IntKind.i64 (Sp.checkE gs 200))]) (L' := []) (asm := [(Sp.checkE gs 200 != 0) == true]) (eqs := []) (calls := [⟨true, false, 28, [AV.vec fl 2 (List.map G2.a gs), AV.int IntKind.i64 200], [], AV.int IntKind.i64 (Sp.checkE gs 200), []⟩]) (AV.tup [AV.int IntKind.i64 0, AV.int IntKind.i64 (Sp.checkE gs 200)]) (by kernel_rfl) (by kernel_rfl) (allB_cons (beq_t (i2.2 d3)) allB_nil) allP_nil (allC_cons (fun _ => ((@ev28 (fl) (gs) (200) k1) : Ev M1 (Conf.pure 28 [AV.vec fl 2 (List.map G2.a gs), AV.int IntKind.i64 200]) (AV.int IntKind.i64 (Sp.checkE gs 200)) [])) allC_nil) (pq_of (d := AV.tup [AV.int IntKind.i64 0, AV.int IntKind.i64 (Sp.checkE gs 200)]) (bs := []) (by kernel_rfl) (by kernel_rfl) allB_nil (by kernel_rfl) H)
  · have H := H.2 d3
    have w4 : (List.map G2.a gs).length = gs.length := List.length_map ..
    have k5 := H.1; have H := H.2
    have i6 : (!Sp.isOrd o (↑gs.length : Int)) = true ↔ (¬(Sp.isOrd o (↑gs.length : Int) = true)) := (i_not (i_var _))
    rcases Classical.em (¬(Sp.isOrd o (↑gs.length : Int) = true)) with d7 | d7
    · have H := H.1 d7
      exact path_ret (G := given kp12 [(1, 1, .call (AV.int IntKind.i64 (Sp.checkE gs 200)) none), (4, 3, .call (AV.bool (Sp.isOrd o (↑gs.length : Int))) none)] []) 1000 [false, true] (k := ((atC (cd Try.f12) [1, 1, 0, 1, 0, 1])).tail) (env' := [(4, AV.int IntKind.i64 0), (5, AV.int IntKind.i64 1)]) (L' := []) (asm := [(Sp.checkE gs 200 != 0) == false, (!Sp.isOrd o (↑gs.length : Int)) == true]) (eqs := []) (calls := [⟨true, false, 28, [AV.vec fl 2 (List.map G2.a gs), AV.int IntKind.i64 200], [], AV.int IntKind.i64 (Sp.checkE gs 200), []⟩, ⟨true, false, 29, [AV.vec fm 1 (List.map (AV.int IntKind.i64) o), AV.int IntKind.i64 (↑(List.map G2.a gs).length : Int)], [], AV.bool (Sp.isOrd o (↑gs.length : Int)), []⟩]) (AV.tup [AV.int IntKind.i64 0, AV.int IntKind.i64 1]) (by kernel_rfl) (by kernel_rfl) (allB_cons (beq_f (fun h => d3 (i2.1 h))) (allB_cons (beq_t (i6.2 d7)) allB_nil)) allP_nil (allC_cons (fun _ => ((@ev28 (fl) (gs) (200) k1) : Ev M1 (Conf.pure 28 [AV.vec fl 2 (List.map G2.a gs), AV.int IntKind.i64 200]) (AV.int IntKind.i64 (Sp.checkE gs 200)) [])) (allC_cons (fun _ => ((by rw [w4] <;> exact (@ev29 (fm) (o) ((↑gs.length : Int)) k5)) : Ev M1 (Conf.pure 29 [AV.vec fm 1 (List.map (AV.int IntKind.i64) o), AV.int IntKind.i64 (↑(List.map G2.a gs).length : Int)]) (AV.bool (Sp.isOrd o (↑gs.length : Int))) [])) allC_nil)) (pq_of (d := AV.tup [AV.int IntKind.i64 0, AV.int IntKind.i64 1]) (bs := []) (by kernel_rfl) (by kernel_rfl) allB_nil (by kernel_rfl) H)
    · have H := H.2 d7
      have k8 := H.1; have H := H.2
      have k9 := H.1; have H := H.2
      have k10 := H.1; have H := H.2
      exact path_ret (G := given kp12 [(1, 1, .call (AV.int IntKind.i64 (Sp.checkE gs 200)) none), (4, 3, .call (AV.bool (Sp.isOrd o (↑gs.length : Int))) none), (6, 2, .call (AV.int IntKind.i64 (Sp.way gs o)) none)] []) 1000 [false, false] (k := ((atC (cd Try.f12) [1, 1, 1, 1])).tail) (env' := [(4, AV.int IntKind.i64 (Sp.way gs o)), (5, AV.int IntKind.i64 0)]) (L' := []) (asm := [(Sp.checkE gs 200 != 0) == false, (!Sp.isOrd o (↑gs.length : Int)) == false]) (eqs := []) (calls := [⟨true, false, 28, [AV.vec fl 2 (List.map G2.a gs), AV.int IntKind.i64 200], [], AV.int IntKind.i64 (Sp.checkE gs 200), []⟩, ⟨true, false, 29, [AV.vec fm 1 (List.map (AV.int IntKind.i64) o), AV.int IntKind.i64 (↑(List.map G2.a gs).length : Int)], [], AV.bool (Sp.isOrd o (↑gs.length : Int)), []⟩, ⟨true, false, 30, [AV.vec fl 2 (List.map G2.a gs), AV.vec fm 1 (List.map (AV.int IntKind.i64) o)], [], AV.int IntKind.i64 (Sp.way gs o), []⟩]) (AV.tup [AV.int IntKind.i64 (Sp.way gs o), AV.int IntKind.i64 0]) (by kernel_rfl) (by kernel_rfl) (allB_cons (beq_f (fun h => d3 (i2.1 h))) (allB_cons (beq_f (fun h => d7 (i6.1 h))) allB_nil)) allP_nil (allC_cons (fun _ => ((@ev28 (fl) (gs) (200) k1) : Ev M1 (Conf.pure 28 [AV.vec fl 2 (List.map G2.a gs), AV.int IntKind.i64 200]) (AV.int IntKind.i64 (Sp.checkE gs 200)) [])) (allC_cons (fun _ => ((by rw [w4] <;> exact (@ev29 (fm) (o) ((↑gs.length : Int)) k5)) : Ev M1 (Conf.pure 29 [AV.vec fm 1 (List.map (AV.int IntKind.i64) o), AV.int IntKind.i64 (↑(List.map G2.a gs).length : Int)]) (AV.bool (Sp.isOrd o (↑gs.length : Int))) [])) (allC_cons (fun _ => ((@ev30 (fl) (fm) (gs) (o) k8 k9 k10) : Ev M1 (Conf.pure 30 [AV.vec fl 2 (List.map G2.a gs), AV.vec fm 1 (List.map (AV.int IntKind.i64) o)]) (AV.int IntKind.i64 (Sp.way gs o)) [])) allC_nil))) (pq_of (d := AV.tup [AV.int IntKind.i64 (Sp.way gs o), AV.int IntKind.i64 0]) (bs := []) (by kernel_rfl) (by kernel_rfl) allB_nil (by kernel_rfl) H)


end Go.Av

/- WHAT Length ANSWERS. -/
namespace Go.Av
open Go.Proofs

theorem loop33 {fl fm : Bool} {gs : List G2} {o : List Int} {dq : AV} (hg : Sp.okG gs) (ho : Sp.okO gs o) (hl : o.length ≤ 1000) : ∀ (k i : Nat) (s : Int), i + 1 + k = o.length → 0 ≤ s → s + 20000000 * k ≤ 20000000000 → AV.int .i64 (s + Sp.way gs (o.drop i)) = dq → v33a_at fl fm gs o s (i + 1 : Nat) (PureQ dq) := by
  intro k
  induction k with
  | zero =>
    intro i s hi h0 h1 hq
    rw [drop_getD (show i < o.length by omega), List.drop_eq_nil_of_le (by omega), Sp.way, Int.add_zero] at hq
    exact v33a _ _ _ _ _ _ _ ⟨fun h => by omega, fun _ => hq⟩
  | succ k ih =>
    intro i s hi h0 h1 hq
    rw [drop_getD (show i < o.length by omega), drop_getD (show i + 1 < o.length by omega), Sp.way, ← drop_getD (show i + 1 < o.length by omega)] at hq
    have m1 := ho _ (getD_mem (show i < o.length by omega))
    have m2 := ho _ (getD_mem (show i + 1 < o.length by omega))
    have hd := dAt_le hg (o.getD i default) (o.getD (i + 1) default)
    have e1 : (((i + 1 : Nat) : Int) - 1).toNat = i := by omega
    refine v33a _ _ _ _ _ _ _ ⟨fun _ => ?_, fun h => by omega⟩
    rw [e1, Int.toNat_natCast]
    refine ⟨by omega, ⟨(okG_at hg _).1, (okG_at hg _).2, (okG_at hg _).1, (okG_at hg _).2⟩, by omega, by omega, m1.1, by omega, by omega, by omega, m2.1, by omega, ?_, by omega, ?_⟩
    · show -9223372036854775808 ≤ s + Sp.dAt gs (o.getD i default) (o.getD (i + 1) default) ∧ s + Sp.dAt gs (o.getD i default) (o.getD (i + 1) default) ≤ 9223372036854775807
      omega
    · have := ih (i + 1) (s + Sp.dAt gs (o.getD i default) (o.getD (i + 1) default)) (by omega) (by omega) (by omega) (by rw [← hq, Int.add_assoc])
      exact this

theorem ev33 (fl fm : Bool) (gs : List G2) (o : List Int) (hg : Sp.okG gs) (ho : Sp.okO gs o) (hl : o.length ≤ 1000) : Ev M1 (.pure 33 [gsA fl gs, isA fm o]) (.int .i64 (Sp.way gs o)) [] := by
  refine call33 (v33 fl fm gs o _ ?_)
  cases o with
  | nil => exact v33a _ _ _ _ _ _ _ ⟨fun h => by simp at h, fun _ => rfl⟩
  | cons x o => exact loop33 hg ho hl o.length 0 0 (by simp; omega) (by omega) (by simp at hl; omega) (by simp)

namespace Sp
def lengthE (gs : List G2) (o : List Int) : Int := if checkE gs 200 = 0 then (if isOrd o gs.length = true then 0 else 1) else checkE gs 200
def lengthV (gs : List G2) (o : List Int) : Int := if lengthE gs o = 0 then way gs o else 0
end Sp

theorem isOrd_okO {gs : List G2} {o : List Int} (h : Sp.isOrd o gs.length = true) : Sp.okO gs o ∧ o.length = gs.length :=
  ⟨fun x hx => (isOrd_facts h).2.1 x hx, by have := (isOrd_facts h).1; omega⟩

theorem ev12 (fl fm : Bool) (gs : List G2) (o : List Int) : Ev M1 (.pure 12 [gsA fl gs, isA fm o]) (.tup [.int .i64 (Sp.lengthV gs o), .int .i64 (Sp.lengthE gs o)]) [] := by
  refine call12 (v12 fl fm gs o _ ⟨by simp [Sp.mOk], fun h => ?_, fun h => ⟨by have := (check_okG (Classical.not_not.1 h)).2; omega, fun k => ?_, fun k => ?_⟩⟩)
  · have e : Sp.lengthE gs o = Sp.checkE gs 200 := if_neg h
    rw [Sp.lengthV, e, if_neg h]
  · have h := Classical.not_not.1 h
    have e : Sp.lengthE gs o = 1 := by rw [Sp.lengthE, if_pos h, if_neg k]
    rw [Sp.lengthV, e, if_neg (by simp)]
  · have h := Classical.not_not.1 h
    have k := Classical.not_not.1 k
    have e : Sp.lengthE gs o = 0 := by rw [Sp.lengthE, if_pos h, if_pos k]
    obtain ⟨c1, c2⟩ := check_okG h
    obtain ⟨c3, c4⟩ := isOrd_okO k
    exact ⟨c1, c3, by omega, by rw [Sp.lengthV, e, if_pos rfl]⟩
end Go.Av

/- RUNS WITHOUT UNKNOWNS: an evaluator with fuel, and that it gives the evaluation relation. No program in sight. -/
namespace Go.Av

section
variable {P : Unit → Program} {inl : FuncId → Bool} {call : Answer}

/-- A call's facts come from the answers. -/
def FromCall (inl : FuncId → Bool) (call : Answer) (c : CF) : Prop :=
  match c.own with
  | true => ∃ o, call c.f c.args c.L = some (c.v, o) ∧ c.L' = o.getD c.L ∧ (inl c.f = true ∨ (inl c.f = false ∧ ∃ L1, o = some L1))
  | false => inl c.f = false ∧ call c.f c.args [] = some (c.v, none)

theorem callF_from {L : Heap} {g : FuncId} {args : List AV} {r : SR} (h : callF inl call L g args = some r) : ∀ c ∈ r.calls, FromCall inl call c := by
  unfold callF at h
  cases hin : inl g with
  | true =>
    simp only [hin, cond_true] at h
    split at h
    · split at h
      · rename_i v o hc
        split at h
        · simp only [Option.some.injEq] at h; subst h
          intro c hcm
          simp only [List.mem_singleton] at hcm; subst hcm
          exact ⟨o, hc, rfl, .inl hin⟩
        · simp at h
      · simp at h
    · simp at h
  | false =>
    simp only [hin, cond_false] at h
    split at h
    · rename_i ds _
      split at h
      · rename_i d hc
        split at h
        · have : ∀ r' : SR, r'.calls = [⟨true, false, g, ds, [], d, []⟩] → ∀ c ∈ r'.calls, FromCall inl call c := by
            intro r' e c hcm
            rw [e] at hcm
            simp only [List.mem_singleton] at hcm; subst hcm
            exact ⟨hin, hc⟩
          split at h <;> (simp only [Option.some.injEq] at h; subst h; exact this _ rfl)
        · simp at h
      · rename_i v L1 hc
        split at h
        · split at h
          · split at h
            · simp only [Option.some.injEq] at h; subst h
              intro c hcm
              simp only [List.mem_singleton] at hcm; subst hcm
              exact ⟨some L1, hc, rfl, .inr ⟨hin, L1, rfl⟩⟩
            · simp at h
          · simp at h
        · simp at h
      · simp at h
    · simp at h

theorem quiet_calls {x : Option AV} {r : SR} (h : quiet x = some r) : r.calls = [] := by
  unfold quiet at h
  split at h
  · simp only [Option.some.injEq] at h; subst h; rfl
  · simp at h

theorem loadA_calls {el : Option AV} {L : Heap} {T : TypeId} {p : AV} {r : SR} (h : loadA P el L T p = some r) : r.calls = [] := by
  unfold loadA at h
  repeat' split at h
  all_goals first | (simp only [Option.some.injEq] at h; subst h; rfl) | simp at h
theorem storeA_calls {el : Option AV} {L : Heap} {T : TypeId} {p v : AV} {r : SR} (h : storeA P el L T p v = some r) : r.calls = [] := by
  unfold storeA at h
  repeat' split at h
  all_goals first | (simp only [Option.some.injEq] at h; subst h; rfl) | simp at h
theorem boxA_calls {L : Heap} {x : AV} {r : SR} (h : boxA L x = some r) : r.calls = [] := by
  unfold boxA at h
  repeat' split at h
  all_goals first | (simp only [Option.some.injEq] at h; subst h; rfl) | simp at h
theorem binA_calls {op : BinOp} {T : TypeId} {x y : AV} {r : SR} (h : binA P op T x y = some r) : r.calls = [] := by
  unfold binA intBin strBin at h
  repeat' split at h
  all_goals first | exact quiet_calls h | (simp only [Option.some.injEq] at h; subst h; rfl) | simp at h
theorem indexA_calls {T : TypeId} {x y : AV} {r : SR} (h : indexA P T x y = some r) : r.calls = [] := by
  unfold indexA at h
  repeat' split at h
  all_goals first | (simp only [Option.some.injEq] at h; subst h; rfl) | simp at h
theorem indexAddrA_calls {L : Heap} {T : TypeId} {x y : AV} {r : SR} (h : indexAddrA P L T x y = some r) : r.calls = [] := by
  unfold indexAddrA at h
  repeat' split at h
  all_goals first | (simp only [Option.some.injEq] at h; subst h; rfl) | simp at h
theorem sliceA_calls {L : Heap} {T : TypeId} {x : AV} {a b c : Option AV} {r : SR} (h : sliceA P L T x a b c = some r) : r.calls = [] := by
  unfold sliceA at h
  repeat' split at h
  all_goals first | (simp only [Option.some.injEq] at h; subst h; rfl) | simp at h
theorem makeSliceA_calls {L : Heap} {T : TypeId} {x y : AV} {r : SR} (h : makeSliceA P L T x y = some r) : r.calls = [] := by
  unfold makeSliceA at h
  repeat' split at h
  all_goals first | (simp only [Option.some.injEq] at h; subst h; rfl) | simp at h
theorem buildSliceA_calls {keep : Bool} {L : Heap} {T : TypeId} {n : Nat} {ps : List (Nat × AV)} {r : SR} (h : buildSliceA P keep L T n ps = some r) : r.calls = [] := by
  unfold buildSliceA at h
  cases keep <;> simp only [cond_true, cond_false] at h <;> (repeat' split at h) <;> first | (simp only [Option.some.injEq] at h; subst h; rfl) | simp at h
theorem appendA_calls {L : Heap} {T : TypeId} {x y : AV} {r : SR} (h : appendA P L T x y = some r) : r.calls = [] := by
  unfold appendA at h
  repeat' split at h
  all_goals first | (simp only [Option.some.injEq] at h; subst h; rfl) | simp at h
theorem clearA_calls {L : Heap} {T : TypeId} {x : AV} {r : SR} (h : clearA P L T x = some r) : r.calls = [] := by
  unfold clearA at h
  repeat' split at h
  all_goals first | (simp only [Option.some.injEq] at h; subst h; rfl) | simp at h
theorem lenA_calls {L : Heap} {T : TypeId} {x : AV} {r : SR} (h : lenA P L T x = some r) : r.calls = [] := by
  unfold lenA at h
  repeat' split at h
  all_goals first | (simp only [Option.some.injEq] at h; subst h; rfl) | simp at h

theorem stepA_from {ρ : Chain → Operand → AV} {L : Heap} {o : Oper} {r : SR} (h : stepA P inl call none ρ L o = some r) : ∀ c ∈ r.calls, FromCall inl call c := by
  have nil : r.calls = [] → ∀ c ∈ r.calls, FromCall inl call c := fun e => by rw [e]; simp
  have hc : ∀ c : Call, callA P inl call (ρ []) L c = some r → ∀ c ∈ r.calls, FromCall inl call c := by
    intro c h
    unfold callA at h
    repeat' split at h
    all_goals first
      | exact callF_from h
      | exact nil (appendA_calls h)
      | exact nil (clearA_calls h)
      | exact nil (lenA_calls h)
      | exact nil (quiet_calls h)
      | simp at h
  obtain ⟨dst, op, type, pos, after, guard⟩ := o
  cases op <;> simp only [stepA] at h
  all_goals first
    | exact nil (quiet_calls h)
    | exact nil (boxA_calls h)
    | exact nil (loadA_calls h)
    | exact nil (storeA_calls h)
    | exact nil (binA_calls h)
    | exact nil (buildSliceA_calls h)
    | exact nil (makeSliceA_calls h)
    | exact nil (sliceA_calls h)
    | exact nil (indexAddrA_calls h)
    | exact nil (indexA_calls h)
    | exact hc _ h
    | (simp only [Option.some.injEq] at h; subst h; exact nil rfl)
    | (split at h <;> first
        | exact nil (quiet_calls h)
        | exact nil (boxA_calls h)
        | (simp only [Option.some.injEq] at h; subst h; exact nil rfl)
        | simp at h)
    | simp at h

theorem runOp_from {n : Nat} {ops : Array Oper} {hot : Nat} {o : Oper} {s s' : RS} (h : runOp P inl call n ops none hot o s = some s') (hs : ∀ c ∈ s.calls, c.cond = true → FromCall inl call c) :
    ∀ c ∈ s'.calls, c.cond = true → FromCall inl call c := by
  unfold runOp at h
  split at h
  · simp at h
  · split at h
    · simp only [Option.some.injEq] at h; subst h; exact hs
    · simp at h
  · rename_i c hc
    split at h
    · split at h
      · simp at h
      · split at h
        · simp only [Option.some.injEq] at h; subst h; exact hs
        · simp at h
    · rename_i r hr
      have hfrom := stepA_from hr
      split at h
      · simp at h
      · split at h
        · simp at h
        · split at h
          · simp only [Option.some.injEq] at h; subst h
            intro c hcm hcc
            rcases List.mem_append.1 hcm with hcm | hcm
            · exact hs c hcm hcc
            · exact hfrom c hcm
          · simp only [Option.some.injEq] at h; subst h
            intro c hcm hcc
            rcases List.mem_append.1 hcm with hcm | hcm
            · exact hs c hcm hcc
            · obtain ⟨c', h1, rfl⟩ := List.mem_map.1 hcm
              exact hfrom c' h1

theorem runOps_from {n : Nat} {ops : Array Oper} {hot : Nat → Nat} : ∀ (l : List Nat) {s s' : RS}, runOps P inl call n ops (fun _ => none) hot l s = some s' → (∀ c ∈ s.calls, c.cond = true → FromCall inl call c) →
    ∀ c ∈ s'.calls, c.cond = true → FromCall inl call c
  | [], s, s', h, hs => by simp only [runOps, Option.some.injEq] at h; subst h; exact hs
  | i :: l, s, s', h, hs => by
    simp only [runOps] at h
    split at h
    · exact runOps_from l h hs
    · split at h
      · rename_i s1 h1
        exact runOps_from l h (runOp_from h1 hs)
      · simp at h
end

/-- What is told for a run: the temporaries that are read later, by function and region; the calls that change the memory. -/
structure Told where
  keep : FuncId → Nat → List Nat
  hot : FuncId → Nat → Nat → List Nat := fun _ _ _ => []
  fresh : FuncId → Bool := fun _ => false

def pureC (r : Option (AV × Heap)) : Option AV :=
  match r with
  | some (v, L') => match pureA L' v with
    | some d => if (versA L' v).all (fun b => b) = true ∧ d.clean = true then some d else none
    | none => none
  | none => none

def runC (M : Mach) (T : Told) : Nat → FuncId → Fi → List Item → Vars → Heap → Option (AV × Heap)
  | 0, _, _, _, _, _ => none
  | n + 1, f, fi, todo, env, L =>
    match todo with
    | [] => match finish M.P fi env L with
      | some v => some (v, L)
      | none => none
    | .inBlock _ :: k => runC M T n f fi k env L
    | .inLoop b :: k => runC M T n f fi (.code b :: .inLoop b :: k) env L
    | .code c :: k =>
      match c with
      | .skip => runC M T n f fi k env L
      | .seq a b => runC M T n f fi (.code a :: .code b :: k) env L
      | .cond c a b => match evV env c with
        | .bool t => runC M T n f fi (.code (bif t then a else b) :: k) env L
        | _ => none
      | .block id b => runC M T n f fi (.code b :: .inBlock id :: k) env L
      | .loop b => runC M T n f fi (.code b :: .inLoop b :: k) env L
      | .exit id => match exitTo id k with
        | some k' => runC M T n f fi k' env L
        | none => none
      | .ret => match finish M.P fi env L with
        | some v => some (v, L)
        | none => none
      | .region id ops draw =>
        match (bif draw then drawOk (hotOf ops (T.hot f id L.length)) ops else true) with
        | false => none
        | true =>
          match runOps M.P M.inl (fun g args L =>
              let r := match (M.P ()).funcs[g]? with
                | some fn => match fn.body, fn.name == "runtime.NumGoroutine" with
                  | some c, false => runC M T n g ⟨fn.ntmps, fn.results.toList⟩ [.code c] (argVars 0 args) L
                  | _, _ => none
                | none => none
              bif M.inl g || T.fresh g then (match r with | some (v, L') => some (v, some L') | none => none) else (match pureC r with | some d => some (d, none) | none => none))
              fi.n ops (fun _ => none) (bif draw then hotOf ops (T.hot f id L.length) else fun _ => 2) (List.range ops.size) ⟨lift env, L, [], [], []⟩ with
          | some s => match s.asm.all (fun b => b), s.eqs with
            | true, [] => runC M T n f fi k (forget (T.keep f id) s.env) s.L
            | _, _ => none
          | none => none
      | _ => none
    | _ => none

def ownC (M : Mach) (T : Told) (n : Nat) (g : FuncId) (args : List AV) (L : Heap) : Option (AV × Heap) :=
  match (M.P ()).funcs[g]? with
  | some fn => match fn.body, fn.name == "runtime.NumGoroutine" with
    | some c, false => runC M T n g ⟨fn.ntmps, fn.results.toList⟩ [.code c] (argVars 0 args) L
    | _, _ => none
  | none => none

theorem own_of {M : Mach} {T : Told} {n : Nat} (ih : ∀ f fi todo env L v L', runC M T n f fi todo env L = some (v, L') → Ev M (.run fi todo env L) v L') {g : FuncId} {args : List AV} {L L' : Heap} {v : AV}
    (h : ownC M T n g args L = some (v, L')) : Ev M (.own g args L) v L' := by
  unfold ownC at h
  split at h
  · rename_i fn hf
    split at h
    · rename_i c hb hn
      exact .own fn c hf hb hn (ih _ _ _ _ _ _ _ h)
    · simp at h
  · simp at h

theorem pure_of_own {M : Mach} {g : FuncId} {args : List AV} {r : Option (AV × Heap)} {d : AV} (hr : ∀ v L', r = some (v, L') → Ev M (.own g args []) v L') (h : pureC r = some d) : Ev M (.pure g args) d [] := by
  unfold pureC at h
  split at h
  · rename_i v L'
    split at h
    · rename_i d' hd
      split at h
      · rename_i hc
        simp only [Option.some.injEq] at h; subst h
        exact .pure (.mono (hr v L' rfl) fun v' K' ⟨e1, e2⟩ => by subst e1; subst e2; exact ⟨d', d', hd, by simpa using hc.1, hc.2, .refl _, rfl, rfl⟩)
      · simp at h
    · simp at h
  · simp at h

theorem runC_sound {M : Mach} {T : Told} : ∀ (n : Nat) (f : FuncId) (fi : Fi) (todo : List Item) (env : Vars) (L : Heap) (v : AV) (L' : Heap), runC M T n f fi todo env L = some (v, L') → Ev M (.run fi todo env L) v L' := by
  intro n
  induction n with
  | zero => intro f fi todo env L v L' h; simp [runC] at h
  | succ n ih =>
    intro f fi todo env L v L' h
    unfold runC at h
    split at h
    · split at h
      · rename_i v' hf
        simp only [Option.some.injEq, Prod.mk.injEq] at h
        obtain ⟨rfl, rfl⟩ := h
        exact .done hf ⟨rfl, rfl⟩
      · simp at h
    · exact .inBlock (ih _ _ _ _ _ _ _ h)
    · exact .inLoop (ih _ _ _ _ _ _ _ h)
    · split at h
      · exact .skip (ih _ _ _ _ _ _ _ h)
      · exact .seq (ih _ _ _ _ _ _ _ h)
      · split at h
        · rename_i t ht
          exact .cond t ht (ih _ _ _ _ _ _ _ h)
        · simp at h
      · exact .block (ih _ _ _ _ _ _ _ h)
      · exact .loop (ih _ _ _ _ _ _ _ h)
      · split at h
        · rename_i k' hk
          exact .exit hk (ih _ _ _ _ _ _ _ h)
        · simp at h
      · split at h
        · rename_i v' hf
          simp only [Option.some.injEq, Prod.mk.injEq] at h
          obtain ⟨rfl, rfl⟩ := h
          exact .ret hf ⟨rfl, rfl⟩
        · simp at h
      · split at h
        · simp at h
        · rename_i id ops draw k hd
          split at h
          · rename_i s hr
            split at h
            · rename_i hA hE
              have hfrom := runOps_from _ hr (by simp)
              refine .region _ (fun _ => none) _ (T.keep f id) s (fun e => ?_) hr (by simpa using hA) (by rw [hE]; simp) (fun c hc h1 h2 => ?_) (fun c hc h1 h2 => ?_) (ih _ _ _ _ _ _ _ h)
              · subst e; simpa using hd
              · have := hfrom c hc h1
                unfold FromCall at this
                rw [h2] at this
                obtain ⟨o, k2, k3, k1⟩ := this
                cases hif : M.inl c.f || T.fresh c.f with
                | true =>
                  simp only [hif, cond_true] at k2
                  split at k2
                  · rename_i v' L2 hown
                    simp only [Option.some.injEq, Prod.mk.injEq] at k2
                    obtain ⟨rfl, rfl⟩ := k2
                    rw [k3]
                    exact own_of ih hown
                  · simp at k2
                | false =>
                  simp only [hif, cond_false] at k2
                  rcases k1 with k1 | ⟨k1, L3, k4⟩
                  · rw [k1] at hif; simp at hif
                  · subst k4
                    split at k2
                    · simp at k2
                    · simp at k2
              · have := hfrom c hc h1
                unfold FromCall at this
                rw [h2] at this
                obtain ⟨hin, k2⟩ := this
                cases hif : M.inl c.f || T.fresh c.f with
                | true =>
                  simp only [hif, cond_true] at k2
                  split at k2
                  · simp at k2
                  · simp at k2
                | false =>
                  simp only [hif, cond_false] at k2
                  split at k2
                  · rename_i d hp
                    simp only [Option.some.injEq, Prod.mk.injEq] at k2
                    obtain ⟨rfl, _⟩ := k2
                    exact pure_of_own (fun v' L2 hown => own_of ih hown) hp
                  · simp at k2
            · simp at h
          · simp at h
      · simp at h
    · simp at h

/-- A call without unknowns. -/
theorem closed {M : Mach} (T : Told) (n : Nat) {g : FuncId} {args : List AV} {d : AV} (h : pureC (ownC M T n g args []) = some d) : Ev M (.pure g args) d [] :=
  pure_of_own (fun _ _ hown => own_of (runC_sound n) hown) h
end Go.Av

/- THE EXAMPLES of the chapter hold: a run without unknowns. -/
namespace Go.Av
open Go.Proofs
def kw10 : List (Nat × List Nat) := [(0, []), (1, [1]), (2, [1, 2, 3]), (3, [1, 2, 3, 4]), (4, [1, 2, 3, 4, 5, 6, 7]), (5, [1, 2, 3, 4, 5, 6, 7, 8, 9]), (6, [0])]
def kw12 : List (Nat × List Nat) := [(0, [0, 1]), (1, [0, 1, 6]), (2, [0, 1, 6, 10]), (3, [4, 5]), (4, [0, 1, 16]), (5, [4, 5]), (6, [4, 5])]
def kw15 : List (Nat × List Nat) := [(0, [2, 3]), (1, [4])]
def kw17 : List (Nat × List Nat) := [(0, [0]), (1, [0, 3]), (2, [0, 3, 4]), (3, [0, 3, 4, 5]), (4, [0, 3, 4, 5, 19]), (5, [0, 3, 4, 5]), (6, [0, 3, 4, 5, 6]), (7, [0, 3, 4, 5, 6, 27, 28, 29]), (8, [0, 3, 4, 5, 6, 27, 28, 29, 30]), (9, [0, 3, 4, 5, 6, 7, 8, 27, 28, 29]), (10, [0, 3, 4, 5, 6, 7, 27, 28, 29, 60]), (11, [0, 3, 4, 5, 6, 27, 28, 29]), (12, [0, 3, 4, 5, 6, 27, 28, 29]), (13, [0, 3, 4, 5]), (14, [2])]
def kw18 : List (Nat × List Nat) := [(0, [0, 1]), (1, [0, 1, 10]), (2, [4]), (3, [0, 1, 5]), (4, [0, 1, 5, 14]), (5, [0, 1, 5]), (6, [0, 1, 5, 25]), (7, [4]), (8, [4])]
def kw20 : List (Nat × List Nat) := [(0, [0]), (1, [3]), (2, [2])]
def kw22 : List (Nat × List Nat) := [(0, [0]), (1, [0, 5]), (2, [0, 5, 10]), (3, [2, 3, 4]), (4, [0, 14]), (5, [2, 3, 4]), (6, [6]), (7, [6]), (8, [2, 3, 4])]
def kw24 : List (Nat × List Nat) := [(0, [0, 1]), (1, [0, 1, 6]), (2, [0, 1, 6, 14]), (3, [4, 5]), (4, [0, 1, 25]), (5, [4, 5]), (6, [0, 1, 26, 27, 28]), (7, [0, 1, 26, 27, 28, 29]), (8, [0, 1, 8, 26, 27, 28]), (9, [0, 1, 26, 27, 28, 37]), (10, [4, 5]), (11, [0, 1, 26, 27, 28]), (12, [9]), (13, [4, 5])]
def kw28 : List (Nat × List Nat) := [(0, [0, 1]), (1, [0, 10]), (2, [4]), (3, [11, 12, 13]), (4, [11, 12, 13, 14]), (5, [6, 11, 12, 13]), (6, [11, 12, 13, 30]), (7, [4]), (8, [11, 12, 13]), (9, [4])]
def kw29 : List (Nat × List Nat) := [(0, [0, 1]), (1, [0, 1, 21]), (2, [4]), (3, [0, 1, 5]), (4, [1, 5, 24, 25, 26]), (5, [1, 5, 24, 25, 26, 27]), (6, [1, 5, 7, 24, 25, 26]), (7, [1, 5, 7, 24, 25, 26, 42]), (8, [4]), (9, [1, 5, 24, 25, 26]), (10, [1, 5, 24, 25, 26]), (11, [4])]
def kw30 : List (Nat × List Nat) := [(0, [0, 1]), (1, [0, 1, 5]), (2, [0, 1, 5, 6]), (3, [0, 1, 5, 6, 10]), (4, [0, 1, 5, 6]), (5, [0, 1, 5, 6]), (6, [4])]
def kw36 : List (Nat × List Nat) := [(0, [0, 1]), (1, [0, 1, 6]), (2, [0, 1, 6, 21]), (3, [4, 5]), (4, [0, 1, 6, 7]), (5, [0, 1, 6, 7, 8]), (6, [0, 1, 6, 7, 8, 9]), (7, [0, 1, 6, 7, 8, 9]), (8, [0, 1, 6, 7, 8, 9, 35, 36]), (9, [0, 1, 6, 7, 8, 9, 35, 36, 37]), (10, [0, 1, 6, 7, 8, 9, 10, 35, 36]), (11, [0, 1, 6, 7, 8, 9, 35, 36]), (12, [0, 1, 6, 7, 8, 9, 35, 36]), (13, [0, 1, 6, 7, 8, 9, 11]), (14, [0, 1, 6, 7, 8, 9, 11, 62, 63]), (15, [0, 1, 6, 7, 8, 9, 11, 62, 63, 64]), (16, [0, 1, 6, 7, 8, 9, 11, 12, 62, 63]), (17, [0, 1, 6, 7, 8, 9, 11, 12, 62, 63, 66, 67]), (18, [0, 1, 6, 7, 8, 9, 11, 12, 62, 63, 66, 67, 68]), (19, [0, 1, 6, 7, 8, 9, 11, 12, 13, 62, 63, 66, 67]), (20, [0, 1, 6, 7, 8, 9, 11, 12, 13, 62, 63, 66, 67, 89]), (21, [0, 1, 6, 7, 8, 9, 11, 12, 62, 63, 66, 67]), (22, [0, 1, 6, 7, 8, 9, 11, 12, 62, 63, 66, 67]), (23, [0, 1, 6, 7, 8, 9, 11, 12, 62, 63]), (24, [0, 1, 6, 7, 8, 9, 11, 12, 62, 63]), (25, [0, 1, 6, 7, 8, 9, 11, 12, 62, 63]), (26, [0, 1, 6, 7, 8, 9, 11, 12, 62, 63]), (27, [0, 1, 6, 7, 8, 9, 11, 12, 62, 63, 117, 118]), (28, [0, 1, 6, 7, 8, 9, 11, 12, 62, 63, 117, 118, 119]), (29, [0, 1, 6, 7, 8, 9, 11, 12, 14, 62, 63, 117, 118]), (30, [0, 1, 6, 7, 8, 9, 11, 12, 14, 15, 62, 63, 117, 118]), (31, [0, 1, 6, 7, 8, 9, 11, 12, 14, 15, 62, 63, 117, 118, 152]), (32, [0, 1, 6, 7, 8, 9, 11, 12, 62, 63, 117, 118]), (33, [0, 1, 6, 7, 8, 9, 11, 12, 62, 63, 117, 118]), (34, [0, 1, 6, 7, 8, 9, 11, 62, 63]), (35, [4, 5])]
def kw38 : List (Nat × List Nat) := [(0, [0, 1, 2, 19]), (1, [0, 1, 2, 27]), (2, []), (3, [0, 1, 2, 41, 42]), (4, [0, 1, 2, 41, 42, 43]), (5, [0, 1, 2, 6, 41, 42]), (6, [0, 1, 2, 6, 41, 42, 48]), (7, [0, 1, 2, 41, 42]), (8, [0, 1, 2, 41, 42])]
def kw40 : List (Nat × List Nat) := [(0, [0, 1]), (1, [0, 1, 6, 7]), (2, [1, 6, 7, 18]), (3, [4, 5]), (4, [1, 6, 7, 20, 21, 22]), (5, [1, 6, 7, 20, 21, 22, 23]), (6, [1, 6, 7, 9, 20, 21, 22]), (7, [1, 6, 7, 20, 21, 22]), (8, [1, 6, 7, 20, 21, 22]), (9, [4, 5])]
def kw41 : List (Nat × List Nat) := [(0, [0]), (1, [0, 4]), (2, [2]), (3, [2])]
def kw45 : List (Nat × List Nat) := [(0, [0, 1]), (1, [4])]
def kw46 : List (Nat × List Nat) := [(0, [0]), (1, [0, 7]), (2, [0]), (3, [0, 3]), (4, [0, 3, 4]), (5, [0, 3, 4, 15]), (6, [0, 3, 4]), (7, [0, 3, 4]), (8, [2])]
def kw47 : List (Nat × List Nat) := [(0, [0, 1]), (1, [0, 1, 7, 8]), (2, [0, 1, 7, 8, 9]), (3, [0, 1, 5, 7, 8]), (4, [0, 1, 5, 7, 8, 16]), (5, [4]), (6, [0, 1, 7, 8]), (7, [4])]
def keeps : FuncId → Nat → List Nat
  | 10 => hotCalls kw10
  | 12 => hotCalls kw12
  | 15 => hotCalls kw15
  | 17 => hotCalls kw17
  | 18 => hotCalls kw18
  | 20 => hotCalls kw20
  | 22 => hotCalls kw22
  | 24 => hotCalls kw24
  | 28 => hotCalls kw28
  | 29 => hotCalls kw29
  | 30 => hotCalls kw30
  | 36 => hotCalls kw36
  | 38 => hotCalls kw38
  | 40 => hotCalls kw40
  | 41 => hotCalls kw41
  | 45 => hotCalls kw45
  | 46 => hotCalls kw46
  | 47 => hotCalls kw47
  | _ => fun _ => []
/-- Which rows the operations of a region whose order is drawn concern. -/
def hots : FuncId → Nat → Nat → List Nat
  | 38, 7, n =>
    let o := 1000 * (2 + bif Nat.beq n 1 then 900 else 1)
    [2, 2 + 1000 * (n + 2), 5 + 1000 * (n + 2), 4 + 1000 * 900, 10 + 1000 * 2, 13 + o, 15 + o, 16 + o, 17 + 1000 * 900, 18 + 1000 * 900, 22 + 1000 * 2, 24 + 1000 * 900, 25 + 1000 * 900, 26 + 1000 * 900, 28]
  | _, _, _ => []
set_option maxRecDepth 1000000 in
theorem ev10 : Ev M1 (.pure 10 []) (.bool true) [] := closed { keep := keeps, hot := hots, fresh := fun f => Nat.beq f 41 } 100000 (by kernel_rfl)
end Go.Av

/- PATHS, written by a program of the prover's. -/
namespace Go.Av
open Go.Proofs
set_option maxRecDepth 100000
def fi13 : Fi := ⟨20, [.tmp 4, .tmp 5]⟩
def kp13 : List (Nat × List Nat) := [(0, [0, 1]), (1, [0, 1, 6]), (2, [0, 1, 6, 10]), (3, [4, 5]), (4, [0, 1, 16]), (5, [4, 5]), (6, [4, 5])]
def v13_at (fl fm : Bool) (gs : List G2) (o : List Int) (Q : AV → Heap → Prop) : Prop := Wp M1 (.run fi13 (atC (cd Try.f13) []) [(0, .vec fl 2 (gs.map G2.a)), (1, .vec fm 1 (o.map (.int .i64)))] []) Q
theorem call13 {args : List AV} {d : AV} (h : Wp M1 (.run fi13 [.code (cd Try.f13)] (argVars 0 args) []) (PureQ d)) : Ev M1 (.pure 13 args) d [] :=
  pure_pq Try.f13 fi13 (by kernel_rfl) (by kernel_rfl) (by kernel_rfl) (by kernel_rfl) h
theorem owncall13 {args : List AV} {L : Heap} {Q : AV → Heap → Prop} (h : Wp M1 (.run fi13 [.code (cd Try.f13)] (argVars 0 args) L) Q) : Wp M1 (.own 13 args L) Q :=
  own_wp Try.f13 fi13 (by kernel_rfl) (by kernel_rfl) (by kernel_rfl) (by kernel_rfl) h
theorem keepcall13 {args : List AV} {L : Heap} {v : AV} {K : Heap} (hk : keepOk L.length v K = true) (h : Wp M1 (.run fi13 [.code (cd Try.f13)] (argVars 0 args) L) (KeepQ v K)) : Ev M1 (.own 13 args L) v K :=
  own_keep Try.f13 fi13 (by kernel_rfl) (by kernel_rfl) (by kernel_rfl) (by kernel_rfl) hk h
theorem v13 (fl fm : Bool) (gs : List G2) (o : List Int) (dq : AV) (H :
    (Sp.mOk 200) ∧
    ((¬Sp.checkE gs 200 = 0) → AV.tup [AV.int IntKind.i64 0, AV.int IntKind.i64 (Sp.checkE gs 200)] = dq) ∧
    (¬(¬Sp.checkE gs 200 = 0) → (0 ≤ (↑gs.length : Int) ∧ (↑gs.length : Int) ≤ 1000000) ∧
      ((¬(Sp.isOrd o (↑gs.length : Int) = true)) → AV.tup [AV.int IntKind.i64 0, AV.int IntKind.i64 1] = dq) ∧
      (¬(¬(Sp.isOrd o (↑gs.length : Int) = true)) → (Sp.okG gs) ∧
        (Sp.okO gs o) ∧
        (o.length ≤ 1000) ∧
        AV.tup [AV.int IntKind.i64 (Sp.way gs o), AV.int IntKind.i64 0] = dq))) :
  v13_at fl fm gs o (PureQ dq) := by
  unfold v13_at
  have k1 := H.1; have H := H.2
  have i2 : (Sp.checkE gs 200 != 0) = true ↔ (¬Sp.checkE gs 200 = 0) := i_ne
  rcases Classical.em (¬Sp.checkE gs 200 = 0) with d3 | d3
  · have H := H.1 d3
    exact path_ret (G := given kp13 [(1, 1, .call (AV.int IntKind.i64 (Sp.checkE gs 200)) none)] []) 1000 [true] (k := ((atC (cd Try.f13) [1, 0, 1, 1, 0, 1])).tail) (env' := [(4, AV.int IntKind.i64 0), (5, AV.int IntKind.i64 (Sp.checkE gs 200))]) (L' := []) (asm := [(Sp.checkE gs 200 != 0) == true]) (eqs := []) (calls := [⟨true, false, 31, [AV.vec fl 2 (List.map G2.a gs), AV.int IntKind.i64 200], [], AV.int IntKind.i64 (Sp.checkE gs 200), []⟩]) (AV.tup [AV.int IntKind.i64 0, AV.int IntKind.i64 (Sp.checkE gs 200)]) (by kernel_rfl) (by kernel_rfl) (allB_cons (beq_t (i2.2 d3)) allB_nil) allP_nil (allC_cons (fun _ => ((@ev31 (fl) (gs) (200) k1) : Ev M1 (Conf.pure 31 [AV.vec fl 2 (List.map G2.a gs), AV.int IntKind.i64 200]) (AV.int IntKind.i64 (Sp.checkE gs 200)) [])) allC_nil) (pq_of (d := AV.tup [AV.int IntKind.i64 0, AV.int IntKind.i64 (Sp.checkE gs 200)]) (bs := []) (by kernel_rfl) (by kernel_rfl) allB_nil (by kernel_rfl) H)
  · have H := H.2 d3
    have w4 : (List.map G2.a gs).length = gs.length := List.length_map ..
    have k5 := H.1; have H := H.2
    have i6 : (!Sp.isOrd o (↑gs.length : Int)) = true ↔ (¬(Sp.isOrd o (↑gs.length : Int) = true)) := (i_not (i_var _))
    rcases Classical.em (¬(Sp.isOrd o (↑gs.length : Int) = true)) with d7 | d7
    · have H := H.1 d7
      exact path_ret (G := given kp13 [(1, 1, .call (AV.int IntKind.i64 (Sp.checkE gs 200)) none), (4, 3, .call (AV.bool (Sp.isOrd o (↑gs.length : Int))) none)] []) 1000 [false, true] (k := ((atC (cd Try.f13) [1, 1, 0, 1, 0, 1])).tail) (env' := [(4, AV.int IntKind.i64 0), (5, AV.int IntKind.i64 1)]) (L' := []) (asm := [(Sp.checkE gs 200 != 0) == false, (!Sp.isOrd o (↑gs.length : Int)) == true]) (eqs := []) (calls := [⟨true, false, 31, [AV.vec fl 2 (List.map G2.a gs), AV.int IntKind.i64 200], [], AV.int IntKind.i64 (Sp.checkE gs 200), []⟩, ⟨true, false, 32, [AV.int IntKind.i64 (↑(List.map G2.a gs).length : Int), AV.vec fm 1 (List.map (AV.int IntKind.i64) o)], [], AV.bool (Sp.isOrd o (↑gs.length : Int)), []⟩]) (AV.tup [AV.int IntKind.i64 0, AV.int IntKind.i64 1]) (by kernel_rfl) (by kernel_rfl) (allB_cons (beq_f (fun h => d3 (i2.1 h))) (allB_cons (beq_t (i6.2 d7)) allB_nil)) allP_nil (allC_cons (fun _ => ((@ev31 (fl) (gs) (200) k1) : Ev M1 (Conf.pure 31 [AV.vec fl 2 (List.map G2.a gs), AV.int IntKind.i64 200]) (AV.int IntKind.i64 (Sp.checkE gs 200)) [])) (allC_cons (fun _ => ((by rw [w4] <;> exact (@ev32 (fm) (o) ((↑gs.length : Int)) k5)) : Ev M1 (Conf.pure 32 [AV.int IntKind.i64 (↑(List.map G2.a gs).length : Int), AV.vec fm 1 (List.map (AV.int IntKind.i64) o)]) (AV.bool (Sp.isOrd o (↑gs.length : Int))) [])) allC_nil)) (pq_of (d := AV.tup [AV.int IntKind.i64 0, AV.int IntKind.i64 1]) (bs := []) (by kernel_rfl) (by kernel_rfl) allB_nil (by kernel_rfl) H)
    · have H := H.2 d7
      have k8 := H.1; have H := H.2
      have k9 := H.1; have H := H.2
      have k10 := H.1; have H := H.2
      exact path_ret (G := given kp13 [(1, 1, .call (AV.int IntKind.i64 (Sp.checkE gs 200)) none), (4, 3, .call (AV.bool (Sp.isOrd o (↑gs.length : Int))) none), (6, 2, .call (AV.int IntKind.i64 (Sp.way gs o)) none)] []) 1000 [false, false] (k := ((atC (cd Try.f13) [1, 1, 1, 1])).tail) (env' := [(4, AV.int IntKind.i64 (Sp.way gs o)), (5, AV.int IntKind.i64 0)]) (L' := []) (asm := [(Sp.checkE gs 200 != 0) == false, (!Sp.isOrd o (↑gs.length : Int)) == false]) (eqs := []) (calls := [⟨true, false, 31, [AV.vec fl 2 (List.map G2.a gs), AV.int IntKind.i64 200], [], AV.int IntKind.i64 (Sp.checkE gs 200), []⟩, ⟨true, false, 32, [AV.int IntKind.i64 (↑(List.map G2.a gs).length : Int), AV.vec fm 1 (List.map (AV.int IntKind.i64) o)], [], AV.bool (Sp.isOrd o (↑gs.length : Int)), []⟩, ⟨true, false, 33, [AV.vec fl 2 (List.map G2.a gs), AV.vec fm 1 (List.map (AV.int IntKind.i64) o)], [], AV.int IntKind.i64 (Sp.way gs o), []⟩]) (AV.tup [AV.int IntKind.i64 (Sp.way gs o), AV.int IntKind.i64 0]) (by kernel_rfl) (by kernel_rfl) (allB_cons (beq_f (fun h => d3 (i2.1 h))) (allB_cons (beq_f (fun h => d7 (i6.1 h))) allB_nil)) allP_nil (allC_cons (fun _ => ((@ev31 (fl) (gs) (200) k1) : Ev M1 (Conf.pure 31 [AV.vec fl 2 (List.map G2.a gs), AV.int IntKind.i64 200]) (AV.int IntKind.i64 (Sp.checkE gs 200)) [])) (allC_cons (fun _ => ((by rw [w4] <;> exact (@ev32 (fm) (o) ((↑gs.length : Int)) k5)) : Ev M1 (Conf.pure 32 [AV.int IntKind.i64 (↑(List.map G2.a gs).length : Int), AV.vec fm 1 (List.map (AV.int IntKind.i64) o)]) (AV.bool (Sp.isOrd o (↑gs.length : Int))) [])) (allC_cons (fun _ => ((@ev33 (fl) (fm) (gs) (o) k8 k9 k10) : Ev M1 (Conf.pure 33 [AV.vec fl 2 (List.map G2.a gs), AV.vec fm 1 (List.map (AV.int IntKind.i64) o)]) (AV.int IntKind.i64 (Sp.way gs o)) [])) allC_nil))) (pq_of (d := AV.tup [AV.int IntKind.i64 (Sp.way gs o), AV.int IntKind.i64 0]) (bs := []) (by kernel_rfl) (by kernel_rfl) allB_nil (by kernel_rfl) H)


end Go.Av

/- WHAT Length OF THE REFERENCE ANSWERS. -/
namespace Go.Av
open Go.Proofs

theorem ev13 (fl fm : Bool) (gs : List G2) (o : List Int) : Ev M1 (.pure 13 [gsA fl gs, isA fm o]) (.tup [.int .i64 (Sp.lengthV gs o), .int .i64 (Sp.lengthE gs o)]) [] := by
  refine call13 (v13 fl fm gs o _ ⟨by simp [Sp.mOk], fun h => ?_, fun h => ⟨by have := (check_okG (Classical.not_not.1 h)).2; omega, fun k => ?_, fun k => ?_⟩⟩)
  · have e : Sp.lengthE gs o = Sp.checkE gs 200 := if_neg h
    rw [Sp.lengthV, e, if_neg h]
  · have h := Classical.not_not.1 h
    have e : Sp.lengthE gs o = 1 := by rw [Sp.lengthE, if_pos h, if_neg k]
    rw [Sp.lengthV, e, if_neg (by simp)]
  · have h := Classical.not_not.1 h
    have k := Classical.not_not.1 k
    have e : Sp.lengthE gs o = 0 := by rw [Sp.lengthE, if_pos h, if_pos k]
    obtain ⟨c1, c2⟩ := check_okG h
    obtain ⟨c3, c4⟩ := isOrd_okO k
    exact ⟨c1, c3, by omega, by rw [Sp.lengthV, e, if_pos rfl]⟩
end Go.Av

/- PATHS, written by a program of the prover's. -/
namespace Go.Av
open Go.Proofs
set_option maxRecDepth 100000
def fi4 : Fi := ⟨42, [.tmp 2]⟩
def kp4 : List (Nat × List Nat) := [(0, [0]), (1, [0, 12]), (2, [2]), (3, [0, 3]), (4, [0, 3, 20]), (5, [2]), (6, [0, 4, 5]), (7, [2])]
def fi6 : Fi := ⟨42, [.tmp 4]⟩
def kp6 : List (Nat × List Nat) := [(0, [0, 1]), (1, [0, 1, 20]), (2, [4]), (3, [0, 1, 5, 6]), (4, [5, 6, 7, 8]), (5, [4])]
def v4_at (fl : Bool) (gs : List G2) (Q : AV → Heap → Prop) : Prop := Wp M1 (.run fi4 (atC (cd Try.f4) []) [(0, .vec fl 2 (gs.map G2.a))] []) Q
def v6_at (fl fw : Bool) (gs : List G2) (w : List Int) (Q : AV → Heap → Prop) : Prop := Wp M1 (.run fi6 (atC (cd Try.f6) []) [(0, .vec fl 2 (gs.map G2.a)), (1, .vec fw 1 (w.map (.int .i64)))] []) Q
theorem call4 {args : List AV} {d : AV} (h : Wp M1 (.run fi4 [.code (cd Try.f4)] (argVars 0 args) []) (PureQ d)) : Ev M1 (.pure 4 args) d [] :=
  pure_pq Try.f4 fi4 (by kernel_rfl) (by kernel_rfl) (by kernel_rfl) (by kernel_rfl) h
theorem owncall4 {args : List AV} {L : Heap} {Q : AV → Heap → Prop} (h : Wp M1 (.run fi4 [.code (cd Try.f4)] (argVars 0 args) L) Q) : Wp M1 (.own 4 args L) Q :=
  own_wp Try.f4 fi4 (by kernel_rfl) (by kernel_rfl) (by kernel_rfl) (by kernel_rfl) h
theorem keepcall4 {args : List AV} {L : Heap} {v : AV} {K : Heap} (hk : keepOk L.length v K = true) (h : Wp M1 (.run fi4 [.code (cd Try.f4)] (argVars 0 args) L) (KeepQ v K)) : Ev M1 (.own 4 args L) v K :=
  own_keep Try.f4 fi4 (by kernel_rfl) (by kernel_rfl) (by kernel_rfl) (by kernel_rfl) hk h
theorem call6 {args : List AV} {d : AV} (h : Wp M1 (.run fi6 [.code (cd Try.f6)] (argVars 0 args) []) (PureQ d)) : Ev M1 (.pure 6 args) d [] :=
  pure_pq Try.f6 fi6 (by kernel_rfl) (by kernel_rfl) (by kernel_rfl) (by kernel_rfl) h
theorem owncall6 {args : List AV} {L : Heap} {Q : AV → Heap → Prop} (h : Wp M1 (.run fi6 [.code (cd Try.f6)] (argVars 0 args) L) Q) : Wp M1 (.own 6 args L) Q :=
  own_wp Try.f6 fi6 (by kernel_rfl) (by kernel_rfl) (by kernel_rfl) (by kernel_rfl) h
theorem keepcall6 {args : List AV} {L : Heap} {v : AV} {K : Heap} (hk : keepOk L.length v K = true) (h : Wp M1 (.run fi6 [.code (cd Try.f6)] (argVars 0 args) L) (KeepQ v K)) : Ev M1 (.own 6 args L) v K :=
  own_keep Try.f6 fi6 (by kernel_rfl) (by kernel_rfl) (by kernel_rfl) (by kernel_rfl) hk h
theorem v4 (fl : Bool) (gs : List G2) (dq : AV) (H :
    (Sp.mOk 12) ∧
    ((¬Sp.checkE gs 12 = 0) → AV.bool true = dq) ∧
    (¬(¬Sp.checkE gs 12 = 0) → (Sp.okG gs ∧ gs.length ≤ 1000) ∧
      ((Sp.nearest gs).length ≤ 1000000) ∧
      ((¬(Sp.same (Sp.nearest gs) (Sp.nearest gs) = true)) → AV.bool false = dq) ∧
      (¬(¬(Sp.same (Sp.nearest gs) (Sp.nearest gs) = true)) → AV.bool (bif bif Sp.lengthE gs (Sp.nearest gs) == 0 then Sp.tree gs == Sp.tree gs else false then decide (Sp.tree gs ≤ Sp.lengthV gs (Sp.nearest gs)) else false) = dq))) :
  v4_at fl gs (PureQ dq) := by
  unfold v4_at
  have k1 := H.1; have H := H.2
  have i2 : (!Sp.checkE gs 12 == 0) = true ↔ (¬Sp.checkE gs 12 = 0) := i_neq
  rcases Classical.em (¬Sp.checkE gs 12 = 0) with d3 | d3
  · have H := H.1 d3
    exact path_ret (G := given kp4 [(1, 0, .call (AV.bool true) none), (1, 4, .call (AV.bool (Sp.checkE gs 12 == 0)) none), (2, 0, .call (AV.bool true) none)] []) 1000 [true] (k := ((atC (cd Try.f4) [1, 0, 1, 0, 1])).tail) (env' := [(2, AV.bool true)]) (L' := []) (asm := [(!Sp.checkE gs 12 == 0) == true]) (eqs := []) (calls := [⟨true, false, 10, [], [], AV.bool true, []⟩, ⟨true, false, 14, [AV.vec fl 2 (List.map G2.a gs), AV.int IntKind.i64 12], [], AV.bool (Sp.checkE gs 12 == 0), []⟩, ⟨true, false, 10, [], [], AV.bool true, []⟩]) (AV.bool true) (by kernel_rfl) (by kernel_rfl) (allB_cons (beq_t (i2.2 d3)) allB_nil) allP_nil (allC_cons (fun _ => ((@ev10 ) : Ev M1 (Conf.pure 10 []) (AV.bool true) [])) (allC_cons (fun _ => ((@ev14 (fl) (gs) (12) k1) : Ev M1 (Conf.pure 14 [AV.vec fl 2 (List.map G2.a gs), AV.int IntKind.i64 12]) (AV.bool (Sp.checkE gs 12 == 0)) [])) (allC_cons (fun _ => ((@ev10 ) : Ev M1 (Conf.pure 10 []) (AV.bool true) [])) allC_nil))) (pq_of (d := AV.bool true) (bs := []) (by kernel_rfl) (by kernel_rfl) allB_nil (by kernel_rfl) H)
  · have H := H.2 d3
    have k4 := H.1; have H := H.2
    have k5 := H.1; have H := H.2
    have i6 : (!Sp.same (Sp.nearest gs) (Sp.nearest gs)) = true ↔ (¬(Sp.same (Sp.nearest gs) (Sp.nearest gs) = true)) := (i_not (i_var _))
    rcases Classical.em (¬(Sp.same (Sp.nearest gs) (Sp.nearest gs) = true)) with d7 | d7
    · have H := H.1 d7
      exact path_ret (G := given kp4 [(1, 0, .call (AV.bool true) none), (1, 4, .call (AV.bool (Sp.checkE gs 12 == 0)) none), (3, 1, .call (AV.vec false 1 (List.map (AV.int IntKind.i64) (Sp.nearest gs))) none), (4, 2, .call (AV.vec false 1 (List.map (AV.int IntKind.i64) (Sp.nearest gs))) none), (4, 3, .call (AV.bool (Sp.same (Sp.nearest gs) (Sp.nearest gs))) none)] []) 1000 [false, true] (k := ((atC (cd Try.f4) [1, 1, 1, 0, 1, 0, 1])).tail) (env' := [(2, AV.bool false)]) (L' := []) (asm := [(!Sp.checkE gs 12 == 0) == false, (!Sp.same (Sp.nearest gs) (Sp.nearest gs)) == true]) (eqs := []) (calls := [⟨true, false, 10, [], [], AV.bool true, []⟩, ⟨true, false, 14, [AV.vec fl 2 (List.map G2.a gs), AV.int IntKind.i64 12], [], AV.bool (Sp.checkE gs 12 == 0), []⟩, ⟨true, false, 17, [AV.vec fl 2 (List.map G2.a gs)], [], AV.vec false 1 (List.map (AV.int IntKind.i64) (Sp.nearest gs)), []⟩, ⟨true, false, 19, [AV.vec fl 2 (List.map G2.a gs)], [], AV.vec false 1 (List.map (AV.int IntKind.i64) (Sp.nearest gs)), []⟩, ⟨true, false, 18, [AV.vec false 1 (List.map (AV.int IntKind.i64) (Sp.nearest gs)), AV.vec false 1 (List.map (AV.int IntKind.i64) (Sp.nearest gs))], [], AV.bool (Sp.same (Sp.nearest gs) (Sp.nearest gs)), []⟩]) (AV.bool false) (by kernel_rfl) (by kernel_rfl) (allB_cons (beq_f (fun h => d3 (i2.1 h))) (allB_cons (beq_t (i6.2 d7)) allB_nil)) allP_nil (allC_cons (fun _ => ((@ev10 ) : Ev M1 (Conf.pure 10 []) (AV.bool true) [])) (allC_cons (fun _ => ((@ev14 (fl) (gs) (12) k1) : Ev M1 (Conf.pure 14 [AV.vec fl 2 (List.map G2.a gs), AV.int IntKind.i64 12]) (AV.bool (Sp.checkE gs 12 == 0)) [])) (allC_cons (fun _ => ((@ev17 (fl) (gs) k4) : Ev M1 (Conf.pure 17 [AV.vec fl 2 (List.map G2.a gs)]) (AV.vec false 1 (List.map (AV.int IntKind.i64) (Sp.nearest gs))) [])) (allC_cons (fun _ => ((@ev19 (fl) (gs) k4) : Ev M1 (Conf.pure 19 [AV.vec fl 2 (List.map G2.a gs)]) (AV.vec false 1 (List.map (AV.int IntKind.i64) (Sp.nearest gs))) [])) (allC_cons (fun _ => ((@ev18 (false) (false) (Sp.nearest gs) (Sp.nearest gs) k5) : Ev M1 (Conf.pure 18 [AV.vec false 1 (List.map (AV.int IntKind.i64) (Sp.nearest gs)), AV.vec false 1 (List.map (AV.int IntKind.i64) (Sp.nearest gs))]) (AV.bool (Sp.same (Sp.nearest gs) (Sp.nearest gs))) [])) allC_nil))))) (pq_of (d := AV.bool false) (bs := []) (by kernel_rfl) (by kernel_rfl) allB_nil (by kernel_rfl) H)
    · have H := H.2 d7
      have i8 : ((Sp.lengthE gs (Sp.nearest gs) == 0) == true && true && true) = true ↔ (Sp.lengthE gs (Sp.nearest gs) = 0) := (i_at (i_at (i_bt i_eq)))
      have i9 : ((Sp.lengthE gs (Sp.nearest gs) == 0) == true && true && true) = true ↔ (Sp.lengthE gs (Sp.nearest gs) = 0) := (i_at (i_at (i_bt i_eq)))
      have i10 : ((bif Sp.lengthE gs (Sp.nearest gs) == 0 then Sp.tree gs == Sp.tree gs else false) == true && true && true) = true ↔ ((Sp.lengthE gs (Sp.nearest gs) = 0) ∧ (Sp.tree gs = Sp.tree gs)) := (i_at (i_at (i_bt (i_band i_eq i_eq))))
      exact path_ret (G := given kp4 [(1, 0, .call (AV.bool true) none), (1, 4, .call (AV.bool (Sp.checkE gs 12 == 0)) none), (3, 1, .call (AV.vec false 1 (List.map (AV.int IntKind.i64) (Sp.nearest gs))) none), (4, 2, .call (AV.vec false 1 (List.map (AV.int IntKind.i64) (Sp.nearest gs))) none), (4, 3, .call (AV.bool (Sp.same (Sp.nearest gs) (Sp.nearest gs))) none), (6, 2, .call (AV.tup [AV.int IntKind.i64 (Sp.lengthV gs (Sp.nearest gs)), AV.int IntKind.i64 (Sp.lengthE gs (Sp.nearest gs))]) none), (7, 4, .call (AV.int IntKind.i64 (Sp.tree gs)) none), (7, 6, .call (AV.int IntKind.i64 (Sp.tree gs)) none), (7, 11, .call (AV.int IntKind.i64 (Sp.tree gs)) none)] []) 1000 [false, false] (k := ((atC (cd Try.f4) [1, 1, 1, 1, 1, 1])).tail) (env' := [(2, AV.bool (bif bif Sp.lengthE gs (Sp.nearest gs) == 0 then Sp.tree gs == Sp.tree gs else false then decide (Sp.tree gs ≤ Sp.lengthV gs (Sp.nearest gs)) else false))]) (L' := []) (asm := [(!Sp.checkE gs 12 == 0) == false, (!Sp.same (Sp.nearest gs) (Sp.nearest gs)) == false]) (eqs := []) (calls := [⟨true, false, 10, [], [], AV.bool true, []⟩, ⟨true, false, 14, [AV.vec fl 2 (List.map G2.a gs), AV.int IntKind.i64 12], [], AV.bool (Sp.checkE gs 12 == 0), []⟩, ⟨true, false, 17, [AV.vec fl 2 (List.map G2.a gs)], [], AV.vec false 1 (List.map (AV.int IntKind.i64) (Sp.nearest gs)), []⟩, ⟨true, false, 19, [AV.vec fl 2 (List.map G2.a gs)], [], AV.vec false 1 (List.map (AV.int IntKind.i64) (Sp.nearest gs)), []⟩, ⟨true, false, 18, [AV.vec false 1 (List.map (AV.int IntKind.i64) (Sp.nearest gs)), AV.vec false 1 (List.map (AV.int IntKind.i64) (Sp.nearest gs))], [], AV.bool (Sp.same (Sp.nearest gs) (Sp.nearest gs)), []⟩, ⟨true, false, 12, [AV.vec fl 2 (List.map G2.a gs), AV.vec false 1 (List.map (AV.int IntKind.i64) (Sp.nearest gs))], [], AV.tup [AV.int IntKind.i64 (Sp.lengthV gs (Sp.nearest gs)), AV.int IntKind.i64 (Sp.lengthE gs (Sp.nearest gs))], []⟩, ⟨(Sp.lengthE gs (Sp.nearest gs) == 0) == true && true && true, false, 20, [AV.vec fl 2 (List.map G2.a gs)], [], AV.int IntKind.i64 (Sp.tree gs), []⟩, ⟨(Sp.lengthE gs (Sp.nearest gs) == 0) == true && true && true, false, 21, [AV.vec fl 2 (List.map G2.a gs)], [], AV.int IntKind.i64 (Sp.tree gs), []⟩, ⟨(bif Sp.lengthE gs (Sp.nearest gs) == 0 then Sp.tree gs == Sp.tree gs else false) == true && true && true, false, 20, [AV.vec fl 2 (List.map G2.a gs)], [], AV.int IntKind.i64 (Sp.tree gs), []⟩]) (AV.bool (bif bif Sp.lengthE gs (Sp.nearest gs) == 0 then Sp.tree gs == Sp.tree gs else false then decide (Sp.tree gs ≤ Sp.lengthV gs (Sp.nearest gs)) else false)) (by kernel_rfl) (by kernel_rfl) (allB_cons (beq_f (fun h => d3 (i2.1 h))) (allB_cons (beq_f (fun h => d7 (i6.1 h))) allB_nil)) allP_nil (allC_cons (fun _ => ((@ev10 ) : Ev M1 (Conf.pure 10 []) (AV.bool true) [])) (allC_cons (fun _ => ((@ev14 (fl) (gs) (12) k1) : Ev M1 (Conf.pure 14 [AV.vec fl 2 (List.map G2.a gs), AV.int IntKind.i64 12]) (AV.bool (Sp.checkE gs 12 == 0)) [])) (allC_cons (fun _ => ((@ev17 (fl) (gs) k4) : Ev M1 (Conf.pure 17 [AV.vec fl 2 (List.map G2.a gs)]) (AV.vec false 1 (List.map (AV.int IntKind.i64) (Sp.nearest gs))) [])) (allC_cons (fun _ => ((@ev19 (fl) (gs) k4) : Ev M1 (Conf.pure 19 [AV.vec fl 2 (List.map G2.a gs)]) (AV.vec false 1 (List.map (AV.int IntKind.i64) (Sp.nearest gs))) [])) (allC_cons (fun _ => ((@ev18 (false) (false) (Sp.nearest gs) (Sp.nearest gs) k5) : Ev M1 (Conf.pure 18 [AV.vec false 1 (List.map (AV.int IntKind.i64) (Sp.nearest gs)), AV.vec false 1 (List.map (AV.int IntKind.i64) (Sp.nearest gs))]) (AV.bool (Sp.same (Sp.nearest gs) (Sp.nearest gs))) [])) (allC_cons (fun _ => ((@ev12 (fl) (false) (gs) (Sp.nearest gs)) : Ev M1 (Conf.pure 12 [AV.vec fl 2 (List.map G2.a gs), AV.vec false 1 (List.map (AV.int IntKind.i64) (Sp.nearest gs))]) (AV.tup [AV.int IntKind.i64 (Sp.lengthV gs (Sp.nearest gs)), AV.int IntKind.i64 (Sp.lengthE gs (Sp.nearest gs))]) [])) (allC_cons (fun hc => ((@ev20 (fl) (gs) k4) : Ev M1 (Conf.pure 20 [AV.vec fl 2 (List.map G2.a gs)]) (AV.int IntKind.i64 (Sp.tree gs)) [])) (allC_cons (fun hc => ((@ev21 (fl) (gs) k4) : Ev M1 (Conf.pure 21 [AV.vec fl 2 (List.map G2.a gs)]) (AV.int IntKind.i64 (Sp.tree gs)) [])) (allC_cons (fun hc => ((@ev20 (fl) (gs) k4) : Ev M1 (Conf.pure 20 [AV.vec fl 2 (List.map G2.a gs)]) (AV.int IntKind.i64 (Sp.tree gs)) [])) allC_nil))))))))) (pq_of (d := AV.bool (bif bif Sp.lengthE gs (Sp.nearest gs) == 0 then Sp.tree gs == Sp.tree gs else false then decide (Sp.tree gs ≤ Sp.lengthV gs (Sp.nearest gs)) else false)) (bs := []) (by kernel_rfl) (by kernel_rfl) allB_nil (by kernel_rfl) H)

theorem v6 (fl fw : Bool) (gs : List G2) (w : List Int) (dq : AV) (H :
    (((¬(((↑gs.length : Int) ≤ 12) ∨ (((↑gs.length : Int) > 199) ∧ ((↑gs.length : Int) < 203)))) ∨ ((↑w.length : Int) > 205)) → AV.bool true = dq) ∧
    (¬((¬(((↑gs.length : Int) ≤ 12) ∨ (((↑gs.length : Int) > 199) ∧ ((↑gs.length : Int) < 203)))) ∨ ((↑w.length : Int) > 205)) → AV.bool (bif Sp.boundR gs w == Sp.boundR gs w then Sp.boundE gs w == Sp.boundE gs w else false) = dq)) :
  v6_at fl fw gs w (PureQ dq) := by
  unfold v6_at
  have w1 : (List.map (AV.int IntKind.i64) w).length = w.length := List.length_map ..
  have i2 : (bif !bif decide ((↑gs.length : Int) ≤ 12) then true else bif decide ((↑gs.length : Int) > 199) then decide ((↑gs.length : Int) < 203) else false then true else decide ((↑(List.map (AV.int IntKind.i64) w).length : Int) > 205)) = true ↔ ((¬(((↑gs.length : Int) ≤ 12) ∨ (((↑gs.length : Int) > 199) ∧ ((↑gs.length : Int) < 203)))) ∨ ((↑w.length : Int) > 205)) := (by rw [w1] <;> exact (i_bor (i_not (i_bor i_dec (i_band i_dec i_dec))) i_dec))
  rcases Classical.em ((¬(((↑gs.length : Int) ≤ 12) ∨ (((↑gs.length : Int) > 199) ∧ ((↑gs.length : Int) < 203)))) ∨ ((↑w.length : Int) > 205)) with d3 | d3
  · have H := H.1 d3
    exact path_ret (G := given kp6 [(1, 0, .call (AV.bool true) none), (1, 4, .call (AV.bool (bif decide ((↑gs.length : Int) ≤ 12) then true else bif decide ((↑gs.length : Int) > 199) then decide ((↑gs.length : Int) < 203) else false)) none), (2, 0, .call (AV.bool true) none)] []) 1000 [true] (k := ((atC (cd Try.f6) [1, 0, 1, 0, 1])).tail) (env' := [(4, AV.bool true)]) (L' := []) (asm := [(bif !bif decide ((↑gs.length : Int) ≤ 12) then true else bif decide ((↑gs.length : Int) > 199) then decide ((↑gs.length : Int) < 203) else false then true else decide ((↑(List.map (AV.int IntKind.i64) w).length : Int) > 205)) == true]) (eqs := []) (calls := [⟨true, false, 10, [], [], AV.bool true, []⟩, ⟨true, false, 11, [AV.vec fl 2 (List.map G2.a gs), AV.int IntKind.i64 12], [], AV.bool (bif decide ((↑gs.length : Int) ≤ 12) then true else bif decide ((↑gs.length : Int) > 199) then decide ((↑gs.length : Int) < 203) else false), []⟩, ⟨true, false, 10, [], [], AV.bool true, []⟩]) (AV.bool true) (by kernel_rfl) (by kernel_rfl) (allB_cons (beq_t (i2.2 d3)) allB_nil) allP_nil (allC_cons (fun _ => ((@ev10 ) : Ev M1 (Conf.pure 10 []) (AV.bool true) [])) (allC_cons (fun _ => ((@ev11 (fl) (gs) (12)) : Ev M1 (Conf.pure 11 [AV.vec fl 2 (List.map G2.a gs), AV.int IntKind.i64 12]) (AV.bool (bif decide ((↑gs.length : Int) ≤ 12) then true else bif decide ((↑gs.length : Int) > 199) then decide ((↑gs.length : Int) < 203) else false)) [])) (allC_cons (fun _ => ((@ev10 ) : Ev M1 (Conf.pure 10 []) (AV.bool true) [])) allC_nil))) (pq_of (d := AV.bool true) (bs := []) (by kernel_rfl) (by kernel_rfl) allB_nil (by kernel_rfl) H)
  · have H := H.2 d3
    exact path_ret (G := given kp6 [(1, 0, .call (AV.bool true) none), (1, 4, .call (AV.bool (bif decide ((↑gs.length : Int) ≤ 12) then true else bif decide ((↑gs.length : Int) > 199) then decide ((↑gs.length : Int) < 203) else false)) none), (3, 2, .call (AV.tup [AV.int IntKind.i64 (Sp.boundR gs w), AV.int IntKind.i64 (Sp.boundE gs w)]) none), (4, 2, .call (AV.tup [AV.int IntKind.i64 (Sp.boundR gs w), AV.int IntKind.i64 (Sp.boundE gs w)]) none)] []) 1000 [false] (k := ((atC (cd Try.f6) [1, 1, 1, 1, 1])).tail) (env' := [(4, AV.bool (bif Sp.boundR gs w == Sp.boundR gs w then Sp.boundE gs w == Sp.boundE gs w else false))]) (L' := []) (asm := [(bif !bif decide ((↑gs.length : Int) ≤ 12) then true else bif decide ((↑gs.length : Int) > 199) then decide ((↑gs.length : Int) < 203) else false then true else decide ((↑(List.map (AV.int IntKind.i64) w).length : Int) > 205)) == false]) (eqs := []) (calls := [⟨true, false, 10, [], [], AV.bool true, []⟩, ⟨true, false, 11, [AV.vec fl 2 (List.map G2.a gs), AV.int IntKind.i64 12], [], AV.bool (bif decide ((↑gs.length : Int) ≤ 12) then true else bif decide ((↑gs.length : Int) > 199) then decide ((↑gs.length : Int) < 203) else false), []⟩, ⟨true, false, 24, [AV.vec fl 2 (List.map G2.a gs), AV.vec fw 1 (List.map (AV.int IntKind.i64) w)], [], AV.tup [AV.int IntKind.i64 (Sp.boundR gs w), AV.int IntKind.i64 (Sp.boundE gs w)], []⟩, ⟨true, false, 25, [AV.vec fl 2 (List.map G2.a gs), AV.vec fw 1 (List.map (AV.int IntKind.i64) w)], [], AV.tup [AV.int IntKind.i64 (Sp.boundR gs w), AV.int IntKind.i64 (Sp.boundE gs w)], []⟩]) (AV.bool (bif Sp.boundR gs w == Sp.boundR gs w then Sp.boundE gs w == Sp.boundE gs w else false)) (by kernel_rfl) (by kernel_rfl) (allB_cons (beq_f (fun h => d3 (i2.1 h))) allB_nil) allP_nil (allC_cons (fun _ => ((@ev10 ) : Ev M1 (Conf.pure 10 []) (AV.bool true) [])) (allC_cons (fun _ => ((@ev11 (fl) (gs) (12)) : Ev M1 (Conf.pure 11 [AV.vec fl 2 (List.map G2.a gs), AV.int IntKind.i64 12]) (AV.bool (bif decide ((↑gs.length : Int) ≤ 12) then true else bif decide ((↑gs.length : Int) > 199) then decide ((↑gs.length : Int) < 203) else false)) [])) (allC_cons (fun _ => ((@ev24 (fl) (fw) (gs) (w)) : Ev M1 (Conf.pure 24 [AV.vec fl 2 (List.map G2.a gs), AV.vec fw 1 (List.map (AV.int IntKind.i64) w)]) (AV.tup [AV.int IntKind.i64 (Sp.boundR gs w), AV.int IntKind.i64 (Sp.boundE gs w)]) [])) (allC_cons (fun _ => ((@ev25 (fl) (fw) (gs) (w)) : Ev M1 (Conf.pure 25 [AV.vec fl 2 (List.map G2.a gs), AV.vec fw 1 (List.map (AV.int IntKind.i64) w)]) (AV.tup [AV.int IntKind.i64 (Sp.boundR gs w), AV.int IntKind.i64 (Sp.boundE gs w)]) [])) allC_nil)))) (pq_of (d := AV.bool (bif Sp.boundR gs w == Sp.boundR gs w then Sp.boundE gs w == Sp.boundE gs w else false)) (bs := []) (by kernel_rfl) (by kernel_rfl) allB_nil (by kernel_rfl) H)


end Go.Av

/- ORDERS AND TREES: what the statements need of them. -/
namespace Go.Av
open Go.Proofs

theorem perm_sum {a b : List Int} (h : List.Perm a b) : a.sum = b.sum := by
  induction h with
  | nil => rfl
  | cons x _ ih => rw [List.sum_cons, List.sum_cons, ih]
  | swap x y l => simp only [List.sum_cons]; omega
  | trans _ _ h1 h2 => rw [h1, h2]

theorem ordFrom_of {n : Int} : ∀ (o : List Int) (sn : List Bool), n ≤ sn.length → (∀ x ∈ o, 0 ≤ x ∧ x < n ∧ sn.getD x.toNat default = false) → o.Nodup → Sp.ordFrom n o sn = true
  | [], _, _, _, _ => rfl
  | x :: o, sn, hs, h, hd => by
    obtain ⟨h1, h2, h3⟩ := h x (by simp)
    rw [List.nodup_cons] at hd
    rw [Sp.ordFrom, if_neg (by rw [h3]; simp; omega)]
    refine ordFrom_of o _ (by simpa using hs) (fun y hy => ?_) hd.2
    obtain ⟨k1, k2, k3⟩ := h y (List.mem_cons_of_mem _ hy)
    refine ⟨k1, k2, ?_⟩
    have hxy : x ≠ y := by rintro rfl; exact hd.1 hy
    rw [getD_set (by omega), if_neg (by omega)]
    exact k3

theorem isOrd_of {n : Nat} {o : List Int} (h : IsOrd n o) : Sp.isOrd o n = true := by
  have := h.len
  unfold Sp.isOrd
  rw [if_neg (by
    intro hc
    rcases hc with hc | hc
    · omega
    · exact hc.2 (h.zero (by omega)))]
  refine ordFrom_of _ _ (by simp) (fun x hx => ⟨(h.rng x hx).1, (h.rng x hx).2, ?_⟩) h.nod
  simp only [List.getD_eq_getElem?_getD, List.getElem?_replicate]
  split <;> rfl
theorem ord_of {n : Nat} {o : List Int} (h : Sp.isOrd o n = true) : IsOrd n o := by
  obtain ⟨h1, h2, h3, h4⟩ := isOrd_facts h
  exact ⟨by omega, h3, h2, fun h0 => h4 (by omega)⟩
theorem IsOrd.okO {gs : List G2} {o : List Int} (h : IsOrd gs.length o) : Sp.okO gs o := fun x hx => h.rng x hx

/-- The cost of a way with weights. -/
theorem cost_way (gs : List G2) (w : List Int) : ∀ (x : Int) (o : List Int), Mst.cost (Sp.cw gs w) (Mst.pairs (x :: o)) = Sp.way gs (x :: o) + 2 * ((x :: o).map fun i => w.getD i.toNat default).sum - w.getD x.toNat default - w.getD ((x :: o).getLast (by simp)).toNat default
  | x, [] => by simp only [Mst.pairs, Mst.cost, Sp.way, List.map_cons, List.map_nil, List.sum_cons, List.sum_nil, List.getLast_singleton]; omega
  | x, y :: o => by
    have ih := cost_way gs w y o
    rw [Mst.pairs, Mst.cost, ih, Sp.way, List.getLast_cons (List.cons_ne_nil y o)]
    simp only [List.map_cons, List.sum_cons]
    show Sp.cw gs w x y + _ = _
    unfold Sp.cw
    omega

theorem range_map_getD (w : List Int) : (List.range w.length).map (fun i => w.getD i default) = w := by
  apply List.ext_getElem (by simp)
  intro i h1 h2
  simp at h1 h2 ⊢
  simp [h2]

theorem ord_sum {n : Nat} {o w : List Int} (h : IsOrd n o) (hw : w.length = n) : (o.map fun i => w.getD i.toNat default).sum = w.sum := by
  have hp : List.Perm o ((List.range n).map fun i : Nat => (i : Int)) := by
    refine (List.perm_ext_iff_of_nodup h.nod ?_).2 fun a => ?_
    · rw [List.nodup_iff_pairwise_ne, List.pairwise_map]
      exact List.Pairwise.imp (fun h => by omega) (List.nodup_iff_pairwise_ne.1 List.nodup_range)
    · constructor
      · intro ha
        obtain ⟨h1, h2⟩ := h.rng a ha
        exact List.mem_map.2 ⟨a.toNat, by simp; omega, by omega⟩
      · intro ha
        obtain ⟨j, hj, rfl⟩ := List.mem_map.1 ha
        exact il_full h.nod h.rng h.len j (by simpa using hj)
  have e := perm_sum (hp.map fun i => w.getD i.toNat default)
  rw [e, List.map_map]
  have : ((fun i : Int => w.getD i.toNat default) ∘ fun i : Nat => (i : Int)) = fun i : Nat => w.getD i default := by funext i; simp
  rw [this, ← hw, range_map_getD]

theorem foldl_min_le : ∀ (w : List Int) (m : Int), w.foldl (fun m x => if x < m then x else m) m ≤ m ∧ ∀ x ∈ w, w.foldl (fun m x => if x < m then x else m) m ≤ x
  | [], m => by simp
  | y :: w, m => by
    obtain ⟨h1, h2⟩ := foldl_min_le w (if y < m then y else m)
    rw [List.foldl_cons]
    refine ⟨?_, fun x hx => ?_⟩
    · by_cases h : y < m
      · rw [if_pos h] at h1 ⊢; omega
      · rw [if_neg h] at h1 ⊢; omega
    · rcases List.mem_cons.1 hx with rfl | hx
      · by_cases h : x < m
        · rw [if_pos h] at h1 ⊢; omega
        · rw [if_neg h] at h1 ⊢; omega
      · exact h2 x hx
theorem minL_mem {w : List Int} {x : Int} (h : x ∈ w) : Sp.minL w ≤ x := by
  obtain ⟨h1, h2⟩ := foldl_min_le (w.drop 1) (w.getD 0 default)
  obtain ⟨j, hj, rfl⟩ := mem_getD h
  unfold Sp.minL
  cases j with
  | zero => exact h1
  | succ j =>
    refine h2 _ ?_
    have e := drop_getD (d := w.drop 1) (i := j) (by rw [List.length_drop]; omega)
    have : w.getD (j + 1) default = (w.drop 1).getD j default := by simp [List.getD_eq_getElem?_getD, List.getElem?_drop, Nat.add_comm]
    rw [this]
    exact getD_mem (by rw [List.length_drop]; omega)

/-- No tree costs more than the way over all. -/
theorem mst_way {gs : List G2} {o w : List Int} (h : IsOrd gs.length o) (hw : w.length = gs.length) (h2 : 2 ≤ gs.length) : Sp.boundV gs w ≤ Sp.way gs o := by
  have hz := h.zero (by omega)
  have hl := h.len
  cases o with
  | nil => simp at hl; omega
  | cons x o =>
    have hx : x = 0 := hz
    subst hx
    cases o with
    | nil => simp at hl; omega
    | cons y o =>
      have h1 := Mst.rem_way (cw_symm gs w) h.nod h.rng h.len
      rw [cost_way, ord_sum h hw] at h1
      have hlast : (0 :: y :: o).getLast (by simp) ∈ y :: o := by
        rw [List.getLast_cons (by simp)]
        exact List.getLast_mem _
      have hne : (0 :: y :: o).getLast (by simp) ≠ 0 := by
        intro e
        rw [e] at hlast
        exact (List.nodup_cons.1 h.nod).1 hlast
      obtain ⟨r1, r2⟩ := h.rng _ (List.mem_cons_of_mem _ hlast)
      generalize (0 :: y :: o).getLast (by simp) = z at *
      have hmin : Sp.minL (w.drop 1) ≤ w.getD z.toNat default := by
        refine minL_mem ?_
        have : w.getD z.toNat default = (w.drop 1).getD (z.toNat - 1) default := by
          simp only [List.getD_eq_getElem?_getD, List.getElem?_drop]
          congr 2; omega
        rw [this]
        exact getD_mem (by rw [List.length_drop]; omega)
      have hm : Sp.mst gs w = Mst.rem (Sp.cw gs w) gs.length [0] := by unfold Sp.mst; rw [if_neg (by omega)]; rfl
      unfold Sp.boundV
      rw [hm]
      have e0 : w.getD (0 : Int).toNat default = w.getD 0 default := rfl
      rw [e0] at h1
      omega

theorem tree_way {gs : List G2} {o : List Int} (h : IsOrd gs.length o) : Sp.tree gs ≤ Sp.way gs o := by
  unfold Sp.tree Sp.mst
  have hl := h.len
  split
  · rename_i h0
    have : o = [] := List.length_eq_zero_iff.1 (by omega)
    subst this; simp [Sp.way]
  · rename_i h0
    cases o with
    | nil => simp at hl; omega
    | cons x o =>
      have hx : x = 0 := h.zero (by omega)
      subst hx
      have h1 := Mst.rem_way (cw_symm gs (Sp.zeros gs.length)) h.nod h.rng h.len
      rw [cost_way, ord_sum h (zeros_ok _).2, zeros_getD, zeros_getD] at h1
      have hs : (Sp.zeros gs.length).sum = 0 := by
        unfold Sp.zeros
        generalize gs.length = n
        induction n with
        | zero => rfl
        | succ n ih => rw [List.replicate_succ, List.sum_cons, ih]; rfl
      rw [hs] at h1
      have e : Sp.rest gs (Sp.zeros gs.length) [0] = Mst.rem (Sp.cw gs (Sp.zeros gs.length)) gs.length [0] := rfl
      rw [e]; omega

theorem ord_length {gs : List G2} {o : List Int} (h : IsOrd gs.length o) (hc : Sp.checkE gs 200 = 0) : Sp.lengthE gs o = 0 ∧ Sp.lengthV gs o = Sp.way gs o := by
  have e : Sp.lengthE gs o = 0 := by rw [Sp.lengthE, if_pos hc, if_pos (isOrd_of h)]
  exact ⟨e, by rw [Sp.lengthV, if_pos e]⟩
theorem check_more {gs : List G2} {m : Int} (h : Sp.checkE gs m = 0) (hm : m ≤ 200) : Sp.checkE gs 200 = 0 := by
  unfold Sp.checkE at h ⊢
  split at h
  · simp at h
  · rename_i h1
    rw [if_neg (by omega)]
    exact h

theorem ev4 (fl : Bool) (gs : List G2) : Ev M1 (.pure 4 [gsA fl gs]) (.bool true) [] := by
  refine call4 (v4 fl gs _ ⟨by simp [Sp.mOk], fun _ => rfl, fun h => ?_⟩)
  have h := Classical.not_not.1 h
  obtain ⟨c1, c2⟩ := check_okG h
  have ho := nearest_ord gs
  have hl := ho.len
  obtain ⟨e1, e2⟩ := ord_length ho (check_more h (by omega))
  refine ⟨⟨c1, by omega⟩, by omega, fun k => absurd (same_iff.2 rfl) k, fun _ => ?_⟩
  rw [e1, e2]
  simp [tree_way ho]

theorem ev6 (fl fw : Bool) (gs : List G2) (w : List Int) : Ev M1 (.pure 6 [gsA fl gs, isA fw w]) (.bool true) [] :=
  call6 (v6 fl fw gs w _ ⟨fun _ => rfl, fun h => by simp⟩)
end Go.Av
