/- PATHS, written by a program of the prover's. -/
import Derived.Test.YtablgkhmbcegkaaTourB
namespace Go.Av
open Go.Proofs
set_option maxRecDepth 100000
def fi11 : Fi := ⟨19, [.tmp 4]⟩
def kp11 : List (Nat × List Nat) := [(0, [0, 1]), (1, [4])]
def fi14 : Fi := ⟨9, [.tmp 4]⟩
def kp14 : List (Nat × List Nat) := [(0, [0, 1]), (1, [4])]
def fi16 : Fi := ⟨16, [.tmp 4]⟩
def kp16 : List (Nat × List Nat) := [(0, [2, 3]), (1, [4])]
def fi30 : Fi := ⟨32, [.tmp 4]⟩
def kp30 : List (Nat × List Nat) := [(0, [0, 1]), (1, [0, 1, 5]), (2, [0, 1, 5, 6]), (3, [0, 1, 5, 6, 10]), (4, [0, 1, 5, 6]), (5, [0, 1, 5, 6]), (6, [4])]
def v16_at (ax ay bx by_ : Int) (Q : AV → Heap → Prop) : Prop := Wp M1 (.run fi16 (atC (cd Try.f16) []) [(0, .agg [.int .i64 ax, .int .i64 ay]), (1, .agg [.int .i64 bx, .int .i64 by_])] []) Q
def v30_at (fl fm : Bool) (gs : List G2) (o : List Int) (Q : AV → Heap → Prop) : Prop := Wp M1 (.run fi30 (atC (cd Try.f30) []) [(0, .vec fl 2 (gs.map G2.a)), (1, .vec fm 1 (o.map (.int .i64)))] []) Q
def v30a_at (fl fm : Bool) (gs : List G2) (o : List Int) (s i : Int) (Q : AV → Heap → Prop) : Prop := Wp M1 (.run fi30 (atC (cd Try.f30) [1, 1, 0, 1, 0, 0]) [(0, .vec fl 2 (gs.map G2.a)), (1, .vec fm 1 (o.map (.int .i64))), (5, .int .i64 s), (6, .int .i64 i)] []) Q
def v11_at (fl : Bool) (gs : List G2) (m : Int) (Q : AV → Heap → Prop) : Prop := Wp M1 (.run fi11 (atC (cd Try.f11) []) [(0, .vec fl 2 (gs.map G2.a)), (1, .int .i64 m)] []) Q
def v14_at (fl : Bool) (gs : List G2) (m : Int) (Q : AV → Heap → Prop) : Prop := Wp M1 (.run fi14 (atC (cd Try.f14) []) [(0, .vec fl 2 (gs.map G2.a)), (1, .int .i64 m)] []) Q
theorem call11 {args : List AV} {d : AV} (h : Wp M1 (.run fi11 [.code (cd Try.f11)] (argVars 0 args) []) (PureQ d)) : Ev M1 (.pure 11 args) d [] :=
  pure_pq Try.f11 fi11 (by kernel_rfl) (by kernel_rfl) (by kernel_rfl) (by kernel_rfl) h
theorem owncall11 {args : List AV} {L : Heap} {Q : AV → Heap → Prop} (h : Wp M1 (.run fi11 [.code (cd Try.f11)] (argVars 0 args) L) Q) : Wp M1 (.own 11 args L) Q :=
  own_wp Try.f11 fi11 (by kernel_rfl) (by kernel_rfl) (by kernel_rfl) (by kernel_rfl) h
theorem call14 {args : List AV} {d : AV} (h : Wp M1 (.run fi14 [.code (cd Try.f14)] (argVars 0 args) []) (PureQ d)) : Ev M1 (.pure 14 args) d [] :=
  pure_pq Try.f14 fi14 (by kernel_rfl) (by kernel_rfl) (by kernel_rfl) (by kernel_rfl) h
theorem owncall14 {args : List AV} {L : Heap} {Q : AV → Heap → Prop} (h : Wp M1 (.run fi14 [.code (cd Try.f14)] (argVars 0 args) L) Q) : Wp M1 (.own 14 args L) Q :=
  own_wp Try.f14 fi14 (by kernel_rfl) (by kernel_rfl) (by kernel_rfl) (by kernel_rfl) h
theorem call16 {args : List AV} {d : AV} (h : Wp M1 (.run fi16 [.code (cd Try.f16)] (argVars 0 args) []) (PureQ d)) : Ev M1 (.pure 16 args) d [] :=
  pure_pq Try.f16 fi16 (by kernel_rfl) (by kernel_rfl) (by kernel_rfl) (by kernel_rfl) h
theorem owncall16 {args : List AV} {L : Heap} {Q : AV → Heap → Prop} (h : Wp M1 (.run fi16 [.code (cd Try.f16)] (argVars 0 args) L) Q) : Wp M1 (.own 16 args L) Q :=
  own_wp Try.f16 fi16 (by kernel_rfl) (by kernel_rfl) (by kernel_rfl) (by kernel_rfl) h
theorem call30 {args : List AV} {d : AV} (h : Wp M1 (.run fi30 [.code (cd Try.f30)] (argVars 0 args) []) (PureQ d)) : Ev M1 (.pure 30 args) d [] :=
  pure_pq Try.f30 fi30 (by kernel_rfl) (by kernel_rfl) (by kernel_rfl) (by kernel_rfl) h
theorem owncall30 {args : List AV} {L : Heap} {Q : AV → Heap → Prop} (h : Wp M1 (.run fi30 [.code (cd Try.f30)] (argVars 0 args) L) Q) : Wp M1 (.own 30 args L) Q :=
  own_wp Try.f30 fi30 (by kernel_rfl) (by kernel_rfl) (by kernel_rfl) (by kernel_rfl) h
theorem v16 (ax ay bx by_ : Int) (dq : AV) (H :
    (Sp.inM ax ∧ Sp.inM bx) ∧
    (Sp.inM ay ∧ Sp.inM by_) ∧
    AV.int IntKind.i64 (if Sp.gap ay by_ > Sp.gap ax bx then Sp.gap ay by_ else Sp.gap ax bx) = dq) :
  v16_at ax ay bx by_ (PureQ dq) := by
  unfold v16_at
  have k1 := H.1; have H := H.2
  have k2 := H.1; have H := H.2
  exact path_ret (G := given kp16 [(1, 4, .call (AV.int IntKind.i64 (Sp.gap ax bx)) none), (1, 9, .call (AV.int IntKind.i64 (Sp.gap ay by_)) none)] []) 1000 [] (k := ((atC (cd Try.f16) [1, 1])).tail) (env' := [(4, AV.int IntKind.i64 (if Sp.gap ay by_ > Sp.gap ax bx then Sp.gap ay by_ else Sp.gap ax bx))]) (L' := [{ elems := [AV.agg [AV.int IntKind.i64 ax, AV.int IntKind.i64 ay]], es := 2, ver := 0, frozen := false, clean := false }, { elems := [AV.agg [AV.int IntKind.i64 bx, AV.int IntKind.i64 by_]], es := 2, ver := 0, frozen := false, clean := false }]) (asm := [true, true, true, true]) (eqs := []) (calls := [⟨true, false, 34, [AV.int IntKind.i64 ax, AV.int IntKind.i64 bx], [], AV.int IntKind.i64 (Sp.gap ax bx), []⟩, ⟨true, false, 34, [AV.int IntKind.i64 ay, AV.int IntKind.i64 by_], [], AV.int IntKind.i64 (Sp.gap ay by_), []⟩]) (AV.int IntKind.i64 (if Sp.gap ay by_ > Sp.gap ax bx then Sp.gap ay by_ else Sp.gap ax bx)) (by kernel_rfl) (by kernel_rfl) (allB_cons rfl (allB_cons rfl (allB_cons rfl (allB_cons rfl allB_nil)))) allP_nil (allC_cons (fun _ => ((@ev34 (ax) (bx) k1) : Ev M1 (Conf.pure 34 [AV.int IntKind.i64 ax, AV.int IntKind.i64 bx]) (AV.int IntKind.i64 (Sp.gap ax bx)) [])) (allC_cons (fun _ => ((@ev34 (ay) (by_) k2) : Ev M1 (Conf.pure 34 [AV.int IntKind.i64 ay, AV.int IntKind.i64 by_]) (AV.int IntKind.i64 (Sp.gap ay by_)) [])) allC_nil)) (pq_of (d := AV.int IntKind.i64 (if Sp.gap ay by_ > Sp.gap ax bx then Sp.gap ay by_ else Sp.gap ax bx)) (bs := []) (by kernel_rfl) (by kernel_rfl) allB_nil (by kernel_rfl) H)

theorem v30 (fl fm : Bool) (gs : List G2) (o : List Int) (dq : AV) (H :
    v30a_at (fl) (fm) (gs) (o) (0) (1) (PureQ dq)) :
  v30_at fl fm gs o (PureQ dq) := by
  unfold v30_at
  exact path_wp (G := given kp30 [] []) 1000 [] ⟨(atC (cd Try.f30) [1, 1, 0, 1, 0, 0]), [(0, AV.vec fl 2 (List.map G2.a gs)), (1, AV.vec fm 1 (List.map (AV.int IntKind.i64) o)), (5, AV.int IntKind.i64 0), (6, AV.int IntKind.i64 1)], [], [], [], []⟩ (by kernel_rfl) allB_nil allP_nil allC_nil (H)

theorem v30a (fl fm : Bool) (gs : List G2) (o : List Int) (s i : Int) (dq : AV) (H :
    ((i < (↑o.length : Int)) → (-9223372036854775808 ≤ i - 1 ∧ i - 1 ≤ 9223372036854775807) ∧
      (Sp.inM (gs.getD (o.getD (i - 1).toNat default).toNat default).x ∧ Sp.inM (gs.getD (o.getD (i - 1).toNat default).toNat default).y ∧ Sp.inM (gs.getD (o.getD i.toNat default).toNat default).x ∧ Sp.inM (gs.getD (o.getD i.toNat default).toNat default).y) ∧
      (0 ≤ i - 1) ∧
      ((i - 1).toNat < o.length) ∧
      (0 ≤ o.getD (i - 1).toNat default) ∧
      ((o.getD (i - 1).toNat default).toNat < gs.length) ∧
      (0 ≤ i) ∧
      (i.toNat < o.length) ∧
      (0 ≤ o.getD i.toNat default) ∧
      ((o.getD i.toNat default).toNat < gs.length) ∧
      (-9223372036854775808 ≤ s + Sp.dist (gs.getD (o.getD (i - 1).toNat default).toNat default).x (gs.getD (o.getD (i - 1).toNat default).toNat default).y (gs.getD (o.getD i.toNat default).toNat default).x (gs.getD (o.getD i.toNat default).toNat default).y ∧ s + Sp.dist (gs.getD (o.getD (i - 1).toNat default).toNat default).x (gs.getD (o.getD (i - 1).toNat default).toNat default).y (gs.getD (o.getD i.toNat default).toNat default).x (gs.getD (o.getD i.toNat default).toNat default).y ≤ 9223372036854775807) ∧
      (-9223372036854775808 ≤ i + 1 ∧ i + 1 ≤ 9223372036854775807) ∧
      v30a_at (fl) (fm) (gs) (o) (s + Sp.dist (gs.getD (o.getD (i - 1).toNat default).toNat default).x (gs.getD (o.getD (i - 1).toNat default).toNat default).y (gs.getD (o.getD i.toNat default).toNat default).x (gs.getD (o.getD i.toNat default).toNat default).y) (i + 1) (PureQ dq)) ∧
    (¬(i < (↑o.length : Int)) → AV.int IntKind.i64 s = dq)) :
  v30a_at fl fm gs o s i (PureQ dq) := by
  unfold v30a_at
  have w1 : (List.map (AV.int IntKind.i64) o).length = o.length := List.length_map ..
  have i2 : (decide (i < (↑(List.map (AV.int IntKind.i64) o).length : Int))) = true ↔ (i < (↑o.length : Int)) := (by rw [w1] <;> exact i_dec)
  rcases Classical.em (i < (↑o.length : Int)) with d3 | d3
  · have H := H.1 d3
    have k4 := H.1; have H := H.2
    have w5 : IntKind.i64.wrap (i - 1) = i - 1 := wI64 k4
    have k6 := H.1; have H := H.2
    have i7 : (decide (0 ≤ IntKind.i64.wrap (i - 1))) = true ↔ (0 ≤ i - 1) := (by rw [w5] <;> exact i_dec)
    have k8 := H.1; have H := H.2
    have i9 : (decide ((IntKind.i64.wrap (i - 1)).toNat < (List.map (AV.int IntKind.i64) o).length)) = true ↔ ((i - 1).toNat < o.length) := (by rw [w1, w5] <;> exact i_dec)
    have k10 := H.1; have H := H.2
    have i11 : (decide (0 ≤ o.getD (i - 1).toNat default)) = true ↔ (0 ≤ o.getD (i - 1).toNat default) := i_dec
    have k12 := H.1; have H := H.2
    have w13 : (List.map G2.a gs).length = gs.length := List.length_map ..
    have i14 : (decide ((o.getD (i - 1).toNat default).toNat < (List.map G2.a gs).length)) = true ↔ ((o.getD (i - 1).toNat default).toNat < gs.length) := (by rw [w13] <;> exact i_dec)
    have k15 := H.1; have H := H.2
    have i16 : (decide (0 ≤ i)) = true ↔ (0 ≤ i) := i_dec
    have k17 := H.1; have H := H.2
    have i18 : (decide (i.toNat < (List.map (AV.int IntKind.i64) o).length)) = true ↔ (i.toNat < o.length) := (by rw [w1] <;> exact i_dec)
    have k19 := H.1; have H := H.2
    have i20 : (decide (0 ≤ o.getD i.toNat default)) = true ↔ (0 ≤ o.getD i.toNat default) := i_dec
    have k21 := H.1; have H := H.2
    have i22 : (decide ((o.getD i.toNat default).toNat < (List.map G2.a gs).length)) = true ↔ ((o.getD i.toNat default).toNat < gs.length) := (by rw [w13] <;> exact i_dec)
    have k23 := H.1; have H := H.2
    have k24 := H.1; have H := H.2
    have w25 : IntKind.i64.wrap (s + Sp.dist (gs.getD (o.getD (i - 1).toNat default).toNat default).x (gs.getD (o.getD (i - 1).toNat default).toNat default).y (gs.getD (o.getD i.toNat default).toNat default).x (gs.getD (o.getD i.toNat default).toNat default).y) = s + Sp.dist (gs.getD (o.getD (i - 1).toNat default).toNat default).x (gs.getD (o.getD (i - 1).toNat default).toNat default).y (gs.getD (o.getD i.toNat default).toNat default).x (gs.getD (o.getD i.toNat default).toNat default).y := wI64 k24
    have k26 := H.1; have H := H.2
    have w27 : IntKind.i64.wrap (i + 1) = i + 1 := wI64 k26
    exact path_wp (G := given kp30 [(5, 6, .elem (AV.int IntKind.i64 (o.getD (i - 1).toNat default))), (5, 8, .elem (AV.agg [AV.int IntKind.i64 (gs.getD (o.getD (i - 1).toNat default).toNat default).x, AV.int IntKind.i64 (gs.getD (o.getD (i - 1).toNat default).toNat default).y])), (5, 13, .elem (AV.int IntKind.i64 (o.getD i.toNat default))), (5, 15, .elem (AV.agg [AV.int IntKind.i64 (gs.getD (o.getD i.toNat default).toNat default).x, AV.int IntKind.i64 (gs.getD (o.getD i.toNat default).toNat default).y])), (5, 16, .call (AV.int IntKind.i64 (Sp.dist (gs.getD (o.getD (i - 1).toNat default).toNat default).x (gs.getD (o.getD (i - 1).toNat default).toNat default).y (gs.getD (o.getD i.toNat default).toNat default).x (gs.getD (o.getD i.toNat default).toNat default).y)) none)] []) 1000 [true] ⟨(atC (cd Try.f30) [1, 1, 0, 1, 0, 0]), [(0, AV.vec fl 2 (List.map G2.a gs)), (1, AV.vec fm 1 (List.map (AV.int IntKind.i64) o)), (5, AV.int IntKind.i64 (IntKind.i64.wrap (s + Sp.dist (gs.getD (o.getD (i - 1).toNat default).toNat default).x (gs.getD (o.getD (i - 1).toNat default).toNat default).y (gs.getD (o.getD i.toNat default).toNat default).x (gs.getD (o.getD i.toNat default).toNat default).y))), (6, AV.int IntKind.i64 (IntKind.i64.wrap (i + 1)))], [], [(decide (i < (↑(List.map (AV.int IntKind.i64) o).length : Int))) == true, decide (0 ≤ IntKind.i64.wrap (i - 1)), decide ((IntKind.i64.wrap (i - 1)).toNat < (List.map (AV.int IntKind.i64) o).length), decide (0 ≤ o.getD (i - 1).toNat default), decide ((o.getD (i - 1).toNat default).toNat < (List.map G2.a gs).length), decide (0 ≤ i), decide (i.toNat < (List.map (AV.int IntKind.i64) o).length), decide (0 ≤ o.getD i.toNat default), decide ((o.getD i.toNat default).toNat < (List.map G2.a gs).length)], [((List.map (AV.int IntKind.i64) o).get?Internal (IntKind.i64.wrap (i - 1)).toNat = some (AV.int IntKind.i64 (o.getD (i - 1).toNat default))), ((List.map G2.a gs).get?Internal (o.getD (i - 1).toNat default).toNat = some (AV.agg [AV.int IntKind.i64 (gs.getD (o.getD (i - 1).toNat default).toNat default).x, AV.int IntKind.i64 (gs.getD (o.getD (i - 1).toNat default).toNat default).y])), ((List.map (AV.int IntKind.i64) o).get?Internal i.toNat = some (AV.int IntKind.i64 (o.getD i.toNat default))), ((List.map G2.a gs).get?Internal (o.getD i.toNat default).toNat = some (AV.agg [AV.int IntKind.i64 (gs.getD (o.getD i.toNat default).toNat default).x, AV.int IntKind.i64 (gs.getD (o.getD i.toNat default).toNat default).y]))], [⟨true, false, 15, [AV.agg [AV.int IntKind.i64 (gs.getD (o.getD (i - 1).toNat default).toNat default).x, AV.int IntKind.i64 (gs.getD (o.getD (i - 1).toNat default).toNat default).y], AV.agg [AV.int IntKind.i64 (gs.getD (o.getD i.toNat default).toNat default).x, AV.int IntKind.i64 (gs.getD (o.getD i.toNat default).toNat default).y]], [], AV.int IntKind.i64 (Sp.dist (gs.getD (o.getD (i - 1).toNat default).toNat default).x (gs.getD (o.getD (i - 1).toNat default).toNat default).y (gs.getD (o.getD i.toNat default).toNat default).x (gs.getD (o.getD i.toNat default).toNat default).y), []⟩]⟩ (by kernel_rfl) (allB_cons (beq_t (i2.2 d3)) (allB_cons (i7.2 k8) (allB_cons (i9.2 k10) (allB_cons (i11.2 k12) (allB_cons (i14.2 k15) (allB_cons (i16.2 k17) (allB_cons (i18.2 k19) (allB_cons (i20.2 k21) (allB_cons (i22.2 k23) allB_nil))))))))) (allP_cons (by rw [w5] <;> exact (el_map k10)) (allP_cons (el_map k15) (allP_cons (el_map k19) (allP_cons (el_map k23) allP_nil)))) (allC_cons (fun _ => ((@ev15 ((gs.getD (o.getD (i - 1).toNat default).toNat default).x) ((gs.getD (o.getD (i - 1).toNat default).toNat default).y) ((gs.getD (o.getD i.toNat default).toNat default).x) ((gs.getD (o.getD i.toNat default).toNat default).y) k6) : Ev M1 (Conf.pure 15 [AV.agg [AV.int IntKind.i64 (gs.getD (o.getD (i - 1).toNat default).toNat default).x, AV.int IntKind.i64 (gs.getD (o.getD (i - 1).toNat default).toNat default).y], AV.agg [AV.int IntKind.i64 (gs.getD (o.getD i.toNat default).toNat default).x, AV.int IntKind.i64 (gs.getD (o.getD i.toNat default).toNat default).y]]) (AV.int IntKind.i64 (Sp.dist (gs.getD (o.getD (i - 1).toNat default).toNat default).x (gs.getD (o.getD (i - 1).toNat default).toNat default).y (gs.getD (o.getD i.toNat default).toNat default).x (gs.getD (o.getD i.toNat default).toNat default).y)) [])) allC_nil) (by rw [w25, w27] <;> exact H)
  · have H := H.2 d3
    exact path_ret (G := given kp30 [] []) 1000 [false] (k := ((atC (cd Try.f30) [1, 1, 1, 1])).tail) (env' := [(4, AV.int IntKind.i64 s)]) (L' := []) (asm := [(decide (i < (↑(List.map (AV.int IntKind.i64) o).length : Int))) == false]) (eqs := []) (calls := []) (AV.int IntKind.i64 s) (by kernel_rfl) (by kernel_rfl) (allB_cons (beq_f (fun h => d3 (i2.1 h))) allB_nil) allP_nil allC_nil (pq_of (d := AV.int IntKind.i64 s) (bs := []) (by kernel_rfl) (by kernel_rfl) allB_nil (by kernel_rfl) H)

theorem v11 (fl : Bool) (gs : List G2) (m : Int) (dq : AV) (H :
    AV.bool (bif decide ((↑gs.length : Int) ≤ m) then true else bif decide ((↑gs.length : Int) > 199) then decide ((↑gs.length : Int) < 203) else false) = dq) :
  v11_at fl gs m (PureQ dq) := by
  unfold v11_at
  have w1 : (List.map G2.a gs).length = gs.length := List.length_map ..
  exact path_ret (G := given kp11 [] []) 1000 [] (k := ((atC (cd Try.f11) [1, 1])).tail) (env' := [(4, AV.bool (bif decide ((↑(List.map G2.a gs).length : Int) ≤ m) then true else bif decide ((↑(List.map G2.a gs).length : Int) > 199) then decide ((↑(List.map G2.a gs).length : Int) < 203) else false))]) (L' := []) (asm := []) (eqs := []) (calls := []) (AV.bool (bif decide ((↑(List.map G2.a gs).length : Int) ≤ m) then true else bif decide ((↑(List.map G2.a gs).length : Int) > 199) then decide ((↑(List.map G2.a gs).length : Int) < 203) else false)) (by kernel_rfl) (by kernel_rfl) allB_nil allP_nil allC_nil (pq_of (d := AV.bool (bif decide ((↑(List.map G2.a gs).length : Int) ≤ m) then true else bif decide ((↑(List.map G2.a gs).length : Int) > 199) then decide ((↑(List.map G2.a gs).length : Int) < 203) else false)) (bs := []) (by kernel_rfl) (by kernel_rfl) allB_nil (by kernel_rfl) (by rw [w1] <;> exact H))

theorem v14 (fl : Bool) (gs : List G2) (m : Int) (dq : AV) (H :
    (gs.length ≤ 1000000) ∧
    AV.bool (Sp.checkE gs m == 0) = dq) :
  v14_at fl gs m (PureQ dq) := by
  unfold v14_at
  have k1 := H.1; have H := H.2
  exact path_ret (G := given kp14 [(1, 2, .call (AV.int IntKind.i64 (Sp.checkE gs m)) none)] []) 1000 [] (k := ((atC (cd Try.f14) [1, 1])).tail) (env' := [(4, AV.bool (Sp.checkE gs m == 0))]) (L' := []) (asm := []) (eqs := []) (calls := [⟨true, false, 31, [AV.vec fl 2 (List.map G2.a gs), AV.int IntKind.i64 m], [], AV.int IntKind.i64 (Sp.checkE gs m), []⟩]) (AV.bool (Sp.checkE gs m == 0)) (by kernel_rfl) (by kernel_rfl) allB_nil allP_nil (allC_cons (fun _ => ((@ev31 (fl) (gs) (m) k1) : Ev M1 (Conf.pure 31 [AV.vec fl 2 (List.map G2.a gs), AV.int IntKind.i64 m]) (AV.int IntKind.i64 (Sp.checkE gs m)) [])) allC_nil) (pq_of (d := AV.bool (Sp.checkE gs m == 0)) (bs := []) (by kernel_rfl) (by kernel_rfl) allB_nil (by kernel_rfl) H)


end Go.Av
