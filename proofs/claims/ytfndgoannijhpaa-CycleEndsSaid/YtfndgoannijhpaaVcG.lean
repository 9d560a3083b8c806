/- PATHS, written by a program of the prover's. -/
import Derived.Test.YtfndgoannijhpaaCycG
namespace Go.Av
open Go.Proofs
set_option maxRecDepth 100000
def fi18 : Fi := ⟨8, [.tmp 2]⟩
def kp18 : List (Nat × List Nat) := [(0, [0]), (1, [0, 4]), (2, [2]), (3, [2])]
def fi30 : Fi := ⟨26, [.tmp 4]⟩
def kp30 : List (Nat × List Nat) := [(0, [0, 1]), (1, [0, 1, 10]), (2, [4]), (3, [0, 1, 5]), (4, [0, 1, 5, 14]), (5, [0, 1, 5]), (6, [0, 1, 5, 25]), (7, [4]), (8, [4])]
def v18n_at (fl : Bool) (Q : AV → Heap → Prop) : Prop := Wp M1 (.run fi18 (atC (cd Try.f18) []) [(0, .vec fl 2 [])] []) Q
def v18c_at (fl : Bool) (x : AV) (xs : List AV) (Q : AV → Heap → Prop) : Prop := Wp M1 (.run fi18 (atC (cd Try.f18) []) [(0, .vec fl 2 (x :: xs))] []) Q
def v30_at (f g : Bool) (l m : List Mv) (Q : AV → Heap → Prop) : Prop := Wp M1 (.run fi30 (atC (cd Try.f30) []) [(0, .vec f 7 (l.map Mv.a)), (1, .vec g 7 (m.map Mv.a))] []) Q
def v30a_at (f g : Bool) (l m : List Mv) (i : Int) (Q : AV → Heap → Prop) : Prop := Wp M1 (.run fi30 (atC (cd Try.f30) [1, 1, 0, 1, 0, 0]) [(0, .vec f 7 (l.map Mv.a)), (1, .vec g 7 (m.map Mv.a)), (5, .int .i64 i)] []) Q
theorem call18 {args : List AV} {d : AV} (h : Wp M1 (.run fi18 [.code (cd Try.f18)] (argVars 0 args) []) (PureQ d)) : Ev M1 (.pure 18 args) d [] :=
  pure_pq Try.f18 fi18 (by kernel_rfl) (by kernel_rfl) (by kernel_rfl) (by kernel_rfl) h
theorem owncall18 {args : List AV} {L : Heap} {Q : AV → Heap → Prop} (h : Wp M1 (.run fi18 [.code (cd Try.f18)] (argVars 0 args) L) Q) : Wp M1 (.own 18 args L) Q :=
  own_wp Try.f18 fi18 (by kernel_rfl) (by kernel_rfl) (by kernel_rfl) (by kernel_rfl) h
theorem call30 {args : List AV} {d : AV} (h : Wp M1 (.run fi30 [.code (cd Try.f30)] (argVars 0 args) []) (PureQ d)) : Ev M1 (.pure 30 args) d [] :=
  pure_pq Try.f30 fi30 (by kernel_rfl) (by kernel_rfl) (by kernel_rfl) (by kernel_rfl) h
theorem owncall30 {args : List AV} {L : Heap} {Q : AV → Heap → Prop} (h : Wp M1 (.run fi30 [.code (cd Try.f30)] (argVars 0 args) L) Q) : Wp M1 (.own 30 args L) Q :=
  own_wp Try.f30 fi30 (by kernel_rfl) (by kernel_rfl) (by kernel_rfl) (by kernel_rfl) h
theorem v18n (fl : Bool) (dq : AV) (H :
    (Weak (AV.vnil) dq) ∧
    (Weak (AV.vec true 2 []) dq)) :
  v18n_at fl (PureQ dq) := by
  unfold v18n_at
  refine path_wp (G := given kp18 [] []) 4 [] ⟨(atC (cd Try.f18) [1, 0, 0]), [(0, AV.vec fl 2 [])], [], [], [], []⟩ (by kernel_rfl) allB_nil allP_nil allC_nil (wp_nil 1 [0, 4] (e1 := [(0, AV.vec fl 2 []), (4, AV.bool true)]) (e2 := [(0, AV.vec fl 2 []), (4, AV.bool false)]) (L1 := []) (L2 := []) (a1 := []) (a2 := []) (v1 := [(4, [], AV.bool true), (3, [], AV.vec fl 2 []), (0, [], AV.vec fl 2 [])]) (v2 := [(4, [], AV.bool false), (3, [], AV.vec fl 2 []), (0, [], AV.vec fl 2 [])]) (by kernel_rfl) (by kernel_rfl) allB_nil allB_nil (by kernel_rfl) (by kernel_rfl) ?_ ?_)
  · have H := H.1
    exact path_ret (G := given kp18 [] []) 1000 [true] (k := ((atC (cd Try.f18) [1, 0, 1, 0, 1])).tail) (env' := [(2, AV.vnil)]) (L' := []) (asm := [true == true]) (eqs := []) (calls := []) (AV.vnil) (by kernel_rfl) (by kernel_rfl) (allB_cons rfl allB_nil) allP_nil allC_nil (pq_weak (d := AV.vnil) (bs := []) (by kernel_rfl) (by kernel_rfl) allB_nil (by kernel_rfl) H)
  · have H := H.2
    exact path_ret (G := given kp18 [] []) 1000 [false] (k := ((atC (cd Try.f18) [1, 1, 1])).tail) (env' := [(2, AV.vec true 2 [])]) (L' := []) (asm := [false == false]) (eqs := []) (calls := []) (AV.vec true 2 []) (by kernel_rfl) (by kernel_rfl) (allB_cons rfl allB_nil) allP_nil allC_nil (pq_weak (d := AV.vec true 2 []) (bs := []) (by kernel_rfl) (by kernel_rfl) allB_nil (by kernel_rfl) H)

theorem v18c (fl : Bool) (x : AV) (xs : List AV) (dq : AV) (H :
    ((0 + (xs.length + 1)) * 16 ≤ 1099511627776) ∧
    Weak (AV.vec false 2 (x :: xs)) dq) :
  v18c_at fl x xs (PureQ dq) := by
  unfold v18c_at
  have i1 : (decide ((0 + (xs.length + 1)) * 16 ≤ 1099511627776)) = true ↔ ((0 + (xs.length + 1)) * 16 ≤ 1099511627776) := i_dec
  have k2 := H.1; have H := H.2
  exact path_ret (G := given kp18 [] []) 1000 [false] (k := ((atC (cd Try.f18) [1, 1, 1])).tail) (env' := [(2, AV.row 0 0)]) (L' := [{ elems := x :: xs, es := 2, ver := 0, frozen := false, clean := true }]) (asm := [false == false, decide ((0 + (xs.length + 1)) * 16 ≤ 1099511627776)]) (eqs := []) (calls := []) (AV.row 0 0) (by kernel_rfl) (by kernel_rfl) (allB_cons rfl (allB_cons (i1.2 k2) allB_nil)) allP_nil allC_nil (pq_weak (d := AV.vec false 2 (x :: xs)) (bs := [0 == 0]) (by kernel_rfl) (by kernel_rfl) (allB_cons (beq_self_eq_true _) allB_nil) (by kernel_rfl) H)

theorem v30 (f g : Bool) (l m : List Mv) (dq : AV) (H :
    ((¬(↑l.length : Int) = (↑m.length : Int)) → AV.bool false = dq) ∧
    (¬(¬(↑l.length : Int) = (↑m.length : Int)) → v30a_at (f) (g) (l) (m) (0) (PureQ dq))) :
  v30_at f g l m (PureQ dq) := by
  unfold v30_at
  have w1 : (List.map Mv.a l).length = l.length := List.length_map ..
  have w2 : (List.map Mv.a m).length = m.length := List.length_map ..
  have i3 : ((↑(List.map Mv.a l).length : Int) != (↑(List.map Mv.a m).length : Int)) = true ↔ (¬(↑l.length : Int) = (↑m.length : Int)) := (by rw [w1, w2] <;> exact i_ne)
  rcases Classical.em (¬(↑l.length : Int) = (↑m.length : Int)) with d4 | d4
  · have H := H.1 d4
    exact path_ret (G := given kp30 [] []) 1000 [true] (k := ((atC (cd Try.f30) [1, 0, 1, 0, 1])).tail) (env' := [(4, AV.bool false)]) (L' := []) (asm := [((↑(List.map Mv.a l).length : Int) != (↑(List.map Mv.a m).length : Int)) == true]) (eqs := []) (calls := []) (AV.bool false) (by kernel_rfl) (by kernel_rfl) (allB_cons (beq_t (i3.2 d4)) allB_nil) allP_nil allC_nil (pq_of (d := AV.bool false) (bs := []) (by kernel_rfl) (by kernel_rfl) allB_nil (by kernel_rfl) H)
  · have H := H.2 d4
    exact path_wp (G := given kp30 [] []) 1000 [false] ⟨(atC (cd Try.f30) [1, 1, 0, 1, 0, 0]), [(0, AV.vec f 7 (List.map Mv.a l)), (1, AV.vec g 7 (List.map Mv.a m)), (5, AV.int IntKind.i64 0)], [], [((↑(List.map Mv.a l).length : Int) != (↑(List.map Mv.a m).length : Int)) == false], [], []⟩ (by kernel_rfl) (allB_cons (beq_f (fun h => d4 (i3.1 h))) allB_nil) allP_nil allC_nil (H)

theorem v30a (f g : Bool) (l m : List Mv) (i : Int) (dq : AV) (H :
    ((i < (↑l.length : Int)) → (0 ≤ i) ∧
      (i.toNat < l.length) ∧
      (i.toNat < m.length) ∧
      ((¬(((l.getD i.toNat default).kind = (m.getD i.toNat default).kind) ∧ ((((l.getD i.toNat default).p.x = (m.getD i.toNat default).p.x) ∧ (((l.getD i.toNat default).p.y = (m.getD i.toNat default).p.y) ∧ ((l.getD i.toNat default).p.z = (m.getD i.toNat default).p.z))) ∧ ((l.getD i.toNat default).rate = (m.getD i.toNat default).rate)))) → AV.bool false = dq) ∧
      (¬(¬(((l.getD i.toNat default).kind = (m.getD i.toNat default).kind) ∧ ((((l.getD i.toNat default).p.x = (m.getD i.toNat default).p.x) ∧ (((l.getD i.toNat default).p.y = (m.getD i.toNat default).p.y) ∧ ((l.getD i.toNat default).p.z = (m.getD i.toNat default).p.z))) ∧ ((l.getD i.toNat default).rate = (m.getD i.toNat default).rate)))) → (-9223372036854775808 ≤ i + 1 ∧ i + 1 ≤ 9223372036854775807) ∧
        v30a_at (f) (g) (l) (m) (i + 1) (PureQ dq))) ∧
    (¬(i < (↑l.length : Int)) → AV.bool true = dq)) :
  v30a_at f g l m i (PureQ dq) := by
  unfold v30a_at
  have w1 : (List.map Mv.a l).length = l.length := List.length_map ..
  have i2 : (decide (i < (↑(List.map Mv.a l).length : Int))) = true ↔ (i < (↑l.length : Int)) := (by rw [w1] <;> exact i_dec)
  rcases Classical.em (i < (↑l.length : Int)) with d3 | d3
  · have H := H.1 d3
    have i4 : (decide (0 ≤ i)) = true ↔ (0 ≤ i) := i_dec
    have k5 := H.1; have H := H.2
    have i6 : (decide (i.toNat < (List.map Mv.a l).length)) = true ↔ (i.toNat < l.length) := (by rw [w1] <;> exact i_dec)
    have k7 := H.1; have H := H.2
    have i8 : (decide (0 ≤ i)) = true ↔ (0 ≤ i) := i_dec
    have w9 : (List.map Mv.a m).length = m.length := List.length_map ..
    have i10 : (decide (i.toNat < (List.map Mv.a m).length)) = true ↔ (i.toNat < m.length) := (by rw [w9] <;> exact i_dec)
    have k11 := H.1; have H := H.2
    have i12 : (!((l.getD i.toNat default).kind == (m.getD i.toNat default).kind && ((l.getD i.toNat default).p.x == (m.getD i.toNat default).p.x && ((l.getD i.toNat default).p.y == (m.getD i.toNat default).p.y && ((l.getD i.toNat default).p.z == (m.getD i.toNat default).p.z && true)) && ((l.getD i.toNat default).rate == (m.getD i.toNat default).rate && true)))) = true ↔ (¬(((l.getD i.toNat default).kind = (m.getD i.toNat default).kind) ∧ ((((l.getD i.toNat default).p.x = (m.getD i.toNat default).p.x) ∧ (((l.getD i.toNat default).p.y = (m.getD i.toNat default).p.y) ∧ ((l.getD i.toNat default).p.z = (m.getD i.toNat default).p.z))) ∧ ((l.getD i.toNat default).rate = (m.getD i.toNat default).rate)))) := (i_not (i_and i_eq (i_and (i_and i_eq (i_and i_eq (i_at i_eq))) (i_at i_eq))))
    rcases Classical.em (¬(((l.getD i.toNat default).kind = (m.getD i.toNat default).kind) ∧ ((((l.getD i.toNat default).p.x = (m.getD i.toNat default).p.x) ∧ (((l.getD i.toNat default).p.y = (m.getD i.toNat default).p.y) ∧ ((l.getD i.toNat default).p.z = (m.getD i.toNat default).p.z))) ∧ ((l.getD i.toNat default).rate = (m.getD i.toNat default).rate)))) with d13 | d13
    · have H := H.1 d13
      exact path_ret (G := given kp30 [(6, 3, .elem (AV.agg [AV.int IntKind.i64 (l.getD i.toNat default).kind, AV.int IntKind.i64 (l.getD i.toNat default).p.x, AV.int IntKind.i64 (l.getD i.toNat default).p.y, AV.int IntKind.i64 (l.getD i.toNat default).p.z, AV.int IntKind.i64 0, AV.int IntKind.i64 0, AV.int IntKind.i64 (l.getD i.toNat default).rate])), (6, 7, .elem (AV.agg [AV.int IntKind.i64 (m.getD i.toNat default).kind, AV.int IntKind.i64 (m.getD i.toNat default).p.x, AV.int IntKind.i64 (m.getD i.toNat default).p.y, AV.int IntKind.i64 (m.getD i.toNat default).p.z, AV.int IntKind.i64 0, AV.int IntKind.i64 0, AV.int IntKind.i64 (m.getD i.toNat default).rate]))] []) 1000 [true, true] (k := ((atC (cd Try.f30) [1, 1, 0, 1, 0, 0, 1, 0, 0, 1, 0, 1])).tail) (env' := [(4, AV.bool false)]) (L' := []) (asm := [(decide (i < (↑(List.map Mv.a l).length : Int))) == true, decide (0 ≤ i), decide (i.toNat < (List.map Mv.a l).length), decide (0 ≤ i), decide (i.toNat < (List.map Mv.a m).length), (!((l.getD i.toNat default).kind == (m.getD i.toNat default).kind && ((l.getD i.toNat default).p.x == (m.getD i.toNat default).p.x && ((l.getD i.toNat default).p.y == (m.getD i.toNat default).p.y && ((l.getD i.toNat default).p.z == (m.getD i.toNat default).p.z && true)) && ((l.getD i.toNat default).rate == (m.getD i.toNat default).rate && true)))) == true]) (eqs := [((List.map Mv.a l).get?Internal i.toNat = some (AV.agg [AV.int IntKind.i64 (l.getD i.toNat default).kind, AV.int IntKind.i64 (l.getD i.toNat default).p.x, AV.int IntKind.i64 (l.getD i.toNat default).p.y, AV.int IntKind.i64 (l.getD i.toNat default).p.z, AV.int IntKind.i64 0, AV.int IntKind.i64 0, AV.int IntKind.i64 (l.getD i.toNat default).rate])), ((List.map Mv.a m).get?Internal i.toNat = some (AV.agg [AV.int IntKind.i64 (m.getD i.toNat default).kind, AV.int IntKind.i64 (m.getD i.toNat default).p.x, AV.int IntKind.i64 (m.getD i.toNat default).p.y, AV.int IntKind.i64 (m.getD i.toNat default).p.z, AV.int IntKind.i64 0, AV.int IntKind.i64 0, AV.int IntKind.i64 (m.getD i.toNat default).rate]))]) (calls := []) (AV.bool false) (by kernel_rfl) (by kernel_rfl) (allB_cons (beq_t (i2.2 d3)) (allB_cons (i4.2 k5) (allB_cons (i6.2 k7) (allB_cons (i8.2 k5) (allB_cons (i10.2 k11) (allB_cons (beq_t (i12.2 d13)) allB_nil)))))) (allP_cons (el_map k7) (allP_cons (el_map k11) allP_nil)) allC_nil (pq_of (d := AV.bool false) (bs := []) (by kernel_rfl) (by kernel_rfl) allB_nil (by kernel_rfl) H)
    · have H := H.2 d13
      have k14 := H.1; have H := H.2
      have w15 : IntKind.i64.wrap (i + 1) = i + 1 := wI64 k14
      exact path_wp (G := given kp30 [(6, 3, .elem (AV.agg [AV.int IntKind.i64 (l.getD i.toNat default).kind, AV.int IntKind.i64 (l.getD i.toNat default).p.x, AV.int IntKind.i64 (l.getD i.toNat default).p.y, AV.int IntKind.i64 (l.getD i.toNat default).p.z, AV.int IntKind.i64 0, AV.int IntKind.i64 0, AV.int IntKind.i64 (l.getD i.toNat default).rate])), (6, 7, .elem (AV.agg [AV.int IntKind.i64 (m.getD i.toNat default).kind, AV.int IntKind.i64 (m.getD i.toNat default).p.x, AV.int IntKind.i64 (m.getD i.toNat default).p.y, AV.int IntKind.i64 (m.getD i.toNat default).p.z, AV.int IntKind.i64 0, AV.int IntKind.i64 0, AV.int IntKind.i64 (m.getD i.toNat default).rate]))] []) 1000 [true, false] ⟨(atC (cd Try.f30) [1, 1, 0, 1, 0, 0]), [(0, AV.vec f 7 (List.map Mv.a l)), (1, AV.vec g 7 (List.map Mv.a m)), (5, AV.int IntKind.i64 (IntKind.i64.wrap (i + 1)))], [], [(decide (i < (↑(List.map Mv.a l).length : Int))) == true, decide (0 ≤ i), decide (i.toNat < (List.map Mv.a l).length), decide (0 ≤ i), decide (i.toNat < (List.map Mv.a m).length), (!((l.getD i.toNat default).kind == (m.getD i.toNat default).kind && ((l.getD i.toNat default).p.x == (m.getD i.toNat default).p.x && ((l.getD i.toNat default).p.y == (m.getD i.toNat default).p.y && ((l.getD i.toNat default).p.z == (m.getD i.toNat default).p.z && true)) && ((l.getD i.toNat default).rate == (m.getD i.toNat default).rate && true)))) == false], [((List.map Mv.a l).get?Internal i.toNat = some (AV.agg [AV.int IntKind.i64 (l.getD i.toNat default).kind, AV.int IntKind.i64 (l.getD i.toNat default).p.x, AV.int IntKind.i64 (l.getD i.toNat default).p.y, AV.int IntKind.i64 (l.getD i.toNat default).p.z, AV.int IntKind.i64 0, AV.int IntKind.i64 0, AV.int IntKind.i64 (l.getD i.toNat default).rate])), ((List.map Mv.a m).get?Internal i.toNat = some (AV.agg [AV.int IntKind.i64 (m.getD i.toNat default).kind, AV.int IntKind.i64 (m.getD i.toNat default).p.x, AV.int IntKind.i64 (m.getD i.toNat default).p.y, AV.int IntKind.i64 (m.getD i.toNat default).p.z, AV.int IntKind.i64 0, AV.int IntKind.i64 0, AV.int IntKind.i64 (m.getD i.toNat default).rate]))], []⟩ (by kernel_rfl) (allB_cons (beq_t (i2.2 d3)) (allB_cons (i4.2 k5) (allB_cons (i6.2 k7) (allB_cons (i8.2 k5) (allB_cons (i10.2 k11) (allB_cons (beq_f (fun h => d13 (i12.1 h))) allB_nil)))))) (allP_cons (el_map k7) (allP_cons (el_map k11) allP_nil)) allC_nil (by rw [w15] <;> exact H)
  · have H := H.2 d3
    exact path_ret (G := given kp30 [] []) 1000 [false] (k := ((atC (cd Try.f30) [1, 1, 1, 1])).tail) (env' := [(4, AV.bool true)]) (L' := []) (asm := [(decide (i < (↑(List.map Mv.a l).length : Int))) == false]) (eqs := []) (calls := []) (AV.bool true) (by kernel_rfl) (by kernel_rfl) (allB_cons (beq_f (fun h => d3 (i2.1 h))) allB_nil) allP_nil allC_nil (pq_of (d := AV.bool true) (bs := []) (by kernel_rfl) (by kernel_rfl) allB_nil (by kernel_rfl) H)


end Go.Av
