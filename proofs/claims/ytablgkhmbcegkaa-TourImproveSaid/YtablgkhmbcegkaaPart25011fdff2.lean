/- PART 3 of the texts of a claim, joined by a program: what each part shows stands at its head. -/
import Derived.Test.YtablgkhmbcegkaaPart35cc8f4403

/- PATHS, written by a program of the prover's. -/
namespace Go.Av
open Go.Proofs
set_option maxRecDepth 100000
def fi15 : Fi := ⟨26, [.tmp 4]⟩
def kp15 : List (Nat × List Nat) := [(0, [2, 3]), (1, [4])]
def fi28 : Fi := ⟨32, [.tmp 4]⟩
def kp28 : List (Nat × List Nat) := [(0, [0, 1]), (1, [0, 10]), (2, [4]), (3, [11, 12, 13]), (4, [11, 12, 13, 14]), (5, [6, 11, 12, 13]), (6, [11, 12, 13, 30]), (7, [4]), (8, [11, 12, 13]), (9, [4])]
def fi29 : Fi := ⟨47, [.tmp 4]⟩
def kp29 : List (Nat × List Nat) := [(0, [0, 1]), (1, [0, 1, 21]), (2, [4]), (3, [0, 1, 5]), (4, [1, 5, 24, 25, 26]), (5, [1, 5, 24, 25, 26, 27]), (6, [1, 5, 7, 24, 25, 26]), (7, [1, 5, 7, 24, 25, 26, 42]), (8, [4]), (9, [1, 5, 24, 25, 26]), (10, [1, 5, 24, 25, 26]), (11, [4])]
def fi31 : Fi := ⟨46, [.tmp 4]⟩
def kp31 : List (Nat × List Nat) := [(0, [0, 1]), (1, [0, 9]), (2, [4]), (3, [0, 5]), (4, [0, 5, 13]), (5, [0, 5]), (6, [0, 5, 45]), (7, [4]), (8, [4])]
def fi32 : Fi := ⟨56, [.tmp 4]⟩
def kp32 : List (Nat × List Nat) := [(0, [0, 1]), (1, [0, 1, 20]), (2, [4]), (3, [0, 1, 5]), (4, [0, 1, 5, 6]), (5, [0, 1, 5, 6, 25]), (6, [0, 1, 5, 6]), (7, [0, 1, 5, 6, 49]), (8, [4]), (9, [0, 1, 5, 6]), (10, [4])]
def fi34 : Fi := ⟨14, [.tmp 4]⟩
def kp34 : List (Nat × List Nat) := [(0, [0, 1]), (1, [0, 1, 7]), (2, [4]), (3, [4])]
def v15_at (ax ay bx by_ : Int) (Q : AV → Heap → Prop) : Prop := Wp M1 (.run fi15 (atC (cd Try.f15) []) [(0, .agg [.int .i64 ax, .int .i64 ay]), (1, .agg [.int .i64 bx, .int .i64 by_])] []) Q
def v34_at (a b : Int) (Q : AV → Heap → Prop) : Prop := Wp M1 (.run fi34 (atC (cd Try.f34) []) [(0, .int .i64 a), (1, .int .i64 b)] []) Q
def v28_at (fl : Bool) (gs : List G2) (m : Int) (Q : AV → Heap → Prop) : Prop := Wp M1 (.run fi28 (atC (cd Try.f28) []) [(0, .vec fl 2 (gs.map G2.a)), (1, .int .i64 m)] []) Q
def v28a_at (fl : Bool) (gs : List G2) (n i : Int) (Q : AV → Heap → Prop) : Prop := Wp M1 (.run fi28 (atC (cd Try.f28) [1, 1, 0, 1, 0, 0]) [(11, .vec fl 2 (gs.map G2.a)), (12, .int .i64 n), (13, .int .i64 i)] []) Q
def v31_at (fl : Bool) (gs : List G2) (m : Int) (Q : AV → Heap → Prop) : Prop := Wp M1 (.run fi31 (atC (cd Try.f31) []) [(0, .vec fl 2 (gs.map G2.a)), (1, .int .i64 m)] []) Q
def v31a_at (fl : Bool) (gs : List G2) (i : Int) (Q : AV → Heap → Prop) : Prop := Wp M1 (.run fi31 (atC (cd Try.f31) [1, 1, 0, 1, 0, 0]) [(0, .vec fl 2 (gs.map G2.a)), (5, .int .i64 i)] []) Q
def v29_at (fm : Bool) (o : List Int) (n : Int) (Q : AV → Heap → Prop) : Prop := Wp M1 (.run fi29 (atC (cd Try.f29) []) [(0, .vec fm 1 (o.map (.int .i64))), (1, .int .i64 n)] []) Q
def v29a_at (fm : Bool) (o : List Int) (n k i : Int) (sn : List Bool) (v : Nat) (Q : AV → Heap → Prop) : Prop := Wp M1 (.run fi29 (atC (cd Try.f29) [1, 1, 1, 0, 1, 0, 0]) [(1, .int .i64 n), (5, .row 0 v), (24, .vec fm 1 (o.map (.int .i64))), (25, .int .i64 k), (26, .int .i64 i)] [⟨sn.map .bool, 1, v, false, true⟩]) Q
def v32_at (fm : Bool) (o : List Int) (n : Int) (Q : AV → Heap → Prop) : Prop := Wp M1 (.run fi32 (atC (cd Try.f32) []) [(0, .int .i64 n), (1, .vec fm 1 (o.map (.int .i64)))] []) Q
def v32a_at (fm : Bool) (o : List Int) (n i : Int) (sn : List Bool) (v : Nat) (Q : AV → Heap → Prop) : Prop := Wp M1 (.run fi32 (atC (cd Try.f32) [1, 1, 1, 0, 1, 0, 0]) [(0, .int .i64 n), (1, .vec fm 1 (o.map (.int .i64))), (5, .row 0 v), (6, .int .i64 i)] [⟨sn.map .bool, 1, v, false, true⟩]) Q
theorem call15 {args : List AV} {d : AV} (h : Wp M1 (.run fi15 [.code (cd Try.f15)] (argVars 0 args) []) (PureQ d)) : Ev M1 (.pure 15 args) d [] :=
  pure_pq Try.f15 fi15 (by kernel_rfl) (by kernel_rfl) (by kernel_rfl) (by kernel_rfl) h
theorem owncall15 {args : List AV} {L : Heap} {Q : AV → Heap → Prop} (h : Wp M1 (.run fi15 [.code (cd Try.f15)] (argVars 0 args) L) Q) : Wp M1 (.own 15 args L) Q :=
  own_wp Try.f15 fi15 (by kernel_rfl) (by kernel_rfl) (by kernel_rfl) (by kernel_rfl) h
theorem keepcall15 {args : List AV} {L : Heap} {v : AV} {K : Heap} (hk : keepOk L.length v K = true) (h : Wp M1 (.run fi15 [.code (cd Try.f15)] (argVars 0 args) L) (KeepQ v K)) : Ev M1 (.own 15 args L) v K :=
  own_keep Try.f15 fi15 (by kernel_rfl) (by kernel_rfl) (by kernel_rfl) (by kernel_rfl) hk h
theorem call28 {args : List AV} {d : AV} (h : Wp M1 (.run fi28 [.code (cd Try.f28)] (argVars 0 args) []) (PureQ d)) : Ev M1 (.pure 28 args) d [] :=
  pure_pq Try.f28 fi28 (by kernel_rfl) (by kernel_rfl) (by kernel_rfl) (by kernel_rfl) h
theorem owncall28 {args : List AV} {L : Heap} {Q : AV → Heap → Prop} (h : Wp M1 (.run fi28 [.code (cd Try.f28)] (argVars 0 args) L) Q) : Wp M1 (.own 28 args L) Q :=
  own_wp Try.f28 fi28 (by kernel_rfl) (by kernel_rfl) (by kernel_rfl) (by kernel_rfl) h
theorem keepcall28 {args : List AV} {L : Heap} {v : AV} {K : Heap} (hk : keepOk L.length v K = true) (h : Wp M1 (.run fi28 [.code (cd Try.f28)] (argVars 0 args) L) (KeepQ v K)) : Ev M1 (.own 28 args L) v K :=
  own_keep Try.f28 fi28 (by kernel_rfl) (by kernel_rfl) (by kernel_rfl) (by kernel_rfl) hk h
theorem call29 {args : List AV} {d : AV} (h : Wp M1 (.run fi29 [.code (cd Try.f29)] (argVars 0 args) []) (PureQ d)) : Ev M1 (.pure 29 args) d [] :=
  pure_pq Try.f29 fi29 (by kernel_rfl) (by kernel_rfl) (by kernel_rfl) (by kernel_rfl) h
theorem owncall29 {args : List AV} {L : Heap} {Q : AV → Heap → Prop} (h : Wp M1 (.run fi29 [.code (cd Try.f29)] (argVars 0 args) L) Q) : Wp M1 (.own 29 args L) Q :=
  own_wp Try.f29 fi29 (by kernel_rfl) (by kernel_rfl) (by kernel_rfl) (by kernel_rfl) h
theorem keepcall29 {args : List AV} {L : Heap} {v : AV} {K : Heap} (hk : keepOk L.length v K = true) (h : Wp M1 (.run fi29 [.code (cd Try.f29)] (argVars 0 args) L) (KeepQ v K)) : Ev M1 (.own 29 args L) v K :=
  own_keep Try.f29 fi29 (by kernel_rfl) (by kernel_rfl) (by kernel_rfl) (by kernel_rfl) hk h
theorem call31 {args : List AV} {d : AV} (h : Wp M1 (.run fi31 [.code (cd Try.f31)] (argVars 0 args) []) (PureQ d)) : Ev M1 (.pure 31 args) d [] :=
  pure_pq Try.f31 fi31 (by kernel_rfl) (by kernel_rfl) (by kernel_rfl) (by kernel_rfl) h
theorem owncall31 {args : List AV} {L : Heap} {Q : AV → Heap → Prop} (h : Wp M1 (.run fi31 [.code (cd Try.f31)] (argVars 0 args) L) Q) : Wp M1 (.own 31 args L) Q :=
  own_wp Try.f31 fi31 (by kernel_rfl) (by kernel_rfl) (by kernel_rfl) (by kernel_rfl) h
theorem keepcall31 {args : List AV} {L : Heap} {v : AV} {K : Heap} (hk : keepOk L.length v K = true) (h : Wp M1 (.run fi31 [.code (cd Try.f31)] (argVars 0 args) L) (KeepQ v K)) : Ev M1 (.own 31 args L) v K :=
  own_keep Try.f31 fi31 (by kernel_rfl) (by kernel_rfl) (by kernel_rfl) (by kernel_rfl) hk h
theorem call32 {args : List AV} {d : AV} (h : Wp M1 (.run fi32 [.code (cd Try.f32)] (argVars 0 args) []) (PureQ d)) : Ev M1 (.pure 32 args) d [] :=
  pure_pq Try.f32 fi32 (by kernel_rfl) (by kernel_rfl) (by kernel_rfl) (by kernel_rfl) h
theorem owncall32 {args : List AV} {L : Heap} {Q : AV → Heap → Prop} (h : Wp M1 (.run fi32 [.code (cd Try.f32)] (argVars 0 args) L) Q) : Wp M1 (.own 32 args L) Q :=
  own_wp Try.f32 fi32 (by kernel_rfl) (by kernel_rfl) (by kernel_rfl) (by kernel_rfl) h
theorem keepcall32 {args : List AV} {L : Heap} {v : AV} {K : Heap} (hk : keepOk L.length v K = true) (h : Wp M1 (.run fi32 [.code (cd Try.f32)] (argVars 0 args) L) (KeepQ v K)) : Ev M1 (.own 32 args L) v K :=
  own_keep Try.f32 fi32 (by kernel_rfl) (by kernel_rfl) (by kernel_rfl) (by kernel_rfl) hk h
theorem call34 {args : List AV} {d : AV} (h : Wp M1 (.run fi34 [.code (cd Try.f34)] (argVars 0 args) []) (PureQ d)) : Ev M1 (.pure 34 args) d [] :=
  pure_pq Try.f34 fi34 (by kernel_rfl) (by kernel_rfl) (by kernel_rfl) (by kernel_rfl) h
theorem owncall34 {args : List AV} {L : Heap} {Q : AV → Heap → Prop} (h : Wp M1 (.run fi34 [.code (cd Try.f34)] (argVars 0 args) L) Q) : Wp M1 (.own 34 args L) Q :=
  own_wp Try.f34 fi34 (by kernel_rfl) (by kernel_rfl) (by kernel_rfl) (by kernel_rfl) h
theorem keepcall34 {args : List AV} {L : Heap} {v : AV} {K : Heap} (hk : keepOk L.length v K = true) (h : Wp M1 (.run fi34 [.code (cd Try.f34)] (argVars 0 args) L) (KeepQ v K)) : Ev M1 (.own 34 args L) v K :=
  own_keep Try.f34 fi34 (by kernel_rfl) (by kernel_rfl) (by kernel_rfl) (by kernel_rfl) hk h
theorem v15 (ax ay bx by_ : Int) (dq : AV) (H :
    (-9223372036854775808 ≤ by_ - ay ∧ by_ - ay ≤ 9223372036854775807) ∧
    (-9223372036854775808 ≤ ay - by_ ∧ ay - by_ ≤ 9223372036854775807) ∧
    (-9223372036854775808 ≤ bx - ax ∧ bx - ax ≤ 9223372036854775807) ∧
    (-9223372036854775808 ≤ ax - bx ∧ ax - bx ≤ 9223372036854775807) ∧
    AV.int IntKind.i64 (if by_ - ay > if ay - by_ > if bx - ax > ax - bx then bx - ax else ax - bx then ay - by_ else if bx - ax > ax - bx then bx - ax else ax - bx then by_ - ay else if ay - by_ > if bx - ax > ax - bx then bx - ax else ax - bx then ay - by_ else if bx - ax > ax - bx then bx - ax else ax - bx) = dq) :
  v15_at ax ay bx by_ (PureQ dq) := by
  unfold v15_at
  have k1 := H.1; have H := H.2
  have w2 : IntKind.i64.wrap (by_ - ay) = by_ - ay := wI64 k1
  have k3 := H.1; have H := H.2
  have w4 : IntKind.i64.wrap (ay - by_) = ay - by_ := wI64 k3
  have k5 := H.1; have H := H.2
  have w6 : IntKind.i64.wrap (bx - ax) = bx - ax := wI64 k5
  have k7 := H.1; have H := H.2
  have w8 : IntKind.i64.wrap (ax - bx) = ax - bx := wI64 k7
  exact path_ret (G := given kp15 [] []) 1000 [] (k := ((atC (cd Try.f15) [1, 1])).tail) (env' := [(4, AV.int IntKind.i64 (if IntKind.i64.wrap (by_ - ay) > if IntKind.i64.wrap (ay - by_) > if IntKind.i64.wrap (bx - ax) > IntKind.i64.wrap (ax - bx) then IntKind.i64.wrap (bx - ax) else IntKind.i64.wrap (ax - bx) then IntKind.i64.wrap (ay - by_) else if IntKind.i64.wrap (bx - ax) > IntKind.i64.wrap (ax - bx) then IntKind.i64.wrap (bx - ax) else IntKind.i64.wrap (ax - bx) then IntKind.i64.wrap (by_ - ay) else if IntKind.i64.wrap (ay - by_) > if IntKind.i64.wrap (bx - ax) > IntKind.i64.wrap (ax - bx) then IntKind.i64.wrap (bx - ax) else IntKind.i64.wrap (ax - bx) then IntKind.i64.wrap (ay - by_) else if IntKind.i64.wrap (bx - ax) > IntKind.i64.wrap (ax - bx) then IntKind.i64.wrap (bx - ax) else IntKind.i64.wrap (ax - bx)))]) (L' := [{ elems := [AV.agg [AV.int IntKind.i64 ax, AV.int IntKind.i64 ay]], es := 2, ver := 0, frozen := false, clean := false }, { elems := [AV.agg [AV.int IntKind.i64 bx, AV.int IntKind.i64 by_]], es := 2, ver := 0, frozen := false, clean := false }]) (asm := [true, true, true, true, true, true, true, true]) (eqs := []) (calls := []) (AV.int IntKind.i64 (if IntKind.i64.wrap (by_ - ay) > if IntKind.i64.wrap (ay - by_) > if IntKind.i64.wrap (bx - ax) > IntKind.i64.wrap (ax - bx) then IntKind.i64.wrap (bx - ax) else IntKind.i64.wrap (ax - bx) then IntKind.i64.wrap (ay - by_) else if IntKind.i64.wrap (bx - ax) > IntKind.i64.wrap (ax - bx) then IntKind.i64.wrap (bx - ax) else IntKind.i64.wrap (ax - bx) then IntKind.i64.wrap (by_ - ay) else if IntKind.i64.wrap (ay - by_) > if IntKind.i64.wrap (bx - ax) > IntKind.i64.wrap (ax - bx) then IntKind.i64.wrap (bx - ax) else IntKind.i64.wrap (ax - bx) then IntKind.i64.wrap (ay - by_) else if IntKind.i64.wrap (bx - ax) > IntKind.i64.wrap (ax - bx) then IntKind.i64.wrap (bx - ax) else IntKind.i64.wrap (ax - bx))) (by kernel_rfl) (by kernel_rfl) (allB_cons rfl (allB_cons rfl (allB_cons rfl (allB_cons rfl (allB_cons rfl (allB_cons rfl (allB_cons rfl (allB_cons rfl allB_nil)))))))) allP_nil allC_nil (pq_of (d := AV.int IntKind.i64 (if IntKind.i64.wrap (by_ - ay) > if IntKind.i64.wrap (ay - by_) > if IntKind.i64.wrap (bx - ax) > IntKind.i64.wrap (ax - bx) then IntKind.i64.wrap (bx - ax) else IntKind.i64.wrap (ax - bx) then IntKind.i64.wrap (ay - by_) else if IntKind.i64.wrap (bx - ax) > IntKind.i64.wrap (ax - bx) then IntKind.i64.wrap (bx - ax) else IntKind.i64.wrap (ax - bx) then IntKind.i64.wrap (by_ - ay) else if IntKind.i64.wrap (ay - by_) > if IntKind.i64.wrap (bx - ax) > IntKind.i64.wrap (ax - bx) then IntKind.i64.wrap (bx - ax) else IntKind.i64.wrap (ax - bx) then IntKind.i64.wrap (ay - by_) else if IntKind.i64.wrap (bx - ax) > IntKind.i64.wrap (ax - bx) then IntKind.i64.wrap (bx - ax) else IntKind.i64.wrap (ax - bx))) (bs := []) (by kernel_rfl) (by kernel_rfl) allB_nil (by kernel_rfl) (by rw [w2, w4, w6, w8] <;> exact H))

theorem v34 (a b : Int) (dq : AV) (H :
    ((a < b) → (-9223372036854775808 ≤ b - a ∧ b - a ≤ 9223372036854775807) ∧
      AV.int IntKind.i64 (b - a) = dq) ∧
    (¬(a < b) → (-9223372036854775808 ≤ a - b ∧ a - b ≤ 9223372036854775807) ∧
      AV.int IntKind.i64 (a - b) = dq)) :
  v34_at a b (PureQ dq) := by
  unfold v34_at
  have i1 : (decide (a < b)) = true ↔ (a < b) := i_dec
  rcases Classical.em (a < b) with d2 | d2
  · have H := H.1 d2
    have k3 := H.1; have H := H.2
    have w4 : IntKind.i64.wrap (b - a) = b - a := wI64 k3
    exact path_ret (G := given kp34 [] []) 1000 [true] (k := ((atC (cd Try.f34) [1, 0, 1, 0, 1])).tail) (env' := [(4, AV.int IntKind.i64 (IntKind.i64.wrap (b - a)))]) (L' := []) (asm := [(decide (a < b)) == true]) (eqs := []) (calls := []) (AV.int IntKind.i64 (IntKind.i64.wrap (b - a))) (by kernel_rfl) (by kernel_rfl) (allB_cons (beq_t (i1.2 d2)) allB_nil) allP_nil allC_nil (pq_of (d := AV.int IntKind.i64 (IntKind.i64.wrap (b - a))) (bs := []) (by kernel_rfl) (by kernel_rfl) allB_nil (by kernel_rfl) (by rw [w4] <;> exact H))
  · have H := H.2 d2
    have k5 := H.1; have H := H.2
    have w6 : IntKind.i64.wrap (a - b) = a - b := wI64 k5
    exact path_ret (G := given kp34 [] []) 1000 [false] (k := ((atC (cd Try.f34) [1, 1, 1])).tail) (env' := [(4, AV.int IntKind.i64 (IntKind.i64.wrap (a - b)))]) (L' := []) (asm := [(decide (a < b)) == false]) (eqs := []) (calls := []) (AV.int IntKind.i64 (IntKind.i64.wrap (a - b))) (by kernel_rfl) (by kernel_rfl) (allB_cons (beq_f (fun h => d2 (i1.1 h))) allB_nil) allP_nil allC_nil (pq_of (d := AV.int IntKind.i64 (IntKind.i64.wrap (a - b))) (bs := []) (by kernel_rfl) (by kernel_rfl) allB_nil (by kernel_rfl) (by rw [w6] <;> exact H))

theorem v28 (fl : Bool) (gs : List G2) (m : Int) (dq : AV) (H :
    (((↑gs.length : Int) > m) → AV.int IntKind.i64 3 = dq) ∧
    (¬((↑gs.length : Int) > m) → v28a_at (fl) (gs) ((↑gs.length : Int)) (0) (PureQ dq))) :
  v28_at fl gs m (PureQ dq) := by
  unfold v28_at
  have w1 : (List.map G2.a gs).length = gs.length := List.length_map ..
  have i2 : (decide ((↑(List.map G2.a gs).length : Int) > m)) = true ↔ ((↑gs.length : Int) > m) := (by rw [w1] <;> exact i_dec)
  rcases Classical.em ((↑gs.length : Int) > m) with d3 | d3
  · have H := H.1 d3
    exact path_ret (G := given kp28 [] []) 1000 [true] (k := ((atC (cd Try.f28) [1, 0, 1, 0, 1])).tail) (env' := [(4, AV.int IntKind.i64 3)]) (L' := []) (asm := [(decide ((↑(List.map G2.a gs).length : Int) > m)) == true]) (eqs := []) (calls := []) (AV.int IntKind.i64 3) (by kernel_rfl) (by kernel_rfl) (allB_cons (beq_t (i2.2 d3)) allB_nil) allP_nil allC_nil (pq_of (d := AV.int IntKind.i64 3) (bs := []) (by kernel_rfl) (by kernel_rfl) allB_nil (by kernel_rfl) H)
  · have H := H.2 d3
    exact path_wp (G := given kp28 [] []) 1000 [false] ⟨(atC (cd Try.f28) [1, 1, 0, 1, 0, 0]), [(11, AV.vec fl 2 (List.map G2.a gs)), (12, AV.int IntKind.i64 (↑(List.map G2.a gs).length : Int)), (13, AV.int IntKind.i64 0)], [], [(decide ((↑(List.map G2.a gs).length : Int) > m)) == false], [], []⟩ (by kernel_rfl) (allB_cons (beq_f (fun h => d3 (i2.1 h))) allB_nil) allP_nil allC_nil (by rw [w1] <;> exact H)

theorem v28a (fl : Bool) (gs : List G2) (n i : Int) (dq : AV) (H :
    ((i < n) → (0 ≤ i) ∧
      (i.toNat < gs.length) ∧
      ((((if (gs.getD i.toNat default).y > (gs.getD i.toNat default).x then (gs.getD i.toNat default).y else (gs.getD i.toNat default).x) > 10000000) ∨ ((if (gs.getD i.toNat default).y < (gs.getD i.toNat default).x then (gs.getD i.toNat default).y else (gs.getD i.toNat default).x) < -10000000)) → AV.int IntKind.i64 11 = dq) ∧
      (¬(((if (gs.getD i.toNat default).y > (gs.getD i.toNat default).x then (gs.getD i.toNat default).y else (gs.getD i.toNat default).x) > 10000000) ∨ ((if (gs.getD i.toNat default).y < (gs.getD i.toNat default).x then (gs.getD i.toNat default).y else (gs.getD i.toNat default).x) < -10000000)) → (-9223372036854775808 ≤ i + 1 ∧ i + 1 ≤ 9223372036854775807) ∧
        v28a_at (fl) (gs) (n) (i + 1) (PureQ dq))) ∧
    (¬(i < n) → AV.int IntKind.i64 0 = dq)) :
  v28a_at fl gs n i (PureQ dq) := by
  unfold v28a_at
  have i1 : (decide (i < n)) = true ↔ (i < n) := i_dec
  rcases Classical.em (i < n) with d2 | d2
  · have H := H.1 d2
    have i3 : (decide (0 ≤ i)) = true ↔ (0 ≤ i) := i_dec
    have k4 := H.1; have H := H.2
    have w5 : (List.map G2.a gs).length = gs.length := List.length_map ..
    have i6 : (decide (i.toNat < (List.map G2.a gs).length)) = true ↔ (i.toNat < gs.length) := (by rw [w5] <;> exact i_dec)
    have k7 := H.1; have H := H.2
    have i8 : (bif decide ((if (gs.getD i.toNat default).y > (gs.getD i.toNat default).x then (gs.getD i.toNat default).y else (gs.getD i.toNat default).x) > 10000000) then true else decide ((if (gs.getD i.toNat default).y < (gs.getD i.toNat default).x then (gs.getD i.toNat default).y else (gs.getD i.toNat default).x) < -10000000)) = true ↔ (((if (gs.getD i.toNat default).y > (gs.getD i.toNat default).x then (gs.getD i.toNat default).y else (gs.getD i.toNat default).x) > 10000000) ∨ ((if (gs.getD i.toNat default).y < (gs.getD i.toNat default).x then (gs.getD i.toNat default).y else (gs.getD i.toNat default).x) < -10000000)) := (i_bor i_dec i_dec)
    rcases Classical.em (((if (gs.getD i.toNat default).y > (gs.getD i.toNat default).x then (gs.getD i.toNat default).y else (gs.getD i.toNat default).x) > 10000000) ∨ ((if (gs.getD i.toNat default).y < (gs.getD i.toNat default).x then (gs.getD i.toNat default).y else (gs.getD i.toNat default).x) < -10000000)) with d9 | d9
    · have H := H.1 d9
      exact path_ret (G := given kp28 [(5, 1, .elem (AV.agg [AV.int IntKind.i64 (gs.getD i.toNat default).x, AV.int IntKind.i64 (gs.getD i.toNat default).y]))] []) 1000 [true, true] (k := ((atC (cd Try.f28) [1, 1, 0, 1, 0, 0, 1, 1, 0, 0, 1, 1, 0, 1])).tail) (env' := [(4, AV.int IntKind.i64 11)]) (L' := [{ elems := [AV.agg [AV.int IntKind.i64 (gs.getD i.toNat default).x, AV.int IntKind.i64 (gs.getD i.toNat default).y]], es := 2, ver := 0, frozen := false, clean := false }]) (asm := [(decide (i < n)) == true, decide (0 ≤ i), decide (i.toNat < (List.map G2.a gs).length), true, true, true, !(decide ((if (gs.getD i.toNat default).y > (gs.getD i.toNat default).x then (gs.getD i.toNat default).y else (gs.getD i.toNat default).x) > 10000000) == false && true) || true, !(decide ((if (gs.getD i.toNat default).y > (gs.getD i.toNat default).x then (gs.getD i.toNat default).y else (gs.getD i.toNat default).x) > 10000000) == false && true) || true, (bif decide ((if (gs.getD i.toNat default).y > (gs.getD i.toNat default).x then (gs.getD i.toNat default).y else (gs.getD i.toNat default).x) > 10000000) then true else decide ((if (gs.getD i.toNat default).y < (gs.getD i.toNat default).x then (gs.getD i.toNat default).y else (gs.getD i.toNat default).x) < -10000000)) == true]) (eqs := [((List.map G2.a gs).get?Internal i.toNat = some (AV.agg [AV.int IntKind.i64 (gs.getD i.toNat default).x, AV.int IntKind.i64 (gs.getD i.toNat default).y]))]) (calls := []) (AV.int IntKind.i64 11) (by kernel_rfl) (by kernel_rfl) (allB_cons (beq_t (i1.2 d2)) (allB_cons (i3.2 k4) (allB_cons (i6.2 k7) (allB_cons rfl (allB_cons rfl (allB_cons rfl (allB_cons (Bool.or_true _) (allB_cons (Bool.or_true _) (allB_cons (beq_t (i8.2 d9)) allB_nil))))))))) (allP_cons (el_map k7) allP_nil) allC_nil (pq_of (d := AV.int IntKind.i64 11) (bs := []) (by kernel_rfl) (by kernel_rfl) allB_nil (by kernel_rfl) H)
    · have H := H.2 d9
      have k10 := H.1; have H := H.2
      have w11 : IntKind.i64.wrap (i + 1) = i + 1 := wI64 k10
      exact path_wp (G := given kp28 [(5, 1, .elem (AV.agg [AV.int IntKind.i64 (gs.getD i.toNat default).x, AV.int IntKind.i64 (gs.getD i.toNat default).y]))] []) 1000 [true, false] ⟨(atC (cd Try.f28) [1, 1, 0, 1, 0, 0]), [(11, AV.vec fl 2 (List.map G2.a gs)), (12, AV.int IntKind.i64 n), (13, AV.int IntKind.i64 (IntKind.i64.wrap (i + 1)))], [{ elems := [AV.agg [AV.int IntKind.i64 (gs.getD i.toNat default).x, AV.int IntKind.i64 (gs.getD i.toNat default).y]], es := 2, ver := 0, frozen := false, clean := false }], [(decide (i < n)) == true, decide (0 ≤ i), decide (i.toNat < (List.map G2.a gs).length), true, true, true, !(decide ((if (gs.getD i.toNat default).y > (gs.getD i.toNat default).x then (gs.getD i.toNat default).y else (gs.getD i.toNat default).x) > 10000000) == false && true) || true, !(decide ((if (gs.getD i.toNat default).y > (gs.getD i.toNat default).x then (gs.getD i.toNat default).y else (gs.getD i.toNat default).x) > 10000000) == false && true) || true, (bif decide ((if (gs.getD i.toNat default).y > (gs.getD i.toNat default).x then (gs.getD i.toNat default).y else (gs.getD i.toNat default).x) > 10000000) then true else decide ((if (gs.getD i.toNat default).y < (gs.getD i.toNat default).x then (gs.getD i.toNat default).y else (gs.getD i.toNat default).x) < -10000000)) == false], [((List.map G2.a gs).get?Internal i.toNat = some (AV.agg [AV.int IntKind.i64 (gs.getD i.toNat default).x, AV.int IntKind.i64 (gs.getD i.toNat default).y]))], []⟩ (by kernel_rfl) (allB_cons (beq_t (i1.2 d2)) (allB_cons (i3.2 k4) (allB_cons (i6.2 k7) (allB_cons rfl (allB_cons rfl (allB_cons rfl (allB_cons (Bool.or_true _) (allB_cons (Bool.or_true _) (allB_cons (beq_f (fun h => d9 (i8.1 h))) allB_nil))))))))) (allP_cons (el_map k7) allP_nil) allC_nil (by rw [w11] <;> exact wp_narrow [] (by kernel_rfl) H)
  · have H := H.2 d2
    exact path_ret (G := given kp28 [] []) 1000 [false] (k := ((atC (cd Try.f28) [1, 1, 1, 1])).tail) (env' := [(4, AV.int IntKind.i64 0)]) (L' := []) (asm := [(decide (i < n)) == false]) (eqs := []) (calls := []) (AV.int IntKind.i64 0) (by kernel_rfl) (by kernel_rfl) (allB_cons (beq_f (fun h => d2 (i1.1 h))) allB_nil) allP_nil allC_nil (pq_of (d := AV.int IntKind.i64 0) (bs := []) (by kernel_rfl) (by kernel_rfl) allB_nil (by kernel_rfl) H)

theorem v31 (fl : Bool) (gs : List G2) (m : Int) (dq : AV) (H :
    (((↑gs.length : Int) > m) → AV.int IntKind.i64 3 = dq) ∧
    (¬((↑gs.length : Int) > m) → v31a_at (fl) (gs) (0) (PureQ dq))) :
  v31_at fl gs m (PureQ dq) := by
  unfold v31_at
  have w1 : (List.map G2.a gs).length = gs.length := List.length_map ..
  have i2 : (decide ((↑(List.map G2.a gs).length : Int) > m)) = true ↔ ((↑gs.length : Int) > m) := (by rw [w1] <;> exact i_dec)
  rcases Classical.em ((↑gs.length : Int) > m) with d3 | d3
  · have H := H.1 d3
    exact path_ret (G := given kp31 [] []) 1000 [true] (k := ((atC (cd Try.f31) [1, 0, 1, 0, 1])).tail) (env' := [(4, AV.int IntKind.i64 3)]) (L' := []) (asm := [(decide ((↑(List.map G2.a gs).length : Int) > m)) == true]) (eqs := []) (calls := []) (AV.int IntKind.i64 3) (by kernel_rfl) (by kernel_rfl) (allB_cons (beq_t (i2.2 d3)) allB_nil) allP_nil allC_nil (pq_of (d := AV.int IntKind.i64 3) (bs := []) (by kernel_rfl) (by kernel_rfl) allB_nil (by kernel_rfl) H)
  · have H := H.2 d3
    exact path_wp (G := given kp31 [] []) 1000 [false] ⟨(atC (cd Try.f31) [1, 1, 0, 1, 0, 0]), [(0, AV.vec fl 2 (List.map G2.a gs)), (5, AV.int IntKind.i64 0)], [], [(decide ((↑(List.map G2.a gs).length : Int) > m)) == false], [], []⟩ (by kernel_rfl) (allB_cons (beq_f (fun h => d3 (i2.1 h))) allB_nil) allP_nil allC_nil (H)

theorem v31a (fl : Bool) (gs : List G2) (i : Int) (dq : AV) (H :
    ((i < (↑gs.length : Int)) → (0 ≤ i) ∧
      (i.toNat < gs.length) ∧
      ((((((gs.getD i.toNat default).x > 10000000) ∨ ((gs.getD i.toNat default).x < -10000000)) ∨ ((gs.getD i.toNat default).y > 10000000)) ∨ ((gs.getD i.toNat default).y < -10000000)) → AV.int IntKind.i64 11 = dq) ∧
      (¬(((((gs.getD i.toNat default).x > 10000000) ∨ ((gs.getD i.toNat default).x < -10000000)) ∨ ((gs.getD i.toNat default).y > 10000000)) ∨ ((gs.getD i.toNat default).y < -10000000)) → (-9223372036854775808 ≤ i + 1 ∧ i + 1 ≤ 9223372036854775807) ∧
        v31a_at (fl) (gs) (i + 1) (PureQ dq))) ∧
    (¬(i < (↑gs.length : Int)) → AV.int IntKind.i64 0 = dq)) :
  v31a_at fl gs i (PureQ dq) := by
  unfold v31a_at
  have w1 : (List.map G2.a gs).length = gs.length := List.length_map ..
  have i2 : (decide (i < (↑(List.map G2.a gs).length : Int))) = true ↔ (i < (↑gs.length : Int)) := (by rw [w1] <;> exact i_dec)
  rcases Classical.em (i < (↑gs.length : Int)) with d3 | d3
  · have H := H.1 d3
    have i4 : (decide (0 ≤ i)) = true ↔ (0 ≤ i) := i_dec
    have k5 := H.1; have H := H.2
    have i6 : (decide (i.toNat < (List.map G2.a gs).length)) = true ↔ (i.toNat < gs.length) := (by rw [w1] <;> exact i_dec)
    have k7 := H.1; have H := H.2
    have i8 : (!(decide ((gs.getD i.toNat default).x > 10000000) == false && true) || decide (0 ≤ i)) = true ↔ ((¬((gs.getD i.toNat default).x > 10000000)) → (0 ≤ i)) := (i_imp (i_at (i_bf i_dec)) i_dec)
    have i9 : (!(decide ((gs.getD i.toNat default).x > 10000000) == false && true) || decide (i.toNat < (List.map G2.a gs).length)) = true ↔ ((¬((gs.getD i.toNat default).x > 10000000)) → (i.toNat < gs.length)) := (by rw [w1] <;> exact (i_imp (i_at (i_bf i_dec)) i_dec))
    have i10 : (!((bif decide ((gs.getD i.toNat default).x > 10000000) then true else decide ((gs.getD i.toNat default).x < -10000000)) == false && true) || decide (0 ≤ i)) = true ↔ ((¬(((gs.getD i.toNat default).x > 10000000) ∨ ((gs.getD i.toNat default).x < -10000000))) → (0 ≤ i)) := (i_imp (i_at (i_bf (i_bor i_dec i_dec))) i_dec)
    have i11 : (!((bif decide ((gs.getD i.toNat default).x > 10000000) then true else decide ((gs.getD i.toNat default).x < -10000000)) == false && true) || decide (i.toNat < (List.map G2.a gs).length)) = true ↔ ((¬(((gs.getD i.toNat default).x > 10000000) ∨ ((gs.getD i.toNat default).x < -10000000))) → (i.toNat < gs.length)) := (by rw [w1] <;> exact (i_imp (i_at (i_bf (i_bor i_dec i_dec))) i_dec))
    have i12 : (!((bif bif decide ((gs.getD i.toNat default).x > 10000000) then true else decide ((gs.getD i.toNat default).x < -10000000) then true else decide ((gs.getD i.toNat default).y > 10000000)) == false && true) || decide (0 ≤ i)) = true ↔ ((¬((((gs.getD i.toNat default).x > 10000000) ∨ ((gs.getD i.toNat default).x < -10000000)) ∨ ((gs.getD i.toNat default).y > 10000000))) → (0 ≤ i)) := (i_imp (i_at (i_bf (i_bor (i_bor i_dec i_dec) i_dec))) i_dec)
    have i13 : (!((bif bif decide ((gs.getD i.toNat default).x > 10000000) then true else decide ((gs.getD i.toNat default).x < -10000000) then true else decide ((gs.getD i.toNat default).y > 10000000)) == false && true) || decide (i.toNat < (List.map G2.a gs).length)) = true ↔ ((¬((((gs.getD i.toNat default).x > 10000000) ∨ ((gs.getD i.toNat default).x < -10000000)) ∨ ((gs.getD i.toNat default).y > 10000000))) → (i.toNat < gs.length)) := (by rw [w1] <;> exact (i_imp (i_at (i_bf (i_bor (i_bor i_dec i_dec) i_dec))) i_dec))
    have i14 : (decide ((gs.getD i.toNat default).x > 10000000) == false && true) = true ↔ (¬((gs.getD i.toNat default).x > 10000000)) := (i_at (i_bf i_dec))
    have i15 : ((bif decide ((gs.getD i.toNat default).x > 10000000) then true else decide ((gs.getD i.toNat default).x < -10000000)) == false && true) = true ↔ (¬(((gs.getD i.toNat default).x > 10000000) ∨ ((gs.getD i.toNat default).x < -10000000))) := (i_at (i_bf (i_bor i_dec i_dec)))
    have i16 : ((bif bif decide ((gs.getD i.toNat default).x > 10000000) then true else decide ((gs.getD i.toNat default).x < -10000000) then true else decide ((gs.getD i.toNat default).y > 10000000)) == false && true) = true ↔ (¬((((gs.getD i.toNat default).x > 10000000) ∨ ((gs.getD i.toNat default).x < -10000000)) ∨ ((gs.getD i.toNat default).y > 10000000))) := (i_at (i_bf (i_bor (i_bor i_dec i_dec) i_dec)))
    have i17 : (bif bif bif decide ((gs.getD i.toNat default).x > 10000000) then true else decide ((gs.getD i.toNat default).x < -10000000) then true else decide ((gs.getD i.toNat default).y > 10000000) then true else decide ((gs.getD i.toNat default).y < -10000000)) = true ↔ (((((gs.getD i.toNat default).x > 10000000) ∨ ((gs.getD i.toNat default).x < -10000000)) ∨ ((gs.getD i.toNat default).y > 10000000)) ∨ ((gs.getD i.toNat default).y < -10000000)) := (i_bor (i_bor (i_bor i_dec i_dec) i_dec) i_dec)
    rcases Classical.em (((((gs.getD i.toNat default).x > 10000000) ∨ ((gs.getD i.toNat default).x < -10000000)) ∨ ((gs.getD i.toNat default).y > 10000000)) ∨ ((gs.getD i.toNat default).y < -10000000)) with d18 | d18
    · have H := H.1 d18
      exact path_ret (G := given kp31 [(6, 4, .elem (AV.agg [AV.int IntKind.i64 (gs.getD i.toNat default).x, AV.int IntKind.i64 (gs.getD i.toNat default).y])), (6, 11, .elem (AV.agg [AV.int IntKind.i64 (gs.getD i.toNat default).x, AV.int IntKind.i64 (gs.getD i.toNat default).y])), (6, 19, .elem (AV.agg [AV.int IntKind.i64 (gs.getD i.toNat default).x, AV.int IntKind.i64 (gs.getD i.toNat default).y])), (6, 27, .elem (AV.agg [AV.int IntKind.i64 (gs.getD i.toNat default).x, AV.int IntKind.i64 (gs.getD i.toNat default).y]))] []) 1000 [true, true] (k := ((atC (cd Try.f31) [1, 1, 0, 1, 0, 0, 1, 0, 0, 1, 0, 1])).tail) (env' := [(4, AV.int IntKind.i64 11)]) (L' := []) (asm := [(decide (i < (↑(List.map G2.a gs).length : Int))) == true, decide (0 ≤ i), decide (i.toNat < (List.map G2.a gs).length), !(decide ((gs.getD i.toNat default).x > 10000000) == false && true) || decide (0 ≤ i), !(decide ((gs.getD i.toNat default).x > 10000000) == false && true) || decide (i.toNat < (List.map G2.a gs).length), !((bif decide ((gs.getD i.toNat default).x > 10000000) then true else decide ((gs.getD i.toNat default).x < -10000000)) == false && true) || decide (0 ≤ i), !((bif decide ((gs.getD i.toNat default).x > 10000000) then true else decide ((gs.getD i.toNat default).x < -10000000)) == false && true) || decide (i.toNat < (List.map G2.a gs).length), !((bif bif decide ((gs.getD i.toNat default).x > 10000000) then true else decide ((gs.getD i.toNat default).x < -10000000) then true else decide ((gs.getD i.toNat default).y > 10000000)) == false && true) || decide (0 ≤ i), !((bif bif decide ((gs.getD i.toNat default).x > 10000000) then true else decide ((gs.getD i.toNat default).x < -10000000) then true else decide ((gs.getD i.toNat default).y > 10000000)) == false && true) || decide (i.toNat < (List.map G2.a gs).length), (bif bif bif decide ((gs.getD i.toNat default).x > 10000000) then true else decide ((gs.getD i.toNat default).x < -10000000) then true else decide ((gs.getD i.toNat default).y > 10000000) then true else decide ((gs.getD i.toNat default).y < -10000000)) == true]) (eqs := [((List.map G2.a gs).get?Internal i.toNat = some (AV.agg [AV.int IntKind.i64 (gs.getD i.toNat default).x, AV.int IntKind.i64 (gs.getD i.toNat default).y])), ((decide ((gs.getD i.toNat default).x > 10000000) == false && true) = true → (List.map G2.a gs).get?Internal i.toNat = some (AV.agg [AV.int IntKind.i64 (gs.getD i.toNat default).x, AV.int IntKind.i64 (gs.getD i.toNat default).y])), (((bif decide ((gs.getD i.toNat default).x > 10000000) then true else decide ((gs.getD i.toNat default).x < -10000000)) == false && true) = true → (List.map G2.a gs).get?Internal i.toNat = some (AV.agg [AV.int IntKind.i64 (gs.getD i.toNat default).x, AV.int IntKind.i64 (gs.getD i.toNat default).y])), (((bif bif decide ((gs.getD i.toNat default).x > 10000000) then true else decide ((gs.getD i.toNat default).x < -10000000) then true else decide ((gs.getD i.toNat default).y > 10000000)) == false && true) = true → (List.map G2.a gs).get?Internal i.toNat = some (AV.agg [AV.int IntKind.i64 (gs.getD i.toNat default).x, AV.int IntKind.i64 (gs.getD i.toNat default).y]))]) (calls := []) (AV.int IntKind.i64 11) (by kernel_rfl) (by kernel_rfl) (allB_cons (beq_t (i2.2 d3)) (allB_cons (i4.2 k5) (allB_cons (i6.2 k7) (allB_cons (i8.2 (fun _ => k5)) (allB_cons (i9.2 (fun _ => k7)) (allB_cons (i10.2 (fun _ => k5)) (allB_cons (i11.2 (fun _ => k7)) (allB_cons (i12.2 (fun _ => k5)) (allB_cons (i13.2 (fun _ => k7)) (allB_cons (beq_t (i17.2 d18)) allB_nil)))))))))) (allP_cons (el_map k7) (allP_cons (fun h => el_map k7) (allP_cons (fun h => el_map k7) (allP_cons (fun h => el_map k7) allP_nil)))) allC_nil (pq_of (d := AV.int IntKind.i64 11) (bs := []) (by kernel_rfl) (by kernel_rfl) allB_nil (by kernel_rfl) H)
    · have H := H.2 d18
      have k19 := H.1; have H := H.2
      have w20 : IntKind.i64.wrap (i + 1) = i + 1 := wI64 k19
      exact path_wp (G := given kp31 [(6, 4, .elem (AV.agg [AV.int IntKind.i64 (gs.getD i.toNat default).x, AV.int IntKind.i64 (gs.getD i.toNat default).y])), (6, 11, .elem (AV.agg [AV.int IntKind.i64 (gs.getD i.toNat default).x, AV.int IntKind.i64 (gs.getD i.toNat default).y])), (6, 19, .elem (AV.agg [AV.int IntKind.i64 (gs.getD i.toNat default).x, AV.int IntKind.i64 (gs.getD i.toNat default).y])), (6, 27, .elem (AV.agg [AV.int IntKind.i64 (gs.getD i.toNat default).x, AV.int IntKind.i64 (gs.getD i.toNat default).y]))] []) 1000 [true, false] ⟨(atC (cd Try.f31) [1, 1, 0, 1, 0, 0]), [(0, AV.vec fl 2 (List.map G2.a gs)), (5, AV.int IntKind.i64 (IntKind.i64.wrap (i + 1)))], [], [(decide (i < (↑(List.map G2.a gs).length : Int))) == true, decide (0 ≤ i), decide (i.toNat < (List.map G2.a gs).length), !(decide ((gs.getD i.toNat default).x > 10000000) == false && true) || decide (0 ≤ i), !(decide ((gs.getD i.toNat default).x > 10000000) == false && true) || decide (i.toNat < (List.map G2.a gs).length), !((bif decide ((gs.getD i.toNat default).x > 10000000) then true else decide ((gs.getD i.toNat default).x < -10000000)) == false && true) || decide (0 ≤ i), !((bif decide ((gs.getD i.toNat default).x > 10000000) then true else decide ((gs.getD i.toNat default).x < -10000000)) == false && true) || decide (i.toNat < (List.map G2.a gs).length), !((bif bif decide ((gs.getD i.toNat default).x > 10000000) then true else decide ((gs.getD i.toNat default).x < -10000000) then true else decide ((gs.getD i.toNat default).y > 10000000)) == false && true) || decide (0 ≤ i), !((bif bif decide ((gs.getD i.toNat default).x > 10000000) then true else decide ((gs.getD i.toNat default).x < -10000000) then true else decide ((gs.getD i.toNat default).y > 10000000)) == false && true) || decide (i.toNat < (List.map G2.a gs).length), (bif bif bif decide ((gs.getD i.toNat default).x > 10000000) then true else decide ((gs.getD i.toNat default).x < -10000000) then true else decide ((gs.getD i.toNat default).y > 10000000) then true else decide ((gs.getD i.toNat default).y < -10000000)) == false], [((List.map G2.a gs).get?Internal i.toNat = some (AV.agg [AV.int IntKind.i64 (gs.getD i.toNat default).x, AV.int IntKind.i64 (gs.getD i.toNat default).y])), ((decide ((gs.getD i.toNat default).x > 10000000) == false && true) = true → (List.map G2.a gs).get?Internal i.toNat = some (AV.agg [AV.int IntKind.i64 (gs.getD i.toNat default).x, AV.int IntKind.i64 (gs.getD i.toNat default).y])), (((bif decide ((gs.getD i.toNat default).x > 10000000) then true else decide ((gs.getD i.toNat default).x < -10000000)) == false && true) = true → (List.map G2.a gs).get?Internal i.toNat = some (AV.agg [AV.int IntKind.i64 (gs.getD i.toNat default).x, AV.int IntKind.i64 (gs.getD i.toNat default).y])), (((bif bif decide ((gs.getD i.toNat default).x > 10000000) then true else decide ((gs.getD i.toNat default).x < -10000000) then true else decide ((gs.getD i.toNat default).y > 10000000)) == false && true) = true → (List.map G2.a gs).get?Internal i.toNat = some (AV.agg [AV.int IntKind.i64 (gs.getD i.toNat default).x, AV.int IntKind.i64 (gs.getD i.toNat default).y]))], []⟩ (by kernel_rfl) (allB_cons (beq_t (i2.2 d3)) (allB_cons (i4.2 k5) (allB_cons (i6.2 k7) (allB_cons (i8.2 (fun _ => k5)) (allB_cons (i9.2 (fun _ => k7)) (allB_cons (i10.2 (fun _ => k5)) (allB_cons (i11.2 (fun _ => k7)) (allB_cons (i12.2 (fun _ => k5)) (allB_cons (i13.2 (fun _ => k7)) (allB_cons (beq_f (fun h => d18 (i17.1 h))) allB_nil)))))))))) (allP_cons (el_map k7) (allP_cons (fun h => el_map k7) (allP_cons (fun h => el_map k7) (allP_cons (fun h => el_map k7) allP_nil)))) allC_nil (by rw [w20] <;> exact H)
  · have H := H.2 d3
    exact path_ret (G := given kp31 [] []) 1000 [false] (k := ((atC (cd Try.f31) [1, 1, 1, 1])).tail) (env' := [(4, AV.int IntKind.i64 0)]) (L' := []) (asm := [(decide (i < (↑(List.map G2.a gs).length : Int))) == false]) (eqs := []) (calls := []) (AV.int IntKind.i64 0) (by kernel_rfl) (by kernel_rfl) (allB_cons (beq_f (fun h => d3 (i2.1 h))) allB_nil) allP_nil allC_nil (pq_of (d := AV.int IntKind.i64 0) (bs := []) (by kernel_rfl) (by kernel_rfl) allB_nil (by kernel_rfl) H)

theorem v29 (fm : Bool) (o : List Int) (n : Int) (dq : AV) (H :
    (((n > 0) ∧ (¬(¬(↑o.length : Int) = n))) → (0 < o.length)) ∧
    (((¬(↑o.length : Int) = n) ∨ ((n > 0) ∧ (¬o.getD 0 default = 0))) → AV.bool false = dq) ∧
    (¬((¬(↑o.length : Int) = n) ∨ ((n > 0) ∧ (¬o.getD 0 default = 0))) → (0 ≤ n) ∧
      (n * 1 ≤ 1099511627776) ∧
      (n ≤ 1099511627776) ∧
      v29a_at (fm) (o) (n) ((↑o.length : Int)) (0) (List.replicate n.toNat false) (0) (PureQ dq))) :
  v29_at fm o n (PureQ dq) := by
  unfold v29_at
  have w1 : (List.map (AV.int IntKind.i64) o).length = o.length := List.length_map ..
  have i2 : (!(decide (n > 0) == true && (((↑(List.map (AV.int IntKind.i64) o).length : Int) != n) == false && true)) || decide (0 < (List.map (AV.int IntKind.i64) o).length)) = true ↔ (((n > 0) ∧ (¬(¬(↑o.length : Int) = n))) → (0 < o.length)) := (by rw [w1] <;> exact (i_imp (i_and (i_bt i_dec) (i_at (i_bf i_ne))) i_dec))
  have k3 := H.1; have H := H.2
  have i4 : (decide (n > 0) == true && (((↑o.length : Int) != n) == false && true)) = true ↔ ((n > 0) ∧ (¬(¬(↑o.length : Int) = n))) := (i_and (i_bt i_dec) (i_at (i_bf i_ne)))
  have i5 : (bif (↑(List.map (AV.int IntKind.i64) o).length : Int) != n then true else bif decide (n > 0) then o.getD 0 default != 0 else false) = true ↔ ((¬(↑o.length : Int) = n) ∨ ((n > 0) ∧ (¬o.getD 0 default = 0))) := (by rw [w1] <;> exact (i_bor i_ne (i_band i_dec i_ne)))
  rcases Classical.em ((¬(↑o.length : Int) = n) ∨ ((n > 0) ∧ (¬o.getD 0 default = 0))) with d6 | d6
  · have H := H.1 d6
    exact path_ret (G := given kp29 [(1, 10, .elem (AV.int IntKind.i64 (o.getD 0 default)))] []) 1000 [true] (k := ((atC (cd Try.f29) [1, 0, 1, 0, 1])).tail) (env' := [(4, AV.bool false)]) (L' := []) (asm := [!(decide (n > 0) == true && (((↑(List.map (AV.int IntKind.i64) o).length : Int) != n) == false && true)) || true, !(decide (n > 0) == true && (((↑(List.map (AV.int IntKind.i64) o).length : Int) != n) == false && true)) || decide (0 < (List.map (AV.int IntKind.i64) o).length), (bif (↑(List.map (AV.int IntKind.i64) o).length : Int) != n then true else bif decide (n > 0) then o.getD 0 default != 0 else false) == true]) (eqs := [((decide (n > 0) == true && (((↑(List.map (AV.int IntKind.i64) o).length : Int) != n) == false && true)) = true → (List.map (AV.int IntKind.i64) o).get?Internal 0 = some (AV.int IntKind.i64 (o.getD 0 default)))]) (calls := []) (AV.bool false) (by kernel_rfl) (by kernel_rfl) (allB_cons (Bool.or_true _) (allB_cons (i2.2 k3) (allB_cons (beq_t (i5.2 d6)) allB_nil))) (allP_cons (by rw [w1] <;> exact (fun h => el_map (k3 (i4.1 h)))) allP_nil) allC_nil (pq_of (d := AV.bool false) (bs := []) (by kernel_rfl) (by kernel_rfl) allB_nil (by kernel_rfl) H)
  · have H := H.2 d6
    have i7 : (decide (0 ≤ n)) = true ↔ (0 ≤ n) := i_dec
    have k8 := H.1; have H := H.2
    have i9 : (decide (n ≤ n)) = true ↔ (n ≤ n) := i_dec
    have i10 : (decide (n * 1 ≤ 1099511627776)) = true ↔ (n * 1 ≤ 1099511627776) := i_dec
    have k11 := H.1; have H := H.2
    have i12 : (decide (n ≤ 1099511627776)) = true ↔ (n ≤ 1099511627776) := i_dec
    have k13 := H.1; have H := H.2
    have w14 : List.replicate n.toNat (AV.bool false) = List.map AV.bool (List.replicate n.toNat false) := (lm_rep rfl)
    exact path_wp (G := given kp29 [(1, 10, .elem (AV.int IntKind.i64 (o.getD 0 default)))] []) 1000 [false] ⟨(atC (cd Try.f29) [1, 1, 1, 0, 1, 0, 0]), [(1, AV.int IntKind.i64 n), (5, AV.row 0 0), (24, AV.vec fm 1 (List.map (AV.int IntKind.i64) o)), (25, AV.int IntKind.i64 (↑(List.map (AV.int IntKind.i64) o).length : Int)), (26, AV.int IntKind.i64 0)], [{ elems := List.replicate n.toNat (AV.bool false), es := 1, ver := 0, frozen := false, clean := true }], [!(decide (n > 0) == true && (((↑(List.map (AV.int IntKind.i64) o).length : Int) != n) == false && true)) || true, !(decide (n > 0) == true && (((↑(List.map (AV.int IntKind.i64) o).length : Int) != n) == false && true)) || decide (0 < (List.map (AV.int IntKind.i64) o).length), (bif (↑(List.map (AV.int IntKind.i64) o).length : Int) != n then true else bif decide (n > 0) then o.getD 0 default != 0 else false) == false, decide (0 ≤ n), decide (n ≤ n), decide (n * 1 ≤ 1099511627776), decide (n ≤ 1099511627776)], [((decide (n > 0) == true && (((↑(List.map (AV.int IntKind.i64) o).length : Int) != n) == false && true)) = true → (List.map (AV.int IntKind.i64) o).get?Internal 0 = some (AV.int IntKind.i64 (o.getD 0 default)))], []⟩ (by kernel_rfl) (allB_cons (Bool.or_true _) (allB_cons (i2.2 k3) (allB_cons (beq_f (fun h => d6 (i5.1 h))) (allB_cons (i7.2 k8) (allB_cons (i9.2 (by omega)) (allB_cons (i10.2 k11) (allB_cons (i12.2 k13) allB_nil))))))) (allP_cons (by rw [w1] <;> exact (fun h => el_map (k3 (i4.1 h)))) allP_nil) allC_nil (by rw [w1, w14] <;> exact H)

theorem v29a (fm : Bool) (o : List Int) (n k i : Int) (sn : List Bool) (v : Nat) (dq : AV) (H :
    ((i < k) → (0 ≤ i) ∧
      (i.toNat < o.length) ∧
      ((¬((o.getD i.toNat default < 0) ∨ (o.getD i.toNat default ≥ n))) → (0 ≤ o.getD i.toNat default)) ∧
      ((¬((o.getD i.toNat default < 0) ∨ (o.getD i.toNat default ≥ n))) → ((o.getD i.toNat default).toNat < sn.length)) ∧
      ((((o.getD i.toNat default < 0) ∨ (o.getD i.toNat default ≥ n)) ∨ (sn.getD (o.getD i.toNat default).toNat default = true)) → AV.bool false = dq) ∧
      (¬(((o.getD i.toNat default < 0) ∨ (o.getD i.toNat default ≥ n)) ∨ (sn.getD (o.getD i.toNat default).toNat default = true)) → (0 ≤ o.getD i.toNat default) ∧
        ((o.getD i.toNat default).toNat < sn.length) ∧
        (-9223372036854775808 ≤ i + 1 ∧ i + 1 ≤ 9223372036854775807) ∧
        v29a_at (fm) (o) (n) (k) (i + 1) (sn.set (o.getD i.toNat default).toNat true) (v) (PureQ dq))) ∧
    (¬(i < k) → AV.bool true = dq)) :
  v29a_at fm o n k i sn v (PureQ dq) := by
  unfold v29a_at
  have i1 : (decide (i < k)) = true ↔ (i < k) := i_dec
  rcases Classical.em (i < k) with d2 | d2
  · have H := H.1 d2
    have i3 : (decide (0 ≤ i)) = true ↔ (0 ≤ i) := i_dec
    have k4 := H.1; have H := H.2
    have w5 : (List.map (AV.int IntKind.i64) o).length = o.length := List.length_map ..
    have i6 : (decide (i.toNat < (List.map (AV.int IntKind.i64) o).length)) = true ↔ (i.toNat < o.length) := (by rw [w5] <;> exact i_dec)
    have k7 := H.1; have H := H.2
    have i8 : (!((bif decide (o.getD i.toNat default < 0) then true else decide (o.getD i.toNat default ≥ n)) == false && true) || v == v) = true ↔ ((¬((o.getD i.toNat default < 0) ∨ (o.getD i.toNat default ≥ n))) → (v = v)) := (i_imp (i_at (i_bf (i_bor i_dec i_dec))) i_eq)
    have i9 : (!((bif decide (o.getD i.toNat default < 0) then true else decide (o.getD i.toNat default ≥ n)) == false && true) || decide (0 ≤ o.getD i.toNat default)) = true ↔ ((¬((o.getD i.toNat default < 0) ∨ (o.getD i.toNat default ≥ n))) → (0 ≤ o.getD i.toNat default)) := (i_imp (i_at (i_bf (i_bor i_dec i_dec))) i_dec)
    have k10 := H.1; have H := H.2
    have w11 : (List.map AV.bool sn).length = sn.length := List.length_map ..
    have i12 : (!((bif decide (o.getD i.toNat default < 0) then true else decide (o.getD i.toNat default ≥ n)) == false && true) || decide ((o.getD i.toNat default).toNat < (List.map AV.bool sn).length)) = true ↔ ((¬((o.getD i.toNat default < 0) ∨ (o.getD i.toNat default ≥ n))) → ((o.getD i.toNat default).toNat < sn.length)) := (by rw [w11] <;> exact (i_imp (i_at (i_bf (i_bor i_dec i_dec))) i_dec))
    have k13 := H.1; have H := H.2
    have i14 : (!((bif decide (o.getD i.toNat default < 0) then true else decide (o.getD i.toNat default ≥ n)) == false && true) || v == v) = true ↔ ((¬((o.getD i.toNat default < 0) ∨ (o.getD i.toNat default ≥ n))) → (v = v)) := (i_imp (i_at (i_bf (i_bor i_dec i_dec))) i_eq)
    have i15 : ((bif decide (o.getD i.toNat default < 0) then true else decide (o.getD i.toNat default ≥ n)) == false && true) = true ↔ (¬((o.getD i.toNat default < 0) ∨ (o.getD i.toNat default ≥ n))) := (i_at (i_bf (i_bor i_dec i_dec)))
    have i16 : (bif bif decide (o.getD i.toNat default < 0) then true else decide (o.getD i.toNat default ≥ n) then true else sn.getD (o.getD i.toNat default).toNat default) = true ↔ (((o.getD i.toNat default < 0) ∨ (o.getD i.toNat default ≥ n)) ∨ (sn.getD (o.getD i.toNat default).toNat default = true)) := (i_bor (i_bor i_dec i_dec) (i_var _))
    rcases Classical.em (((o.getD i.toNat default < 0) ∨ (o.getD i.toNat default ≥ n)) ∨ (sn.getD (o.getD i.toNat default).toNat default = true)) with d17 | d17
    · have H := H.1 d17
      exact path_ret (G := given kp29 [(6, 1, .elem (AV.int IntKind.i64 (o.getD i.toNat default))), (7, 11, .elem (AV.bool (sn.getD (o.getD i.toNat default).toNat default)))] []) 1000 [true, true] (k := ((atC (cd Try.f29) [1, 1, 1, 0, 1, 0, 0, 1, 1, 0, 0, 1, 0, 1, 0, 1])).tail) (env' := [(4, AV.bool false)]) (L' := [{ elems := List.map AV.bool sn, es := 1, ver := v, frozen := false, clean := true }]) (asm := [(decide (i < k)) == true, decide (0 ≤ i), decide (i.toNat < (List.map (AV.int IntKind.i64) o).length), !((bif decide (o.getD i.toNat default < 0) then true else decide (o.getD i.toNat default ≥ n)) == false && true) || v == v, !((bif decide (o.getD i.toNat default < 0) then true else decide (o.getD i.toNat default ≥ n)) == false && true) || decide (0 ≤ o.getD i.toNat default), !((bif decide (o.getD i.toNat default < 0) then true else decide (o.getD i.toNat default ≥ n)) == false && true) || decide ((o.getD i.toNat default).toNat < (List.map AV.bool sn).length), !((bif decide (o.getD i.toNat default < 0) then true else decide (o.getD i.toNat default ≥ n)) == false && true) || v == v, (bif bif decide (o.getD i.toNat default < 0) then true else decide (o.getD i.toNat default ≥ n) then true else sn.getD (o.getD i.toNat default).toNat default) == true]) (eqs := [((List.map (AV.int IntKind.i64) o).get?Internal i.toNat = some (AV.int IntKind.i64 (o.getD i.toNat default))), (((bif decide (o.getD i.toNat default < 0) then true else decide (o.getD i.toNat default ≥ n)) == false && true) = true → (List.map AV.bool sn).get?Internal (o.getD i.toNat default).toNat = some (AV.bool (sn.getD (o.getD i.toNat default).toNat default)))]) (calls := []) (AV.bool false) (by kernel_rfl) (by kernel_rfl) (allB_cons (beq_t (i1.2 d2)) (allB_cons (i3.2 k4) (allB_cons (i6.2 k7) (allB_cons (i8.2 (fun _ => rfl)) (allB_cons (i9.2 k10) (allB_cons (i12.2 k13) (allB_cons (i14.2 (fun _ => rfl)) (allB_cons (beq_t (i16.2 d17)) allB_nil)))))))) (allP_cons (el_map k7) (allP_cons (fun h => el_map (k13 (i15.1 h))) allP_nil)) allC_nil (pq_of (d := AV.bool false) (bs := []) (by kernel_rfl) (by kernel_rfl) allB_nil (by kernel_rfl) H)
    · have H := H.2 d17
      have i18 : (decide (0 ≤ o.getD i.toNat default)) = true ↔ (0 ≤ o.getD i.toNat default) := i_dec
      have k19 := H.1; have H := H.2
      have i20 : (decide ((o.getD i.toNat default).toNat < (List.map AV.bool sn).length)) = true ↔ ((o.getD i.toNat default).toNat < sn.length) := (by rw [w11] <;> exact i_dec)
      have k21 := H.1; have H := H.2
      have w22 : (List.map AV.bool sn).set (o.getD i.toNat default).toNat (AV.bool true) = List.map AV.bool (sn.set (o.getD i.toNat default).toNat true) := (lm_set rfl rfl)
      have k23 := H.1; have H := H.2
      have w24 : IntKind.i64.wrap (i + 1) = i + 1 := wI64 k23
      exact path_wp (G := given kp29 [(6, 1, .elem (AV.int IntKind.i64 (o.getD i.toNat default))), (7, 11, .elem (AV.bool (sn.getD (o.getD i.toNat default).toNat default))), (9, 3, .elem (AV.bool (sn.getD (o.getD i.toNat default).toNat default)))] []) 1000 [true, false] ⟨(atC (cd Try.f29) [1, 1, 1, 0, 1, 0, 0]), [(1, AV.int IntKind.i64 n), (5, AV.row 0 v), (24, AV.vec fm 1 (List.map (AV.int IntKind.i64) o)), (25, AV.int IntKind.i64 k), (26, AV.int IntKind.i64 (IntKind.i64.wrap (i + 1)))], [{ elems := (List.map AV.bool sn).set (o.getD i.toNat default).toNat (AV.bool true), es := 1, ver := v, frozen := false, clean := true }], [(decide (i < k)) == true, decide (0 ≤ i), decide (i.toNat < (List.map (AV.int IntKind.i64) o).length), !((bif decide (o.getD i.toNat default < 0) then true else decide (o.getD i.toNat default ≥ n)) == false && true) || v == v, !((bif decide (o.getD i.toNat default < 0) then true else decide (o.getD i.toNat default ≥ n)) == false && true) || decide (0 ≤ o.getD i.toNat default), !((bif decide (o.getD i.toNat default < 0) then true else decide (o.getD i.toNat default ≥ n)) == false && true) || decide ((o.getD i.toNat default).toNat < (List.map AV.bool sn).length), !((bif decide (o.getD i.toNat default < 0) then true else decide (o.getD i.toNat default ≥ n)) == false && true) || v == v, (bif bif decide (o.getD i.toNat default < 0) then true else decide (o.getD i.toNat default ≥ n) then true else sn.getD (o.getD i.toNat default).toNat default) == false, v == v, decide (0 ≤ o.getD i.toNat default), decide ((o.getD i.toNat default).toNat < (List.map AV.bool sn).length), v == v], [((List.map (AV.int IntKind.i64) o).get?Internal i.toNat = some (AV.int IntKind.i64 (o.getD i.toNat default))), (((bif decide (o.getD i.toNat default < 0) then true else decide (o.getD i.toNat default ≥ n)) == false && true) = true → (List.map AV.bool sn).get?Internal (o.getD i.toNat default).toNat = some (AV.bool (sn.getD (o.getD i.toNat default).toNat default))), ((List.map AV.bool sn).get?Internal (o.getD i.toNat default).toNat = some (AV.bool (sn.getD (o.getD i.toNat default).toNat default)))], []⟩ (by kernel_rfl) (allB_cons (beq_t (i1.2 d2)) (allB_cons (i3.2 k4) (allB_cons (i6.2 k7) (allB_cons (i8.2 (fun _ => rfl)) (allB_cons (i9.2 k10) (allB_cons (i12.2 k13) (allB_cons (i14.2 (fun _ => rfl)) (allB_cons (beq_f (fun h => d17 (i16.1 h))) (allB_cons (beq_self_eq_true _) (allB_cons (i18.2 k19) (allB_cons (i20.2 k21) (allB_cons (beq_self_eq_true _) allB_nil)))))))))))) (allP_cons (el_map k7) (allP_cons (fun h => el_map (k13 (i15.1 h))) (allP_cons (el_map k21) allP_nil))) allC_nil (by rw [w22, w24] <;> exact H)
  · have H := H.2 d2
    exact path_ret (G := given kp29 [] []) 1000 [false] (k := ((atC (cd Try.f29) [1, 1, 1, 1, 1])).tail) (env' := [(4, AV.bool true)]) (L' := [{ elems := List.map AV.bool sn, es := 1, ver := v, frozen := false, clean := true }]) (asm := [(decide (i < k)) == false]) (eqs := []) (calls := []) (AV.bool true) (by kernel_rfl) (by kernel_rfl) (allB_cons (beq_f (fun h => d2 (i1.1 h))) allB_nil) allP_nil allC_nil (pq_of (d := AV.bool true) (bs := []) (by kernel_rfl) (by kernel_rfl) allB_nil (by kernel_rfl) H)

theorem v32 (fm : Bool) (o : List Int) (n : Int) (dq : AV) (H :
    (((n > 0) ∧ (¬(¬(↑o.length : Int) = n))) → (0 < o.length)) ∧
    (((¬(↑o.length : Int) = n) ∨ ((n > 0) ∧ (¬o.getD 0 default = 0))) → AV.bool false = dq) ∧
    (¬((¬(↑o.length : Int) = n) ∨ ((n > 0) ∧ (¬o.getD 0 default = 0))) → (0 ≤ n) ∧
      (n * 1 ≤ 1099511627776) ∧
      (n ≤ 1099511627776) ∧
      v32a_at (fm) (o) (n) (0) (List.replicate n.toNat false) (0) (PureQ dq))) :
  v32_at fm o n (PureQ dq) := by
  unfold v32_at
  have w1 : (List.map (AV.int IntKind.i64) o).length = o.length := List.length_map ..
  have i2 : (!(decide (n > 0) == true && (((↑(List.map (AV.int IntKind.i64) o).length : Int) != n) == false && true)) || decide (0 < (List.map (AV.int IntKind.i64) o).length)) = true ↔ (((n > 0) ∧ (¬(¬(↑o.length : Int) = n))) → (0 < o.length)) := (by rw [w1] <;> exact (i_imp (i_and (i_bt i_dec) (i_at (i_bf i_ne))) i_dec))
  have k3 := H.1; have H := H.2
  have i4 : (decide (n > 0) == true && (((↑o.length : Int) != n) == false && true)) = true ↔ ((n > 0) ∧ (¬(¬(↑o.length : Int) = n))) := (i_and (i_bt i_dec) (i_at (i_bf i_ne)))
  have i5 : (bif (↑(List.map (AV.int IntKind.i64) o).length : Int) != n then true else bif decide (n > 0) then o.getD 0 default != 0 else false) = true ↔ ((¬(↑o.length : Int) = n) ∨ ((n > 0) ∧ (¬o.getD 0 default = 0))) := (by rw [w1] <;> exact (i_bor i_ne (i_band i_dec i_ne)))
  rcases Classical.em ((¬(↑o.length : Int) = n) ∨ ((n > 0) ∧ (¬o.getD 0 default = 0))) with d6 | d6
  · have H := H.1 d6
    exact path_ret (G := given kp32 [(1, 10, .elem (AV.int IntKind.i64 (o.getD 0 default)))] []) 1000 [true] (k := ((atC (cd Try.f32) [1, 0, 1, 0, 1])).tail) (env' := [(4, AV.bool false)]) (L' := []) (asm := [!(decide (n > 0) == true && (((↑(List.map (AV.int IntKind.i64) o).length : Int) != n) == false && true)) || true, !(decide (n > 0) == true && (((↑(List.map (AV.int IntKind.i64) o).length : Int) != n) == false && true)) || decide (0 < (List.map (AV.int IntKind.i64) o).length), (bif (↑(List.map (AV.int IntKind.i64) o).length : Int) != n then true else bif decide (n > 0) then o.getD 0 default != 0 else false) == true]) (eqs := [((decide (n > 0) == true && (((↑(List.map (AV.int IntKind.i64) o).length : Int) != n) == false && true)) = true → (List.map (AV.int IntKind.i64) o).get?Internal 0 = some (AV.int IntKind.i64 (o.getD 0 default)))]) (calls := []) (AV.bool false) (by kernel_rfl) (by kernel_rfl) (allB_cons (Bool.or_true _) (allB_cons (i2.2 k3) (allB_cons (beq_t (i5.2 d6)) allB_nil))) (allP_cons (by rw [w1] <;> exact (fun h => el_map (k3 (i4.1 h)))) allP_nil) allC_nil (pq_of (d := AV.bool false) (bs := []) (by kernel_rfl) (by kernel_rfl) allB_nil (by kernel_rfl) H)
  · have H := H.2 d6
    have i7 : (decide (0 ≤ n)) = true ↔ (0 ≤ n) := i_dec
    have k8 := H.1; have H := H.2
    have i9 : (decide (n ≤ n)) = true ↔ (n ≤ n) := i_dec
    have i10 : (decide (n * 1 ≤ 1099511627776)) = true ↔ (n * 1 ≤ 1099511627776) := i_dec
    have k11 := H.1; have H := H.2
    have i12 : (decide (n ≤ 1099511627776)) = true ↔ (n ≤ 1099511627776) := i_dec
    have k13 := H.1; have H := H.2
    have w14 : List.replicate n.toNat (AV.bool false) = List.map AV.bool (List.replicate n.toNat false) := (lm_rep rfl)
    exact path_wp (G := given kp32 [(1, 10, .elem (AV.int IntKind.i64 (o.getD 0 default)))] []) 1000 [false] ⟨(atC (cd Try.f32) [1, 1, 1, 0, 1, 0, 0]), [(0, AV.int IntKind.i64 n), (1, AV.vec fm 1 (List.map (AV.int IntKind.i64) o)), (5, AV.row 0 0), (6, AV.int IntKind.i64 0)], [{ elems := List.replicate n.toNat (AV.bool false), es := 1, ver := 0, frozen := false, clean := true }], [!(decide (n > 0) == true && (((↑(List.map (AV.int IntKind.i64) o).length : Int) != n) == false && true)) || true, !(decide (n > 0) == true && (((↑(List.map (AV.int IntKind.i64) o).length : Int) != n) == false && true)) || decide (0 < (List.map (AV.int IntKind.i64) o).length), (bif (↑(List.map (AV.int IntKind.i64) o).length : Int) != n then true else bif decide (n > 0) then o.getD 0 default != 0 else false) == false, decide (0 ≤ n), decide (n ≤ n), decide (n * 1 ≤ 1099511627776), decide (n ≤ 1099511627776)], [((decide (n > 0) == true && (((↑(List.map (AV.int IntKind.i64) o).length : Int) != n) == false && true)) = true → (List.map (AV.int IntKind.i64) o).get?Internal 0 = some (AV.int IntKind.i64 (o.getD 0 default)))], []⟩ (by kernel_rfl) (allB_cons (Bool.or_true _) (allB_cons (i2.2 k3) (allB_cons (beq_f (fun h => d6 (i5.1 h))) (allB_cons (i7.2 k8) (allB_cons (i9.2 (by omega)) (allB_cons (i10.2 k11) (allB_cons (i12.2 k13) allB_nil))))))) (allP_cons (by rw [w1] <;> exact (fun h => el_map (k3 (i4.1 h)))) allP_nil) allC_nil (by rw [w14] <;> exact H)

theorem v32a (fm : Bool) (o : List Int) (n i : Int) (sn : List Bool) (v : Nat) (dq : AV) (H :
    ((i < n) → (0 ≤ i) ∧
      (i.toNat < o.length) ∧
      ((¬((o.getD i.toNat default < 0) ∨ (o.getD i.toNat default ≥ n))) → (0 ≤ o.getD i.toNat default)) ∧
      ((¬((o.getD i.toNat default < 0) ∨ (o.getD i.toNat default ≥ n))) → ((o.getD i.toNat default).toNat < sn.length)) ∧
      ((((o.getD i.toNat default < 0) ∨ (o.getD i.toNat default ≥ n)) ∨ (sn.getD (o.getD i.toNat default).toNat default = true)) → AV.bool false = dq) ∧
      (¬(((o.getD i.toNat default < 0) ∨ (o.getD i.toNat default ≥ n)) ∨ (sn.getD (o.getD i.toNat default).toNat default = true)) → (0 ≤ o.getD i.toNat default) ∧
        ((o.getD i.toNat default).toNat < sn.length) ∧
        (-9223372036854775808 ≤ i + 1 ∧ i + 1 ≤ 9223372036854775807) ∧
        v32a_at (fm) (o) (n) (i + 1) (sn.set (o.getD i.toNat default).toNat true) (v) (PureQ dq))) ∧
    (¬(i < n) → AV.bool true = dq)) :
  v32a_at fm o n i sn v (PureQ dq) := by
  unfold v32a_at
  have i1 : (decide (i < n)) = true ↔ (i < n) := i_dec
  rcases Classical.em (i < n) with d2 | d2
  · have H := H.1 d2
    have i3 : (decide (0 ≤ i)) = true ↔ (0 ≤ i) := i_dec
    have k4 := H.1; have H := H.2
    have w5 : (List.map (AV.int IntKind.i64) o).length = o.length := List.length_map ..
    have i6 : (decide (i.toNat < (List.map (AV.int IntKind.i64) o).length)) = true ↔ (i.toNat < o.length) := (by rw [w5] <;> exact i_dec)
    have k7 := H.1; have H := H.2
    have i8 : (!(decide (o.getD i.toNat default < 0) == false && true) || decide (0 ≤ i)) = true ↔ ((¬(o.getD i.toNat default < 0)) → (0 ≤ i)) := (i_imp (i_at (i_bf i_dec)) i_dec)
    have i9 : (!(decide (o.getD i.toNat default < 0) == false && true) || decide (i.toNat < (List.map (AV.int IntKind.i64) o).length)) = true ↔ ((¬(o.getD i.toNat default < 0)) → (i.toNat < o.length)) := (by rw [w5] <;> exact (i_imp (i_at (i_bf i_dec)) i_dec))
    have i10 : (!((bif decide (o.getD i.toNat default < 0) then true else decide (o.getD i.toNat default ≥ n)) == false && true) || decide (0 ≤ i)) = true ↔ ((¬((o.getD i.toNat default < 0) ∨ (o.getD i.toNat default ≥ n))) → (0 ≤ i)) := (i_imp (i_at (i_bf (i_bor i_dec i_dec))) i_dec)
    have i11 : (!((bif decide (o.getD i.toNat default < 0) then true else decide (o.getD i.toNat default ≥ n)) == false && true) || decide (i.toNat < (List.map (AV.int IntKind.i64) o).length)) = true ↔ ((¬((o.getD i.toNat default < 0) ∨ (o.getD i.toNat default ≥ n))) → (i.toNat < o.length)) := (by rw [w5] <;> exact (i_imp (i_at (i_bf (i_bor i_dec i_dec))) i_dec))
    have i12 : (!((bif decide (o.getD i.toNat default < 0) then true else decide (o.getD i.toNat default ≥ n)) == false && true) || v == v) = true ↔ ((¬((o.getD i.toNat default < 0) ∨ (o.getD i.toNat default ≥ n))) → (v = v)) := (i_imp (i_at (i_bf (i_bor i_dec i_dec))) i_eq)
    have i13 : (!((bif decide (o.getD i.toNat default < 0) then true else decide (o.getD i.toNat default ≥ n)) == false && true) || decide (0 ≤ o.getD i.toNat default)) = true ↔ ((¬((o.getD i.toNat default < 0) ∨ (o.getD i.toNat default ≥ n))) → (0 ≤ o.getD i.toNat default)) := (i_imp (i_at (i_bf (i_bor i_dec i_dec))) i_dec)
    have k14 := H.1; have H := H.2
    have w15 : (List.map AV.bool sn).length = sn.length := List.length_map ..
    have i16 : (!((bif decide (o.getD i.toNat default < 0) then true else decide (o.getD i.toNat default ≥ n)) == false && true) || decide ((o.getD i.toNat default).toNat < (List.map AV.bool sn).length)) = true ↔ ((¬((o.getD i.toNat default < 0) ∨ (o.getD i.toNat default ≥ n))) → ((o.getD i.toNat default).toNat < sn.length)) := (by rw [w15] <;> exact (i_imp (i_at (i_bf (i_bor i_dec i_dec))) i_dec))
    have k17 := H.1; have H := H.2
    have i18 : (!((bif decide (o.getD i.toNat default < 0) then true else decide (o.getD i.toNat default ≥ n)) == false && true) || v == v) = true ↔ ((¬((o.getD i.toNat default < 0) ∨ (o.getD i.toNat default ≥ n))) → (v = v)) := (i_imp (i_at (i_bf (i_bor i_dec i_dec))) i_eq)
    have i19 : (decide (o.getD i.toNat default < 0) == false && true) = true ↔ (¬(o.getD i.toNat default < 0)) := (i_at (i_bf i_dec))
    have i20 : ((bif decide (o.getD i.toNat default < 0) then true else decide (o.getD i.toNat default ≥ n)) == false && true) = true ↔ (¬((o.getD i.toNat default < 0) ∨ (o.getD i.toNat default ≥ n))) := (i_at (i_bf (i_bor i_dec i_dec)))
    have i21 : ((bif decide (o.getD i.toNat default < 0) then true else decide (o.getD i.toNat default ≥ n)) == false && true) = true ↔ (¬((o.getD i.toNat default < 0) ∨ (o.getD i.toNat default ≥ n))) := (i_at (i_bf (i_bor i_dec i_dec)))
    have i22 : (bif bif decide (o.getD i.toNat default < 0) then true else decide (o.getD i.toNat default ≥ n) then true else sn.getD (o.getD i.toNat default).toNat default) = true ↔ (((o.getD i.toNat default < 0) ∨ (o.getD i.toNat default ≥ n)) ∨ (sn.getD (o.getD i.toNat default).toNat default = true)) := (i_bor (i_bor i_dec i_dec) (i_var _))
    rcases Classical.em (((o.getD i.toNat default < 0) ∨ (o.getD i.toNat default ≥ n)) ∨ (sn.getD (o.getD i.toNat default).toNat default = true)) with d23 | d23
    · have H := H.1 d23
      exact path_ret (G := given kp32 [(7, 3, .elem (AV.int IntKind.i64 (o.getD i.toNat default))), (7, 9, .elem (AV.int IntKind.i64 (o.getD i.toNat default))), (7, 18, .elem (AV.int IntKind.i64 (o.getD i.toNat default))), (7, 20, .elem (AV.bool (sn.getD (o.getD i.toNat default).toNat default)))] []) 1000 [true, true] (k := ((atC (cd Try.f32) [1, 1, 1, 0, 1, 0, 0, 1, 0, 0, 0, 1, 0, 1])).tail) (env' := [(4, AV.bool false)]) (L' := [{ elems := List.map AV.bool sn, es := 1, ver := v, frozen := false, clean := true }]) (asm := [(decide (i < n)) == true, decide (0 ≤ i), decide (i.toNat < (List.map (AV.int IntKind.i64) o).length), !(decide (o.getD i.toNat default < 0) == false && true) || decide (0 ≤ i), !(decide (o.getD i.toNat default < 0) == false && true) || decide (i.toNat < (List.map (AV.int IntKind.i64) o).length), !((bif decide (o.getD i.toNat default < 0) then true else decide (o.getD i.toNat default ≥ n)) == false && true) || decide (0 ≤ i), !((bif decide (o.getD i.toNat default < 0) then true else decide (o.getD i.toNat default ≥ n)) == false && true) || decide (i.toNat < (List.map (AV.int IntKind.i64) o).length), !((bif decide (o.getD i.toNat default < 0) then true else decide (o.getD i.toNat default ≥ n)) == false && true) || v == v, !((bif decide (o.getD i.toNat default < 0) then true else decide (o.getD i.toNat default ≥ n)) == false && true) || decide (0 ≤ o.getD i.toNat default), !((bif decide (o.getD i.toNat default < 0) then true else decide (o.getD i.toNat default ≥ n)) == false && true) || decide ((o.getD i.toNat default).toNat < (List.map AV.bool sn).length), !((bif decide (o.getD i.toNat default < 0) then true else decide (o.getD i.toNat default ≥ n)) == false && true) || v == v, (bif bif decide (o.getD i.toNat default < 0) then true else decide (o.getD i.toNat default ≥ n) then true else sn.getD (o.getD i.toNat default).toNat default) == true]) (eqs := [((List.map (AV.int IntKind.i64) o).get?Internal i.toNat = some (AV.int IntKind.i64 (o.getD i.toNat default))), ((decide (o.getD i.toNat default < 0) == false && true) = true → (List.map (AV.int IntKind.i64) o).get?Internal i.toNat = some (AV.int IntKind.i64 (o.getD i.toNat default))), (((bif decide (o.getD i.toNat default < 0) then true else decide (o.getD i.toNat default ≥ n)) == false && true) = true → (List.map (AV.int IntKind.i64) o).get?Internal i.toNat = some (AV.int IntKind.i64 (o.getD i.toNat default))), (((bif decide (o.getD i.toNat default < 0) then true else decide (o.getD i.toNat default ≥ n)) == false && true) = true → (List.map AV.bool sn).get?Internal (o.getD i.toNat default).toNat = some (AV.bool (sn.getD (o.getD i.toNat default).toNat default)))]) (calls := []) (AV.bool false) (by kernel_rfl) (by kernel_rfl) (allB_cons (beq_t (i1.2 d2)) (allB_cons (i3.2 k4) (allB_cons (i6.2 k7) (allB_cons (i8.2 (fun _ => k4)) (allB_cons (i9.2 (fun _ => k7)) (allB_cons (i10.2 (fun _ => k4)) (allB_cons (i11.2 (fun _ => k7)) (allB_cons (i12.2 (fun _ => rfl)) (allB_cons (i13.2 k14) (allB_cons (i16.2 k17) (allB_cons (i18.2 (fun _ => rfl)) (allB_cons (beq_t (i22.2 d23)) allB_nil)))))))))))) (allP_cons (el_map k7) (allP_cons (fun h => el_map k7) (allP_cons (fun h => el_map k7) (allP_cons (fun h => el_map (k17 (i21.1 h))) allP_nil)))) allC_nil (pq_of (d := AV.bool false) (bs := []) (by kernel_rfl) (by kernel_rfl) allB_nil (by kernel_rfl) H)
    · have H := H.2 d23
      have i24 : (decide (0 ≤ i)) = true ↔ (0 ≤ i) := i_dec
      have i25 : (decide (i.toNat < (List.map (AV.int IntKind.i64) o).length)) = true ↔ (i.toNat < o.length) := (by rw [w5] <;> exact i_dec)
      have i26 : (decide (0 ≤ o.getD i.toNat default)) = true ↔ (0 ≤ o.getD i.toNat default) := i_dec
      have k27 := H.1; have H := H.2
      have i28 : (decide ((o.getD i.toNat default).toNat < (List.map AV.bool sn).length)) = true ↔ ((o.getD i.toNat default).toNat < sn.length) := (by rw [w15] <;> exact i_dec)
      have k29 := H.1; have H := H.2
      have w30 : (List.map AV.bool sn).set (o.getD i.toNat default).toNat (AV.bool true) = List.map AV.bool (sn.set (o.getD i.toNat default).toNat true) := (lm_set rfl rfl)
      have k31 := H.1; have H := H.2
      have w32 : IntKind.i64.wrap (i + 1) = i + 1 := wI64 k31
      exact path_wp (G := given kp32 [(7, 3, .elem (AV.int IntKind.i64 (o.getD i.toNat default))), (7, 9, .elem (AV.int IntKind.i64 (o.getD i.toNat default))), (7, 18, .elem (AV.int IntKind.i64 (o.getD i.toNat default))), (7, 20, .elem (AV.bool (sn.getD (o.getD i.toNat default).toNat default))), (9, 4, .elem (AV.int IntKind.i64 (o.getD i.toNat default))), (9, 6, .elem (AV.bool (sn.getD (o.getD i.toNat default).toNat default)))] []) 1000 [true, false] ⟨(atC (cd Try.f32) [1, 1, 1, 0, 1, 0, 0]), [(0, AV.int IntKind.i64 n), (1, AV.vec fm 1 (List.map (AV.int IntKind.i64) o)), (5, AV.row 0 v), (6, AV.int IntKind.i64 (IntKind.i64.wrap (i + 1)))], [{ elems := (List.map AV.bool sn).set (o.getD i.toNat default).toNat (AV.bool true), es := 1, ver := v, frozen := false, clean := true }], [(decide (i < n)) == true, decide (0 ≤ i), decide (i.toNat < (List.map (AV.int IntKind.i64) o).length), !(decide (o.getD i.toNat default < 0) == false && true) || decide (0 ≤ i), !(decide (o.getD i.toNat default < 0) == false && true) || decide (i.toNat < (List.map (AV.int IntKind.i64) o).length), !((bif decide (o.getD i.toNat default < 0) then true else decide (o.getD i.toNat default ≥ n)) == false && true) || decide (0 ≤ i), !((bif decide (o.getD i.toNat default < 0) then true else decide (o.getD i.toNat default ≥ n)) == false && true) || decide (i.toNat < (List.map (AV.int IntKind.i64) o).length), !((bif decide (o.getD i.toNat default < 0) then true else decide (o.getD i.toNat default ≥ n)) == false && true) || v == v, !((bif decide (o.getD i.toNat default < 0) then true else decide (o.getD i.toNat default ≥ n)) == false && true) || decide (0 ≤ o.getD i.toNat default), !((bif decide (o.getD i.toNat default < 0) then true else decide (o.getD i.toNat default ≥ n)) == false && true) || decide ((o.getD i.toNat default).toNat < (List.map AV.bool sn).length), !((bif decide (o.getD i.toNat default < 0) then true else decide (o.getD i.toNat default ≥ n)) == false && true) || v == v, (bif bif decide (o.getD i.toNat default < 0) then true else decide (o.getD i.toNat default ≥ n) then true else sn.getD (o.getD i.toNat default).toNat default) == false, decide (0 ≤ i), decide (i.toNat < (List.map (AV.int IntKind.i64) o).length), v == v, decide (0 ≤ o.getD i.toNat default), decide ((o.getD i.toNat default).toNat < (List.map AV.bool sn).length), v == v], [((List.map (AV.int IntKind.i64) o).get?Internal i.toNat = some (AV.int IntKind.i64 (o.getD i.toNat default))), ((decide (o.getD i.toNat default < 0) == false && true) = true → (List.map (AV.int IntKind.i64) o).get?Internal i.toNat = some (AV.int IntKind.i64 (o.getD i.toNat default))), (((bif decide (o.getD i.toNat default < 0) then true else decide (o.getD i.toNat default ≥ n)) == false && true) = true → (List.map (AV.int IntKind.i64) o).get?Internal i.toNat = some (AV.int IntKind.i64 (o.getD i.toNat default))), (((bif decide (o.getD i.toNat default < 0) then true else decide (o.getD i.toNat default ≥ n)) == false && true) = true → (List.map AV.bool sn).get?Internal (o.getD i.toNat default).toNat = some (AV.bool (sn.getD (o.getD i.toNat default).toNat default))), ((List.map (AV.int IntKind.i64) o).get?Internal i.toNat = some (AV.int IntKind.i64 (o.getD i.toNat default))), ((List.map AV.bool sn).get?Internal (o.getD i.toNat default).toNat = some (AV.bool (sn.getD (o.getD i.toNat default).toNat default)))], []⟩ (by kernel_rfl) (allB_cons (beq_t (i1.2 d2)) (allB_cons (i3.2 k4) (allB_cons (i6.2 k7) (allB_cons (i8.2 (fun _ => k4)) (allB_cons (i9.2 (fun _ => k7)) (allB_cons (i10.2 (fun _ => k4)) (allB_cons (i11.2 (fun _ => k7)) (allB_cons (i12.2 (fun _ => rfl)) (allB_cons (i13.2 k14) (allB_cons (i16.2 k17) (allB_cons (i18.2 (fun _ => rfl)) (allB_cons (beq_f (fun h => d23 (i22.1 h))) (allB_cons (i24.2 k4) (allB_cons (i25.2 k7) (allB_cons (beq_self_eq_true _) (allB_cons (i26.2 k27) (allB_cons (i28.2 k29) (allB_cons (beq_self_eq_true _) allB_nil)))))))))))))))))) (allP_cons (el_map k7) (allP_cons (fun h => el_map k7) (allP_cons (fun h => el_map k7) (allP_cons (fun h => el_map (k17 (i21.1 h))) (allP_cons (el_map k7) (allP_cons (el_map k29) allP_nil)))))) allC_nil (by rw [w30, w32] <;> exact H)
  · have H := H.2 d2
    exact path_ret (G := given kp32 [] []) 1000 [false] (k := ((atC (cd Try.f32) [1, 1, 1, 1, 1])).tail) (env' := [(4, AV.bool true)]) (L' := [{ elems := List.map AV.bool sn, es := 1, ver := v, frozen := false, clean := true }]) (asm := [(decide (i < n)) == false]) (eqs := []) (calls := []) (AV.bool true) (by kernel_rfl) (by kernel_rfl) (allB_cons (beq_f (fun h => d2 (i1.1 h))) allB_nil) allP_nil allC_nil (pq_of (d := AV.bool true) (bs := []) (by kernel_rfl) (by kernel_rfl) allB_nil (by kernel_rfl) H)


end Go.Av

/- WHAT Distance, check AND isOrder ANSWER, of the program and of the reference. -/
namespace Go.Av
open Go.Proofs

namespace Sp
def badG (g : G2) : Bool := decide (g.x > 10000000) || decide (g.x < -10000000) || decide (g.y > 10000000) || decide (g.y < -10000000)
/-- A limit that is small enough. -/
def mOk (m : Int) : Prop := m ≤ 1000000
/-- The error of positions. -/
def checkE (gs : List G2) (m : Int) : Int := if (gs.length : Int) > m then 3 else if gs.any badG = true then 11 else 0
/-- Further numbers of positions, some of which have been seen. -/
def ordFrom (n : Int) : List Int → List Bool → Bool
  | [], _ => true
  | x :: o, sn => if (x < 0 ∨ x ≥ n) ∨ sn.getD x.toNat default = true then false else ordFrom n o (sn.set x.toNat true)
/-- Whether a list is an order of n positions. -/
def isOrd (o : List Int) (n : Int) : Bool :=
  if (¬(o.length : Int) = n) ∨ (n > 0 ∧ ¬o.getD 0 default = 0) then false else ordFrom n o (List.replicate n.toNat false)
end Sp

theorem ev15 (ax ay bx by_ : Int) (h : Sp.inM ax ∧ Sp.inM ay ∧ Sp.inM bx ∧ Sp.inM by_) : Ev M1 (.pure 15 [.agg [.int .i64 ax, .int .i64 ay], .agg [.int .i64 bx, .int .i64 by_]]) (.int .i64 (Sp.dist ax ay bx by_)) [] := by
  simp only [Sp.inM] at h
  refine call15 (v15 ax ay bx by_ _ ⟨by omega, by omega, by omega, by omega, ?_⟩)
  congr 1
  unfold Sp.dist Sp.gap
  (repeat' split) <;> omega

theorem ev34 (a b : Int) (h : Sp.inM a ∧ Sp.inM b) : Ev M1 (.pure 34 [.int .i64 a, .int .i64 b]) (.int .i64 (Sp.gap a b)) [] := by
  simp only [Sp.inM] at h
  refine call34 (v34 a b _ ⟨fun k => ⟨by omega, ?_⟩, fun k => ⟨by omega, ?_⟩⟩)
  · rw [Sp.gap, if_pos k]
  · rw [Sp.gap, if_neg k]

theorem loop28 {fl : Bool} {gs : List G2} {dq : AV} (hl : gs.length ≤ 1000000) : ∀ (k i : Nat), i + k = gs.length → AV.int .i64 (if (gs.drop i).any Sp.badG = true then 11 else 0) = dq → v28a_at fl gs gs.length i (PureQ dq) := by
  intro k
  induction k with
  | zero =>
    intro i hi hq
    rw [List.drop_eq_nil_of_le (by omega)] at hq
    exact v28a _ _ _ _ _ ⟨fun h => by omega, fun _ => hq⟩
  | succ k ih =>
    intro i hi hq
    rw [drop_getD (show i < gs.length by omega), List.any_cons] at hq
    refine v28a _ _ _ _ _ ⟨fun _ => ⟨by omega, by omega, ?_⟩, fun h => by omega⟩
    rw [Int.toNat_natCast]
    generalize gs.getD i default = g at hq
    have e : Sp.badG g = true ↔ (if g.y > g.x then g.y else g.x) > 10000000 ∨ (if g.y < g.x then g.y else g.x) < -10000000 := by
      simp only [Sp.badG, Bool.or_eq_true, decide_eq_true_eq]
      (repeat' split) <;> omega
    rw [← e]
    refine ⟨fun h => ?_, fun h => ⟨by omega, ih (i + 1) (by omega) ?_⟩⟩
    · rw [h, Bool.true_or, if_pos rfl] at hq; exact hq
    · rw [Bool.eq_false_iff.2 h, Bool.false_or] at hq; exact hq

theorem ev28 (fl : Bool) (gs : List G2) (m : Int) (hm : Sp.mOk m) : Ev M1 (.pure 28 [gsA fl gs, .int .i64 m]) (.int .i64 (Sp.checkE gs m)) [] := by
  refine call28 (v28 fl gs m _ ⟨fun h => ?_, fun h => loop28 (by unfold Sp.mOk at hm; omega) _ 0 (Nat.zero_add _) ?_⟩)
  · rw [Sp.checkE, if_pos h]
  · rw [Sp.checkE, if_neg h]; rfl

theorem loop31 {fl : Bool} {gs : List G2} {dq : AV} (hl : gs.length ≤ 1000000) : ∀ (k i : Nat), i + k = gs.length → AV.int .i64 (if (gs.drop i).any Sp.badG = true then 11 else 0) = dq → v31a_at fl gs i (PureQ dq) := by
  intro k
  induction k with
  | zero =>
    intro i hi hq
    rw [List.drop_eq_nil_of_le (by omega)] at hq
    exact v31a _ _ _ _ ⟨fun h => by omega, fun _ => hq⟩
  | succ k ih =>
    intro i hi hq
    rw [drop_getD (show i < gs.length by omega), List.any_cons] at hq
    refine v31a _ _ _ _ ⟨fun _ => ⟨by omega, by omega, ?_⟩, fun h => by omega⟩
    rw [Int.toNat_natCast]
    generalize gs.getD i default = g at hq
    have e : Sp.badG g = true ↔ ((g.x > 10000000 ∨ g.x < -10000000) ∨ g.y > 10000000) ∨ g.y < -10000000 := by
      simp only [Sp.badG, Bool.or_eq_true, decide_eq_true_eq]
    rw [← e]
    refine ⟨fun h => ?_, fun h => ⟨by omega, ih (i + 1) (by omega) ?_⟩⟩
    · rw [h, Bool.true_or, if_pos rfl] at hq; exact hq
    · rw [Bool.eq_false_iff.2 h, Bool.false_or] at hq; exact hq

theorem ev31 (fl : Bool) (gs : List G2) (m : Int) (hm : Sp.mOk m) : Ev M1 (.pure 31 [gsA fl gs, .int .i64 m]) (.int .i64 (Sp.checkE gs m)) [] := by
  refine call31 (v31 fl gs m _ ⟨fun h => ?_, fun h => loop31 (by unfold Sp.mOk at hm; omega) _ 0 (Nat.zero_add _) ?_⟩)
  · rw [Sp.checkE, if_pos h]
  · rw [Sp.checkE, if_neg h]; rfl

theorem loop29 {fm : Bool} {o : List Int} {n : Int} {dq : AV} (hn : n ≤ 1000000) (hl : o.length ≤ 1000000) : ∀ (k i : Nat) (sn : List Bool) (v : Nat), i + k = o.length → n ≤ sn.length → AV.bool (Sp.ordFrom n (o.drop i) sn) = dq → v29a_at fm o n o.length i sn v (PureQ dq) := by
  intro k
  induction k with
  | zero =>
    intro i sn v hi hs hq
    rw [List.drop_eq_nil_of_le (by omega), Sp.ordFrom] at hq
    exact v29a _ _ _ _ _ _ _ _ ⟨fun h => by omega, fun _ => hq⟩
  | succ k ih =>
    intro i sn v hi hs hq
    rw [drop_getD (show i < o.length by omega), Sp.ordFrom] at hq
    refine v29a _ _ _ _ _ _ _ _ ⟨fun _ => ⟨by omega, by omega, ?_⟩, fun h => by omega⟩
    rw [Int.toNat_natCast]
    generalize o.getD i default = x at hq
    refine ⟨fun h => by omega, fun h => by omega, fun h => ?_, fun h => ⟨by omega, by omega, by omega, ih (i + 1) _ _ (by omega) (by simpa using hs) ?_⟩⟩
    · rw [if_pos h] at hq; exact hq
    · rw [if_neg h] at hq; exact hq

theorem ev29 (fm : Bool) (o : List Int) (n : Int) (hn : 0 ≤ n ∧ n ≤ 1000000) : Ev M1 (.pure 29 [isA fm o, .int .i64 n]) (.bool (Sp.isOrd o n)) [] := by
  refine call29 (v29 fm o n _ ⟨fun h => by omega, fun h => ?_, fun h => ⟨by omega, by omega, by omega, ?_⟩⟩)
  · rw [Sp.isOrd, if_pos h]
  · refine loop29 hn.2 (by omega) _ 0 _ _ (Nat.zero_add _) (by simp; omega) ?_
    rw [Sp.isOrd, if_neg h]; rfl

theorem loop32 {fm : Bool} {o : List Int} {n : Int} {dq : AV} (hn : n ≤ 1000000) (hl : (o.length : Int) = n) : ∀ (k i : Nat) (sn : List Bool) (v : Nat), i + k = o.length → n ≤ sn.length → AV.bool (Sp.ordFrom n (o.drop i) sn) = dq → v32a_at fm o n i sn v (PureQ dq) := by
  intro k
  induction k with
  | zero =>
    intro i sn v hi hs hq
    rw [List.drop_eq_nil_of_le (by omega), Sp.ordFrom] at hq
    exact v32a _ _ _ _ _ _ _ ⟨fun h => by omega, fun _ => hq⟩
  | succ k ih =>
    intro i sn v hi hs hq
    rw [drop_getD (show i < o.length by omega), Sp.ordFrom] at hq
    refine v32a _ _ _ _ _ _ _ ⟨fun _ => ⟨by omega, by omega, ?_⟩, fun h => by omega⟩
    rw [Int.toNat_natCast]
    generalize o.getD i default = x at hq
    refine ⟨fun h => by omega, fun h => by omega, fun h => ?_, fun h => ⟨by omega, by omega, by omega, ih (i + 1) _ _ (by omega) (by simpa using hs) ?_⟩⟩
    · rw [if_pos h] at hq; exact hq
    · rw [if_neg h] at hq; exact hq

theorem ev32 (fm : Bool) (o : List Int) (n : Int) (hn : 0 ≤ n ∧ n ≤ 1000000) : Ev M1 (.pure 32 [.int .i64 n, isA fm o]) (.bool (Sp.isOrd o n)) [] := by
  refine call32 (v32 fm o n _ ⟨fun h => by omega, fun h => ?_, fun h => ⟨by omega, by omega, by omega, ?_⟩⟩)
  · rw [Sp.isOrd, if_pos h]
  · refine loop32 hn.2 (by omega) _ 0 _ _ (Nat.zero_add _) (by simp; omega) ?_
    rw [Sp.isOrd, if_neg h]; rfl

/-! Orders as plain lists. -/
theorem ordFrom_mem {n : Int} : ∀ (o : List Int) (sn : List Bool), n ≤ sn.length → Sp.ordFrom n o sn = true → (∀ x ∈ o, 0 ≤ x ∧ x < n ∧ sn.getD x.toNat default = false) ∧ o.Nodup
  | [], _, _, _ => by simp
  | x :: o, sn, hs, h => by
    rw [Sp.ordFrom] at h
    split at h
    · simp at h
    · rename_i hx
      obtain ⟨h1, h2⟩ := ordFrom_mem o _ (by simpa using hs) h
      have hx0 : 0 ≤ x ∧ x < n := by omega
      refine ⟨fun y hy => ?_, List.nodup_cons.2 ⟨fun hm => ?_, h2⟩⟩
      · rcases List.mem_cons.1 hy with rfl | hy
        · refine ⟨hx0.1, hx0.2, ?_⟩
          cases hb : sn.getD y.toNat default with
          | false => rfl
          | true => exact absurd (.inr hb) hx
        · obtain ⟨k1, k2, k3⟩ := h1 y hy
          refine ⟨k1, k2, ?_⟩
          rw [List.getD_eq_getElem?_getD, List.getElem?_set] at k3
          split at k3
          · split at k3
            · simp at k3
            · rename_i e1 e2; omega
          · rwa [List.getD_eq_getElem?_getD]
      · obtain ⟨k1, k2, k3⟩ := h1 x hm
        rw [List.getD_eq_getElem?_getD, List.getElem?_set_self (by omega)] at k3
        simp at k3

theorem isOrd_facts {o : List Int} {n : Int} (h : Sp.isOrd o n = true) : (o.length : Int) = n ∧ (∀ x ∈ o, 0 ≤ x ∧ x < n) ∧ o.Nodup ∧ (n > 0 → o.getD 0 default = 0) := by
  unfold Sp.isOrd at h
  split at h
  · simp at h
  · rename_i hn
    obtain ⟨h1, h2⟩ := ordFrom_mem o _ (by simp; omega) h
    refine ⟨by omega, fun x hx => ⟨(h1 x hx).1, (h1 x hx).2.1⟩, h2, fun h0 => ?_⟩
    by_cases he : o.getD 0 default = 0
    · exact he
    · exact absurd (.inr ⟨h0, he⟩) hn
end Go.Av

/- PATHS, written by a program of the prover's. -/
namespace Go.Av
open Go.Proofs
set_option maxRecDepth 100000
def fi11 : Fi := ⟨19, [.tmp 4]⟩
def kp11 : List (Nat × List Nat) := [(0, [0, 1]), (1, [4])]
def fi14 : Fi := ⟨9, [.tmp 4]⟩
def kp14 : List (Nat × List Nat) := [(0, [0, 1]), (1, [4])]
def fi16 : Fi := ⟨16, [.tmp 4]⟩
def kp16 : List (Nat × List Nat) := [(0, [2, 3]), (1, [4])]
def fi30 : Fi := ⟨32, [.tmp 4]⟩
def kp30 : List (Nat × List Nat) := [(0, [0, 1]), (1, [0, 1, 5]), (2, [0, 1, 5, 6]), (3, [0, 1, 5, 6, 10]), (4, [0, 1, 5, 6]), (5, [0, 1, 5, 6]), (6, [4])]
def v16_at (ax ay bx by_ : Int) (Q : AV → Heap → Prop) : Prop := Wp M1 (.run fi16 (atC (cd Try.f16) []) [(0, .agg [.int .i64 ax, .int .i64 ay]), (1, .agg [.int .i64 bx, .int .i64 by_])] []) Q
def v30_at (fl fm : Bool) (gs : List G2) (o : List Int) (Q : AV → Heap → Prop) : Prop := Wp M1 (.run fi30 (atC (cd Try.f30) []) [(0, .vec fl 2 (gs.map G2.a)), (1, .vec fm 1 (o.map (.int .i64)))] []) Q
def v30a_at (fl fm : Bool) (gs : List G2) (o : List Int) (s i : Int) (Q : AV → Heap → Prop) : Prop := Wp M1 (.run fi30 (atC (cd Try.f30) [1, 1, 0, 1, 0, 0]) [(0, .vec fl 2 (gs.map G2.a)), (1, .vec fm 1 (o.map (.int .i64))), (5, .int .i64 s), (6, .int .i64 i)] []) Q
def v11_at (fl : Bool) (gs : List G2) (m : Int) (Q : AV → Heap → Prop) : Prop := Wp M1 (.run fi11 (atC (cd Try.f11) []) [(0, .vec fl 2 (gs.map G2.a)), (1, .int .i64 m)] []) Q
def v14_at (fl : Bool) (gs : List G2) (m : Int) (Q : AV → Heap → Prop) : Prop := Wp M1 (.run fi14 (atC (cd Try.f14) []) [(0, .vec fl 2 (gs.map G2.a)), (1, .int .i64 m)] []) Q
theorem call11 {args : List AV} {d : AV} (h : Wp M1 (.run fi11 [.code (cd Try.f11)] (argVars 0 args) []) (PureQ d)) : Ev M1 (.pure 11 args) d [] :=
  pure_pq Try.f11 fi11 (by kernel_rfl) (by kernel_rfl) (by kernel_rfl) (by kernel_rfl) h
theorem owncall11 {args : List AV} {L : Heap} {Q : AV → Heap → Prop} (h : Wp M1 (.run fi11 [.code (cd Try.f11)] (argVars 0 args) L) Q) : Wp M1 (.own 11 args L) Q :=
  own_wp Try.f11 fi11 (by kernel_rfl) (by kernel_rfl) (by kernel_rfl) (by kernel_rfl) h
theorem keepcall11 {args : List AV} {L : Heap} {v : AV} {K : Heap} (hk : keepOk L.length v K = true) (h : Wp M1 (.run fi11 [.code (cd Try.f11)] (argVars 0 args) L) (KeepQ v K)) : Ev M1 (.own 11 args L) v K :=
  own_keep Try.f11 fi11 (by kernel_rfl) (by kernel_rfl) (by kernel_rfl) (by kernel_rfl) hk h
theorem call14 {args : List AV} {d : AV} (h : Wp M1 (.run fi14 [.code (cd Try.f14)] (argVars 0 args) []) (PureQ d)) : Ev M1 (.pure 14 args) d [] :=
  pure_pq Try.f14 fi14 (by kernel_rfl) (by kernel_rfl) (by kernel_rfl) (by kernel_rfl) h
theorem owncall14 {args : List AV} {L : Heap} {Q : AV → Heap → Prop} (h : Wp M1 (.run fi14 [.code (cd Try.f14)] (argVars 0 args) L) Q) : Wp M1 (.own 14 args L) Q :=
  own_wp Try.f14 fi14 (by kernel_rfl) (by kernel_rfl) (by kernel_rfl) (by kernel_rfl) h
theorem keepcall14 {args : List AV} {L : Heap} {v : AV} {K : Heap} (hk : keepOk L.length v K = true) (h : Wp M1 (.run fi14 [.code (cd Try.f14)] (argVars 0 args) L) (KeepQ v K)) : Ev M1 (.own 14 args L) v K :=
  own_keep Try.f14 fi14 (by kernel_rfl) (by kernel_rfl) (by kernel_rfl) (by kernel_rfl) hk h
theorem call16 {args : List AV} {d : AV} (h : Wp M1 (.run fi16 [.code (cd Try.f16)] (argVars 0 args) []) (PureQ d)) : Ev M1 (.pure 16 args) d [] :=
  pure_pq Try.f16 fi16 (by kernel_rfl) (by kernel_rfl) (by kernel_rfl) (by kernel_rfl) h
theorem owncall16 {args : List AV} {L : Heap} {Q : AV → Heap → Prop} (h : Wp M1 (.run fi16 [.code (cd Try.f16)] (argVars 0 args) L) Q) : Wp M1 (.own 16 args L) Q :=
  own_wp Try.f16 fi16 (by kernel_rfl) (by kernel_rfl) (by kernel_rfl) (by kernel_rfl) h
theorem keepcall16 {args : List AV} {L : Heap} {v : AV} {K : Heap} (hk : keepOk L.length v K = true) (h : Wp M1 (.run fi16 [.code (cd Try.f16)] (argVars 0 args) L) (KeepQ v K)) : Ev M1 (.own 16 args L) v K :=
  own_keep Try.f16 fi16 (by kernel_rfl) (by kernel_rfl) (by kernel_rfl) (by kernel_rfl) hk h
theorem call30 {args : List AV} {d : AV} (h : Wp M1 (.run fi30 [.code (cd Try.f30)] (argVars 0 args) []) (PureQ d)) : Ev M1 (.pure 30 args) d [] :=
  pure_pq Try.f30 fi30 (by kernel_rfl) (by kernel_rfl) (by kernel_rfl) (by kernel_rfl) h
theorem owncall30 {args : List AV} {L : Heap} {Q : AV → Heap → Prop} (h : Wp M1 (.run fi30 [.code (cd Try.f30)] (argVars 0 args) L) Q) : Wp M1 (.own 30 args L) Q :=
  own_wp Try.f30 fi30 (by kernel_rfl) (by kernel_rfl) (by kernel_rfl) (by kernel_rfl) h
theorem keepcall30 {args : List AV} {L : Heap} {v : AV} {K : Heap} (hk : keepOk L.length v K = true) (h : Wp M1 (.run fi30 [.code (cd Try.f30)] (argVars 0 args) L) (KeepQ v K)) : Ev M1 (.own 30 args L) v K :=
  own_keep Try.f30 fi30 (by kernel_rfl) (by kernel_rfl) (by kernel_rfl) (by kernel_rfl) hk h
theorem v16 (ax ay bx by_ : Int) (dq : AV) (H :
    (Sp.inM ax ∧ Sp.inM bx) ∧
    (Sp.inM ay ∧ Sp.inM by_) ∧
    AV.int IntKind.i64 (if Sp.gap ay by_ > Sp.gap ax bx then Sp.gap ay by_ else Sp.gap ax bx) = dq) :
  v16_at ax ay bx by_ (PureQ dq) := by
  unfold v16_at
  have k1 := H.1; have H := H.2
  have k2 := H.1; have H := H.2
  exact path_ret (G := given kp16 [(1, 4, .call (AV.int IntKind.i64 (Sp.gap ax bx)) none), (1, 9, .call (AV.int IntKind.i64 (Sp.gap ay by_)) none)] []) 1000 [] (k := ((atC (cd Try.f16) [1, 1])).tail) (env' := [(4, AV.int IntKind.i64 (if Sp.gap ay by_ > Sp.gap ax bx then Sp.gap ay by_ else Sp.gap ax bx))]) (L' := [{ elems := [AV.agg [AV.int IntKind.i64 ax, AV.int IntKind.i64 ay]], es := 2, ver := 0, frozen := false, clean := false }, { elems := [AV.agg [AV.int IntKind.i64 bx, AV.int IntKind.i64 by_]], es := 2, ver := 0, frozen := false, clean := false }]) (asm := [true, true, true, true]) (eqs := []) (calls := [⟨true, false, 34, [AV.int IntKind.i64 ax, AV.int IntKind.i64 bx], [], AV.int IntKind.i64 (Sp.gap ax bx), []⟩, ⟨true, false, 34, [AV.int IntKind.i64 ay, AV.int IntKind.i64 by_], [], AV.int IntKind.i64 (Sp.gap ay by_), []⟩]) (AV.int IntKind.i64 (if Sp.gap ay by_ > Sp.gap ax bx then Sp.gap ay by_ else Sp.gap ax bx)) (by kernel_rfl) (by kernel_rfl) (allB_cons rfl (allB_cons rfl (allB_cons rfl (allB_cons rfl allB_nil)))) allP_nil (allC_cons (fun _ => ((@ev34 (ax) (bx) k1) : Ev M1 (Conf.pure 34 [AV.int IntKind.i64 ax, AV.int IntKind.i64 bx]) (AV.int IntKind.i64 (Sp.gap ax bx)) [])) (allC_cons (fun _ => ((@ev34 (ay) (by_) k2) : Ev M1 (Conf.pure 34 [AV.int IntKind.i64 ay, AV.int IntKind.i64 by_]) (AV.int IntKind.i64 (Sp.gap ay by_)) [])) allC_nil)) (pq_of (d := AV.int IntKind.i64 (if Sp.gap ay by_ > Sp.gap ax bx then Sp.gap ay by_ else Sp.gap ax bx)) (bs := []) (by kernel_rfl) (by kernel_rfl) allB_nil (by kernel_rfl) H)

theorem v30 (fl fm : Bool) (gs : List G2) (o : List Int) (dq : AV) (H :
    v30a_at (fl) (fm) (gs) (o) (0) (1) (PureQ dq)) :
  v30_at fl fm gs o (PureQ dq) := by
  unfold v30_at
  exact path_wp (G := given kp30 [] []) 1000 [] ⟨(atC (cd Try.f30) [1, 1, 0, 1, 0, 0]), [(0, AV.vec fl 2 (List.map G2.a gs)), (1, AV.vec fm 1 (List.map (AV.int IntKind.i64) o)), (5, AV.int IntKind.i64 0), (6, AV.int IntKind.i64 1)], [], [], [], []⟩ (by kernel_rfl) allB_nil allP_nil allC_nil (H)

theorem v30a (fl fm : Bool) (gs : List G2) (o : List Int) (s i : Int) (dq : AV) (H :
    ((i < (↑o.length : Int)) → (-9223372036854775808 ≤ i - 1 ∧ i - 1 ≤ 9223372036854775807) ∧
      (Sp.inM (gs.getD (o.getD (i - 1).toNat default).toNat default).x ∧ Sp.inM (gs.getD (o.getD (i - 1).toNat default).toNat default).y ∧ Sp.inM (gs.getD (o.getD i.toNat default).toNat default).x ∧ Sp.inM (gs.getD (o.getD i.toNat default).toNat default).y) ∧
      (0 ≤ i - 1) ∧
      ((i - 1).toNat < o.length) ∧
      (0 ≤ o.getD (i - 1).toNat default) ∧
      ((o.getD (i - 1).toNat default).toNat < gs.length) ∧
      (0 ≤ i) ∧
      (i.toNat < o.length) ∧
      (0 ≤ o.getD i.toNat default) ∧
      ((o.getD i.toNat default).toNat < gs.length) ∧
      (-9223372036854775808 ≤ s + Sp.dist (gs.getD (o.getD (i - 1).toNat default).toNat default).x (gs.getD (o.getD (i - 1).toNat default).toNat default).y (gs.getD (o.getD i.toNat default).toNat default).x (gs.getD (o.getD i.toNat default).toNat default).y ∧ s + Sp.dist (gs.getD (o.getD (i - 1).toNat default).toNat default).x (gs.getD (o.getD (i - 1).toNat default).toNat default).y (gs.getD (o.getD i.toNat default).toNat default).x (gs.getD (o.getD i.toNat default).toNat default).y ≤ 9223372036854775807) ∧
      (-9223372036854775808 ≤ i + 1 ∧ i + 1 ≤ 9223372036854775807) ∧
      v30a_at (fl) (fm) (gs) (o) (s + Sp.dist (gs.getD (o.getD (i - 1).toNat default).toNat default).x (gs.getD (o.getD (i - 1).toNat default).toNat default).y (gs.getD (o.getD i.toNat default).toNat default).x (gs.getD (o.getD i.toNat default).toNat default).y) (i + 1) (PureQ dq)) ∧
    (¬(i < (↑o.length : Int)) → AV.int IntKind.i64 s = dq)) :
  v30a_at fl fm gs o s i (PureQ dq) := by
  unfold v30a_at
  have w1 : (List.map (AV.int IntKind.i64) o).length = o.length := List.length_map ..
  have i2 : (decide (i < (↑(List.map (AV.int IntKind.i64) o).length : Int))) = true ↔ (i < (↑o.length : Int)) := (by rw [w1] <;> exact i_dec)
  rcases Classical.em (i < (↑o.length : Int)) with d3 | d3
  · have H := H.1 d3
    have k4 := H.1; have H := H.2
    have w5 : IntKind.i64.wrap (i - 1) = i - 1 := wI64 k4
    have k6 := H.1; have H := H.2
    have i7 : (decide (0 ≤ IntKind.i64.wrap (i - 1))) = true ↔ (0 ≤ i - 1) := (by rw [w5] <;> exact i_dec)
    have k8 := H.1; have H := H.2
    have i9 : (decide ((IntKind.i64.wrap (i - 1)).toNat < (List.map (AV.int IntKind.i64) o).length)) = true ↔ ((i - 1).toNat < o.length) := (by rw [w1, w5] <;> exact i_dec)
    have k10 := H.1; have H := H.2
    have i11 : (decide (0 ≤ o.getD (i - 1).toNat default)) = true ↔ (0 ≤ o.getD (i - 1).toNat default) := i_dec
    have k12 := H.1; have H := H.2
    have w13 : (List.map G2.a gs).length = gs.length := List.length_map ..
    have i14 : (decide ((o.getD (i - 1).toNat default).toNat < (List.map G2.a gs).length)) = true ↔ ((o.getD (i - 1).toNat default).toNat < gs.length) := (by rw [w13] <;> exact i_dec)
    have k15 := H.1; have H := H.2
    have i16 : (decide (0 ≤ i)) = true ↔ (0 ≤ i) := i_dec
    have k17 := H.1; have H := H.2
    have i18 : (decide (i.toNat < (List.map (AV.int IntKind.i64) o).length)) = true ↔ (i.toNat < o.length) := (by rw [w1] <;> exact i_dec)
    have k19 := H.1; have H := H.2
    have i20 : (decide (0 ≤ o.getD i.toNat default)) = true ↔ (0 ≤ o.getD i.toNat default) := i_dec
    have k21 := H.1; have H := H.2
    have i22 : (decide ((o.getD i.toNat default).toNat < (List.map G2.a gs).length)) = true ↔ ((o.getD i.toNat default).toNat < gs.length) := (by rw [w13] <;> exact i_dec)
    have k23 := H.1; have H := H.2
    have k24 := H.1; have H := H.2
    have w25 : IntKind.i64.wrap (s + Sp.dist (gs.getD (o.getD (i - 1).toNat default).toNat default).x (gs.getD (o.getD (i - 1).toNat default).toNat default).y (gs.getD (o.getD i.toNat default).toNat default).x (gs.getD (o.getD i.toNat default).toNat default).y) = s + Sp.dist (gs.getD (o.getD (i - 1).toNat default).toNat default).x (gs.getD (o.getD (i - 1).toNat default).toNat default).y (gs.getD (o.getD i.toNat default).toNat default).x (gs.getD (o.getD i.toNat default).toNat default).y := wI64 k24
    have k26 := H.1; have H := H.2
    have w27 : IntKind.i64.wrap (i + 1) = i + 1 := wI64 k26
    exact path_wp (G := given kp30 [(5, 6, .elem (AV.int IntKind.i64 (o.getD (i - 1).toNat default))), (5, 8, .elem (AV.agg [AV.int IntKind.i64 (gs.getD (o.getD (i - 1).toNat default).toNat default).x, AV.int IntKind.i64 (gs.getD (o.getD (i - 1).toNat default).toNat default).y])), (5, 13, .elem (AV.int IntKind.i64 (o.getD i.toNat default))), (5, 15, .elem (AV.agg [AV.int IntKind.i64 (gs.getD (o.getD i.toNat default).toNat default).x, AV.int IntKind.i64 (gs.getD (o.getD i.toNat default).toNat default).y])), (5, 16, .call (AV.int IntKind.i64 (Sp.dist (gs.getD (o.getD (i - 1).toNat default).toNat default).x (gs.getD (o.getD (i - 1).toNat default).toNat default).y (gs.getD (o.getD i.toNat default).toNat default).x (gs.getD (o.getD i.toNat default).toNat default).y)) none)] []) 1000 [true] ⟨(atC (cd Try.f30) [1, 1, 0, 1, 0, 0]), [(0, AV.vec fl 2 (List.map G2.a gs)), (1, AV.vec fm 1 (List.map (AV.int IntKind.i64) o)), (5, AV.int IntKind.i64 (IntKind.i64.wrap (s + Sp.dist (gs.getD (o.getD (i - 1).toNat default).toNat default).x (gs.getD (o.getD (i - 1).toNat default).toNat default).y (gs.getD (o.getD i.toNat default).toNat default).x (gs.getD (o.getD i.toNat default).toNat default).y))), (6, AV.int IntKind.i64 (IntKind.i64.wrap (i + 1)))], [], [(decide (i < (↑(List.map (AV.int IntKind.i64) o).length : Int))) == true, decide (0 ≤ IntKind.i64.wrap (i - 1)), decide ((IntKind.i64.wrap (i - 1)).toNat < (List.map (AV.int IntKind.i64) o).length), decide (0 ≤ o.getD (i - 1).toNat default), decide ((o.getD (i - 1).toNat default).toNat < (List.map G2.a gs).length), decide (0 ≤ i), decide (i.toNat < (List.map (AV.int IntKind.i64) o).length), decide (0 ≤ o.getD i.toNat default), decide ((o.getD i.toNat default).toNat < (List.map G2.a gs).length)], [((List.map (AV.int IntKind.i64) o).get?Internal (IntKind.i64.wrap (i - 1)).toNat = some (AV.int IntKind.i64 (o.getD (i - 1).toNat default))), ((List.map G2.a gs).get?Internal (o.getD (i - 1).toNat default).toNat = some (AV.agg [AV.int IntKind.i64 (gs.getD (o.getD (i - 1).toNat default).toNat default).x, AV.int IntKind.i64 (gs.getD (o.getD (i - 1).toNat default).toNat default).y])), ((List.map (AV.int IntKind.i64) o).get?Internal i.toNat = some (AV.int IntKind.i64 (o.getD i.toNat default))), ((List.map G2.a gs).get?Internal (o.getD i.toNat default).toNat = some (AV.agg [AV.int IntKind.i64 (gs.getD (o.getD i.toNat default).toNat default).x, AV.int IntKind.i64 (gs.getD (o.getD i.toNat default).toNat default).y]))], [⟨true, false, 15, [AV.agg [AV.int IntKind.i64 (gs.getD (o.getD (i - 1).toNat default).toNat default).x, AV.int IntKind.i64 (gs.getD (o.getD (i - 1).toNat default).toNat default).y], AV.agg [AV.int IntKind.i64 (gs.getD (o.getD i.toNat default).toNat default).x, AV.int IntKind.i64 (gs.getD (o.getD i.toNat default).toNat default).y]], [], AV.int IntKind.i64 (Sp.dist (gs.getD (o.getD (i - 1).toNat default).toNat default).x (gs.getD (o.getD (i - 1).toNat default).toNat default).y (gs.getD (o.getD i.toNat default).toNat default).x (gs.getD (o.getD i.toNat default).toNat default).y), []⟩]⟩ (by kernel_rfl) (allB_cons (beq_t (i2.2 d3)) (allB_cons (i7.2 k8) (allB_cons (i9.2 k10) (allB_cons (i11.2 k12) (allB_cons (i14.2 k15) (allB_cons (i16.2 k17) (allB_cons (i18.2 k19) (allB_cons (i20.2 k21) (allB_cons (i22.2 k23) allB_nil))))))))) (allP_cons (by rw [w5] <;> exact (el_map k10)) (allP_cons (el_map k15) (allP_cons (el_map k19) (allP_cons (el_map k23) allP_nil)))) (allC_cons (fun _ => ((@ev15 ((gs.getD (o.getD (i - 1).toNat default).toNat default).x) ((gs.getD (o.getD (i - 1).toNat default).toNat default).y) ((gs.getD (o.getD i.toNat default).toNat default).x) ((gs.getD (o.getD i.toNat default).toNat default).y) k6) : Ev M1 (Conf.pure 15 [AV.agg [AV.int IntKind.i64 (gs.getD (o.getD (i - 1).toNat default).toNat default).x, AV.int IntKind.i64 (gs.getD (o.getD (i - 1).toNat default).toNat default).y], AV.agg [AV.int IntKind.i64 (gs.getD (o.getD i.toNat default).toNat default).x, AV.int IntKind.i64 (gs.getD (o.getD i.toNat default).toNat default).y]]) (AV.int IntKind.i64 (Sp.dist (gs.getD (o.getD (i - 1).toNat default).toNat default).x (gs.getD (o.getD (i - 1).toNat default).toNat default).y (gs.getD (o.getD i.toNat default).toNat default).x (gs.getD (o.getD i.toNat default).toNat default).y)) [])) allC_nil) (by rw [w25, w27] <;> exact H)
  · have H := H.2 d3
    exact path_ret (G := given kp30 [] []) 1000 [false] (k := ((atC (cd Try.f30) [1, 1, 1, 1])).tail) (env' := [(4, AV.int IntKind.i64 s)]) (L' := []) (asm := [(decide (i < (↑(List.map (AV.int IntKind.i64) o).length : Int))) == false]) (eqs := []) (calls := []) (AV.int IntKind.i64 s) (by kernel_rfl) (by kernel_rfl) (allB_cons (beq_f (fun h => d3 (i2.1 h))) allB_nil) allP_nil allC_nil (pq_of (d := AV.int IntKind.i64 s) (bs := []) (by kernel_rfl) (by kernel_rfl) allB_nil (by kernel_rfl) H)

theorem v11 (fl : Bool) (gs : List G2) (m : Int) (dq : AV) (H :
    AV.bool (bif decide ((↑gs.length : Int) ≤ m) then true else bif decide ((↑gs.length : Int) > 199) then decide ((↑gs.length : Int) < 203) else false) = dq) :
  v11_at fl gs m (PureQ dq) := by
  unfold v11_at
  have w1 : (List.map G2.a gs).length = gs.length := List.length_map ..
  exact path_ret (G := given kp11 [] []) 1000 [] (k := ((atC (cd Try.f11) [1, 1])).tail) (env' := [(4, AV.bool (bif decide ((↑(List.map G2.a gs).length : Int) ≤ m) then true else bif decide ((↑(List.map G2.a gs).length : Int) > 199) then decide ((↑(List.map G2.a gs).length : Int) < 203) else false))]) (L' := []) (asm := []) (eqs := []) (calls := []) (AV.bool (bif decide ((↑(List.map G2.a gs).length : Int) ≤ m) then true else bif decide ((↑(List.map G2.a gs).length : Int) > 199) then decide ((↑(List.map G2.a gs).length : Int) < 203) else false)) (by kernel_rfl) (by kernel_rfl) allB_nil allP_nil allC_nil (pq_of (d := AV.bool (bif decide ((↑(List.map G2.a gs).length : Int) ≤ m) then true else bif decide ((↑(List.map G2.a gs).length : Int) > 199) then decide ((↑(List.map G2.a gs).length : Int) < 203) else false)) (bs := []) (by kernel_rfl) (by kernel_rfl) allB_nil (by kernel_rfl) (by rw [w1] <;> exact H))

theorem v14 (fl : Bool) (gs : List G2) (m : Int) (dq : AV) (H :
    (Sp.mOk m) ∧
    AV.bool (Sp.checkE gs m == 0) = dq) :
  v14_at fl gs m (PureQ dq) := by
  unfold v14_at
  have k1 := H.1; have H := H.2
  exact path_ret (G := given kp14 [(1, 2, .call (AV.int IntKind.i64 (Sp.checkE gs m)) none)] []) 1000 [] (k := ((atC (cd Try.f14) [1, 1])).tail) (env' := [(4, AV.bool (Sp.checkE gs m == 0))]) (L' := []) (asm := []) (eqs := []) (calls := [⟨true, false, 31, [AV.vec fl 2 (List.map G2.a gs), AV.int IntKind.i64 m], [], AV.int IntKind.i64 (Sp.checkE gs m), []⟩]) (AV.bool (Sp.checkE gs m == 0)) (by kernel_rfl) (by kernel_rfl) allB_nil allP_nil (allC_cons (fun _ => ((@ev31 (fl) (gs) (m) k1) : Ev M1 (Conf.pure 31 [AV.vec fl 2 (List.map G2.a gs), AV.int IntKind.i64 m]) (AV.int IntKind.i64 (Sp.checkE gs m)) [])) allC_nil) (pq_of (d := AV.bool (Sp.checkE gs m == 0)) (bs := []) (by kernel_rfl) (by kernel_rfl) allB_nil (by kernel_rfl) H)


end Go.Av

/- THE LENGTH OF AN ORDER. -/
namespace Go.Av
open Go.Proofs

theorem ev16 (ax ay bx by_ : Int) (h : Sp.inM ax ∧ Sp.inM ay ∧ Sp.inM bx ∧ Sp.inM by_) : Ev M1 (.pure 16 [.agg [.int .i64 ax, .int .i64 ay], .agg [.int .i64 bx, .int .i64 by_]]) (.int .i64 (Sp.dist ax ay bx by_)) [] :=
  call16 (v16 ax ay bx by_ _ ⟨⟨h.1, h.2.2.1⟩, ⟨h.2.1, h.2.2.2⟩, rfl⟩)

namespace Sp
def dAt (gs : List G2) (i j : Int) : Int := dist (gs.getD i.toNat default).x (gs.getD i.toNat default).y (gs.getD j.toNat default).x (gs.getD j.toNat default).y
/-- The length of the way over positions. -/
def way (gs : List G2) : List Int → Int
  | [] => 0
  | [_] => 0
  | x :: y :: o => dAt gs x y + way gs (y :: o)
/-- Positions in the range of the machine. -/
def okG (gs : List G2) : Prop := ∀ g ∈ gs, inM g.x ∧ inM g.y
/-- Numbers of positions. -/
def okO (gs : List G2) (o : List Int) : Prop := ∀ x ∈ o, 0 ≤ x ∧ x < gs.length
end Sp

theorem dist_le {ax ay bx by_ : Int} (h : Sp.inM ax ∧ Sp.inM ay ∧ Sp.inM bx ∧ Sp.inM by_) : 0 ≤ Sp.dist ax ay bx by_ ∧ Sp.dist ax ay bx by_ ≤ 20000000 := by
  simp only [Sp.inM] at h
  unfold Sp.dist Sp.gap
  (repeat' split) <;> omega

theorem okG_at {gs : List G2} (h : Sp.okG gs) (k : Nat) : Sp.inM (gs.getD k default).x ∧ Sp.inM (gs.getD k default).y := by
  by_cases hk : k < gs.length
  · exact h _ (getD_mem hk)
  · have : gs.getD k default = default := by simp [List.getD_eq_getElem?_getD, List.getElem?_eq_none (by omega : gs.length ≤ k)]
    rw [this]
    exact ⟨by show Sp.inM 0; simp [Sp.inM], by show Sp.inM 0; simp [Sp.inM]⟩

theorem dAt_le {gs : List G2} (h : Sp.okG gs) (i j : Int) : 0 ≤ Sp.dAt gs i j ∧ Sp.dAt gs i j ≤ 20000000 :=
  dist_le ⟨(okG_at h _).1, (okG_at h _).2, (okG_at h _).1, (okG_at h _).2⟩

theorem check_okG {gs : List G2} {m : Int} (h : Sp.checkE gs m = 0) : Sp.okG gs ∧ (gs.length : Int) ≤ m := by
  unfold Sp.checkE at h
  split at h
  · simp at h
  · split at h
    · simp at h
    · rename_i h1 h2
      refine ⟨fun g hg => ?_, by omega⟩
      have hb : ¬Sp.badG g = true := fun k => h2 (List.any_eq_true.2 ⟨g, hg, k⟩)
      simp only [Sp.badG, Bool.or_eq_true, decide_eq_true_eq, not_or] at hb
      exact ⟨⟨by omega, by omega⟩, ⟨by omega, by omega⟩⟩

theorem way_le {gs : List G2} (h : Sp.okG gs) : ∀ (o : List Int), 0 ≤ Sp.way gs o ∧ Sp.way gs o ≤ 20000000 * o.length
  | [] => by simp [Sp.way]
  | [_] => by simp [Sp.way]
  | x :: y :: o => by
    have h1 := way_le h (y :: o)
    have h2 := dAt_le h x y
    simp only [Sp.way, List.length_cons] at *
    omega

theorem loop30 {fl fm : Bool} {gs : List G2} {o : List Int} {dq : AV} (hg : Sp.okG gs) (ho : Sp.okO gs o) (hl : o.length ≤ 1000) : ∀ (k i : Nat) (s : Int), i + 1 + k = o.length → 0 ≤ s → s + 20000000 * k ≤ 20000000000 → AV.int .i64 (s + Sp.way gs (o.drop i)) = dq → v30a_at fl fm gs o s (i + 1 : Nat) (PureQ dq) := by
  intro k
  induction k with
  | zero =>
    intro i s hi h0 h1 hq
    rw [drop_getD (show i < o.length by omega), List.drop_eq_nil_of_le (by omega), Sp.way, Int.add_zero] at hq
    exact v30a _ _ _ _ _ _ _ ⟨fun h => by omega, fun _ => hq⟩
  | succ k ih =>
    intro i s hi h0 h1 hq
    rw [drop_getD (show i < o.length by omega), drop_getD (show i + 1 < o.length by omega), Sp.way, ← drop_getD (show i + 1 < o.length by omega)] at hq
    have m1 := ho _ (getD_mem (show i < o.length by omega))
    have m2 := ho _ (getD_mem (show i + 1 < o.length by omega))
    have hd := dAt_le hg (o.getD i default) (o.getD (i + 1) default)
    have e1 : (((i + 1 : Nat) : Int) - 1).toNat = i := by omega
    refine v30a _ _ _ _ _ _ _ ⟨fun _ => ?_, fun h => by omega⟩
    rw [e1, Int.toNat_natCast]
    refine ⟨by omega, ⟨(okG_at hg _).1, (okG_at hg _).2, (okG_at hg _).1, (okG_at hg _).2⟩, by omega, by omega, m1.1, by omega, by omega, by omega, m2.1, by omega, ?_, by omega, ?_⟩
    · show -9223372036854775808 ≤ s + Sp.dAt gs (o.getD i default) (o.getD (i + 1) default) ∧ s + Sp.dAt gs (o.getD i default) (o.getD (i + 1) default) ≤ 9223372036854775807
      omega
    · have := ih (i + 1) (s + Sp.dAt gs (o.getD i default) (o.getD (i + 1) default)) (by omega) (by omega) (by omega) (by rw [← hq, Int.add_assoc])
      exact this

theorem ev30 (fl fm : Bool) (gs : List G2) (o : List Int) (hg : Sp.okG gs) (ho : Sp.okO gs o) (hl : o.length ≤ 1000) : Ev M1 (.pure 30 [gsA fl gs, isA fm o]) (.int .i64 (Sp.way gs o)) [] := by
  refine call30 (v30 fl fm gs o _ ?_)
  cases o with
  | nil => exact v30a _ _ _ _ _ _ _ ⟨fun h => by simp at h, fun _ => rfl⟩
  | cons x o => exact loop30 hg ho hl o.length 0 0 (by simp; omega) (by omega) (by simp at hl; omega) (by simp)

theorem ev11 (fl : Bool) (gs : List G2) (m : Int) : Ev M1 (.pure 11 [gsA fl gs, .int .i64 m]) (.bool (bif decide ((gs.length : Int) ≤ m) then true else bif decide ((gs.length : Int) > 199) then decide ((gs.length : Int) < 203) else false)) [] :=
  call11 (v11 fl gs m _ rfl)
theorem ev14 (fl : Bool) (gs : List G2) (m : Int) (hm : Sp.mOk m) : Ev M1 (.pure 14 [gsA fl gs, .int .i64 m]) (.bool (Sp.checkE gs m == 0)) [] :=
  call14 (v14 fl gs m _ ⟨hm, rfl⟩)
end Go.Av

/- PATHS, written by a program of the prover's. -/
namespace Go.Av
open Go.Proofs
set_option maxRecDepth 100000
def fi17 : Fi := ⟨65, [.tmp 2]⟩
def kp17 : List (Nat × List Nat) := [(0, [0]), (1, [0, 3]), (2, [0, 3, 4]), (3, [0, 3, 4, 5]), (4, [0, 3, 4, 5, 19]), (5, [0, 3, 4, 5]), (6, [0, 3, 4, 5, 6]), (7, [0, 3, 4, 5, 6, 27, 28, 29]), (8, [0, 3, 4, 5, 6, 27, 28, 29, 30]), (9, [0, 3, 4, 5, 6, 7, 8, 27, 28, 29]), (10, [0, 3, 4, 5, 6, 7, 27, 28, 29, 60]), (11, [0, 3, 4, 5, 6, 27, 28, 29]), (12, [0, 3, 4, 5, 6, 27, 28, 29]), (13, [0, 3, 4, 5]), (14, [2])]
def v17_at (fl : Bool) (gs : List G2) (Q : AV → Heap → Prop) : Prop := Wp M1 (.run fi17 (atC (cd Try.f17) []) [(0, .vec fl 2 (gs.map G2.a))] []) Q
def v17z_at (fl : Bool) (gs : List G2) (dn : List Bool) (at_ : Int) (Q : AV → Heap → Prop) : Prop := Wp M1 (.run fi17 (atC (cd Try.f17) [1, 1, 1, 0, 1, 0, 0]) [(0, .vec fl 2 (gs.map G2.a)), (3, .vnil), (4, .row 0 0), (5, .int .i64 at_)] [⟨dn.map .bool, 1, 0, false, true⟩]) Q
def v17a_at (fl : Bool) (gs : List G2) (dn : List Bool) (at_ : Int) (o : List Int) (v : Nat) (Q : AV → Heap → Prop) : Prop := Wp M1 (.run fi17 (atC (cd Try.f17) [1, 1, 1, 0, 1, 0, 0]) [(0, .vec fl 2 (gs.map G2.a)), (3, .row 0 v), (4, .row 1 0), (5, .int .i64 at_)] [⟨o.map (.int .i64), 1, v, false, true⟩, ⟨dn.map .bool, 1, 0, false, true⟩]) Q
def v17b_at (fl : Bool) (gs : List G2) (dn : List Bool) (at_ nx n i : Int) (o : List Int) (v : Nat) (Q : AV → Heap → Prop) : Prop := Wp M1 (.run fi17 (atC (cd Try.f17) [1, 1, 1, 0, 1, 0, 0, 1, 0, 1, 1, 0, 1, 0, 0]) [(0, .vec fl 2 (gs.map G2.a)), (3, .row 0 v), (4, .row 1 0), (5, .int .i64 at_), (6, .int .i64 nx), (27, .vec fl 2 (gs.map G2.a)), (28, .int .i64 n), (29, .int .i64 i)] [⟨o.map (.int .i64), 1, v, false, true⟩, ⟨dn.map .bool, 1, 0, false, true⟩]) Q
theorem call17 {args : List AV} {d : AV} (h : Wp M1 (.run fi17 [.code (cd Try.f17)] (argVars 0 args) []) (PureQ d)) : Ev M1 (.pure 17 args) d [] :=
  pure_pq Try.f17 fi17 (by kernel_rfl) (by kernel_rfl) (by kernel_rfl) (by kernel_rfl) h
theorem owncall17 {args : List AV} {L : Heap} {Q : AV → Heap → Prop} (h : Wp M1 (.run fi17 [.code (cd Try.f17)] (argVars 0 args) L) Q) : Wp M1 (.own 17 args L) Q :=
  own_wp Try.f17 fi17 (by kernel_rfl) (by kernel_rfl) (by kernel_rfl) (by kernel_rfl) h
theorem keepcall17 {args : List AV} {L : Heap} {v : AV} {K : Heap} (hk : keepOk L.length v K = true) (h : Wp M1 (.run fi17 [.code (cd Try.f17)] (argVars 0 args) L) (KeepQ v K)) : Ev M1 (.own 17 args L) v K :=
  own_keep Try.f17 fi17 (by kernel_rfl) (by kernel_rfl) (by kernel_rfl) (by kernel_rfl) hk h
theorem v17 (fl : Bool) (gs : List G2) (dq : AV) (H :
    (0 ≤ (↑gs.length : Int)) ∧
    ((↑gs.length : Int) * 1 ≤ 1099511627776) ∧
    ((↑gs.length : Int) ≤ 1099511627776) ∧
    v17z_at (fl) (gs) (List.replicate (↑gs.length : Int).toNat false) (0) (PureQ dq)) :
  v17_at fl gs (PureQ dq) := by
  unfold v17_at
  have w1 : (List.map G2.a gs).length = gs.length := List.length_map ..
  have i2 : (decide (0 ≤ (↑(List.map G2.a gs).length : Int))) = true ↔ (0 ≤ (↑gs.length : Int)) := (by rw [w1] <;> exact i_dec)
  have k3 := H.1; have H := H.2
  have i4 : (decide ((↑(List.map G2.a gs).length : Int) ≤ (↑(List.map G2.a gs).length : Int))) = true ↔ ((↑gs.length : Int) ≤ (↑gs.length : Int)) := (by rw [w1] <;> exact i_dec)
  have i5 : (decide ((↑(List.map G2.a gs).length : Int) * 1 ≤ 1099511627776)) = true ↔ ((↑gs.length : Int) * 1 ≤ 1099511627776) := (by rw [w1] <;> exact i_dec)
  have k6 := H.1; have H := H.2
  have i7 : (decide ((↑(List.map G2.a gs).length : Int) ≤ 1099511627776)) = true ↔ ((↑gs.length : Int) ≤ 1099511627776) := (by rw [w1] <;> exact i_dec)
  have k8 := H.1; have H := H.2
  have w9 : List.replicate (↑gs.length : Int).toNat (AV.bool false) = List.map AV.bool (List.replicate (↑gs.length : Int).toNat false) := (lm_rep rfl)
  exact path_wp (G := given kp17 [] []) 1000 [] ⟨(atC (cd Try.f17) [1, 1, 1, 0, 1, 0, 0]), [(0, AV.vec fl 2 (List.map G2.a gs)), (3, AV.vnil), (4, AV.row 0 0), (5, AV.int IntKind.i64 0)], [{ elems := List.replicate (↑(List.map G2.a gs).length : Int).toNat (AV.bool false), es := 1, ver := 0, frozen := false, clean := true }], [decide (0 ≤ (↑(List.map G2.a gs).length : Int)), decide ((↑(List.map G2.a gs).length : Int) ≤ (↑(List.map G2.a gs).length : Int)), decide ((↑(List.map G2.a gs).length : Int) * 1 ≤ 1099511627776), decide ((↑(List.map G2.a gs).length : Int) ≤ 1099511627776)], [], []⟩ (by kernel_rfl) (allB_cons (i2.2 k3) (allB_cons (i4.2 (by omega)) (allB_cons (i5.2 k6) (allB_cons (i7.2 k8) allB_nil)))) allP_nil allC_nil (by rw [w1, w9] <;> exact H)

theorem v17z (fl : Bool) (gs : List G2) (dn : List Bool) (at_ : Int) (dq : AV) (H :
    (((at_ ≥ 0) ∧ (at_ < (↑gs.length : Int))) → (0 ≤ at_) ∧
      (at_.toNat < dn.length) ∧
      v17b_at (fl) (gs) (dn.set at_.toNat true) (at_) (-1) ((↑gs.length : Int)) (0) ([at_]) (0) (PureQ dq)) ∧
    (¬((at_ ≥ 0) ∧ (at_ < (↑gs.length : Int))) → Weak (AV.vnil) dq)) :
  v17z_at fl gs dn at_ (PureQ dq) := by
  unfold v17z_at
  have w1 : (List.map G2.a gs).length = gs.length := List.length_map ..
  have i2 : (bif decide (at_ ≥ 0) then decide (at_ < (↑(List.map G2.a gs).length : Int)) else false) = true ↔ ((at_ ≥ 0) ∧ (at_ < (↑gs.length : Int))) := (by rw [w1] <;> exact (i_band i_dec i_dec))
  rcases Classical.em ((at_ ≥ 0) ∧ (at_ < (↑gs.length : Int))) with d3 | d3
  · have H := H.1 d3
    have i4 : (decide (0 ≤ at_)) = true ↔ (0 ≤ at_) := i_dec
    have k5 := H.1; have H := H.2
    have w6 : (List.map AV.bool dn).length = dn.length := List.length_map ..
    have i7 : (decide (at_.toNat < (List.map AV.bool dn).length)) = true ↔ (at_.toNat < dn.length) := (by rw [w6] <;> exact i_dec)
    have k8 := H.1; have H := H.2
    have w9 : (List.map AV.bool dn).set at_.toNat (AV.bool true) = List.map AV.bool (dn.set at_.toNat true) := (lm_set rfl rfl)
    have w10 : [AV.int IntKind.i64 at_] = List.map (AV.int IntKind.i64) [at_] := rfl
    exact path_wp (G := given kp17 [(5, 8, .elem (AV.bool (dn.getD at_.toNat default)))] []) 1000 [true] ⟨(atC (cd Try.f17) [1, 1, 1, 0, 1, 0, 0, 1, 0, 1, 1, 0, 1, 0, 0]), [(0, AV.vec fl 2 (List.map G2.a gs)), (3, AV.row 1 0), (4, AV.row 0 0), (5, AV.int IntKind.i64 at_), (6, AV.int IntKind.i64 (-1)), (27, AV.vec fl 2 (List.map G2.a gs)), (28, AV.int IntKind.i64 (↑(List.map G2.a gs).length : Int)), (29, AV.int IntKind.i64 0)], [{ elems := (List.map AV.bool dn).set at_.toNat (AV.bool true), es := 1, ver := 0, frozen := false, clean := true }, { elems := [AV.int IntKind.i64 at_], es := 1, ver := 0, frozen := false, clean := true }], [(bif decide (at_ ≥ 0) then decide (at_ < (↑(List.map G2.a gs).length : Int)) else false) == true, true, true, decide (0 ≤ at_), decide (at_.toNat < (List.map AV.bool dn).length), true], [((List.map AV.bool dn).get?Internal at_.toNat = some (AV.bool (dn.getD at_.toNat default)))], []⟩ (by kernel_rfl) (allB_cons (beq_t (i2.2 d3)) (allB_cons rfl (allB_cons rfl (allB_cons (i4.2 k5) (allB_cons (i7.2 k8) (allB_cons rfl allB_nil)))))) (allP_cons (el_map k8) allP_nil) allC_nil (by rw [w1, w9, w10] <;> exact wp_narrow [1, 0] (by kernel_rfl) H)
  · have H := H.2 d3
    exact path_ret (G := given kp17 [] []) 1000 [false] (k := ((atC (cd Try.f17) [1, 1, 1, 1, 1])).tail) (env' := [(2, AV.vnil)]) (L' := [{ elems := List.map AV.bool dn, es := 1, ver := 0, frozen := false, clean := true }]) (asm := [(bif decide (at_ ≥ 0) then decide (at_ < (↑(List.map G2.a gs).length : Int)) else false) == false]) (eqs := []) (calls := []) (AV.vnil) (by kernel_rfl) (by kernel_rfl) (allB_cons (beq_f (fun h => d3 (i2.1 h))) allB_nil) allP_nil allC_nil (pq_weak (d := AV.vnil) (bs := []) (by kernel_rfl) (by kernel_rfl) allB_nil (by kernel_rfl) H)

theorem v17a (fl : Bool) (gs : List G2) (dn : List Bool) (at_ : Int) (o : List Int) (v : Nat) (dq : AV) (H :
    (((at_ ≥ 0) ∧ (at_ < (↑gs.length : Int))) → ((o.length + 1) * 8 ≤ 1099511627776) ∧
      (0 ≤ at_) ∧
      (at_.toNat < dn.length) ∧
      v17b_at (fl) (gs) (dn.set at_.toNat true) (at_) (-1) ((↑gs.length : Int)) (0) (o ++ [at_]) (v + 1) (PureQ dq)) ∧
    (¬((at_ ≥ 0) ∧ (at_ < (↑gs.length : Int))) → Weak (AV.vec false 1 (List.map (AV.int IntKind.i64) o)) dq)) :
  v17a_at fl gs dn at_ o v (PureQ dq) := by
  unfold v17a_at
  have w1 : (List.map G2.a gs).length = gs.length := List.length_map ..
  have i2 : (bif decide (at_ ≥ 0) then decide (at_ < (↑(List.map G2.a gs).length : Int)) else false) = true ↔ ((at_ ≥ 0) ∧ (at_ < (↑gs.length : Int))) := (by rw [w1] <;> exact (i_band i_dec i_dec))
  rcases Classical.em ((at_ ≥ 0) ∧ (at_ < (↑gs.length : Int))) with d3 | d3
  · have H := H.1 d3
    have w4 : (List.map (AV.int IntKind.i64) o).length = o.length := List.length_map ..
    have i5 : (decide (((List.map (AV.int IntKind.i64) o).length + 1) * 8 ≤ 1099511627776)) = true ↔ ((o.length + 1) * 8 ≤ 1099511627776) := (by rw [w4] <;> exact i_dec)
    have k6 := H.1; have H := H.2
    have i7 : (decide (0 ≤ at_)) = true ↔ (0 ≤ at_) := i_dec
    have k8 := H.1; have H := H.2
    have w9 : (List.map AV.bool dn).length = dn.length := List.length_map ..
    have i10 : (decide (at_.toNat < (List.map AV.bool dn).length)) = true ↔ (at_.toNat < dn.length) := (by rw [w9] <;> exact i_dec)
    have k11 := H.1; have H := H.2
    have w12 : List.map (AV.int IntKind.i64) o ++ [AV.int IntKind.i64 at_] = List.map (AV.int IntKind.i64) (o ++ [at_]) := (lm_app rfl rfl)
    have w13 : (List.map AV.bool dn).set at_.toNat (AV.bool true) = List.map AV.bool (dn.set at_.toNat true) := (lm_set rfl rfl)
    exact path_wp (G := given kp17 [(5, 8, .elem (AV.bool (dn.getD at_.toNat default)))] []) 1000 [true] ⟨(atC (cd Try.f17) [1, 1, 1, 0, 1, 0, 0, 1, 0, 1, 1, 0, 1, 0, 0]), [(0, AV.vec fl 2 (List.map G2.a gs)), (3, AV.row 0 (v + 1)), (4, AV.row 1 0), (5, AV.int IntKind.i64 at_), (6, AV.int IntKind.i64 (-1)), (27, AV.vec fl 2 (List.map G2.a gs)), (28, AV.int IntKind.i64 (↑(List.map G2.a gs).length : Int)), (29, AV.int IntKind.i64 0)], [{ elems := List.map (AV.int IntKind.i64) o ++ [AV.int IntKind.i64 at_], es := 1, ver := v + 1, frozen := false, clean := true }, { elems := (List.map AV.bool dn).set at_.toNat (AV.bool true), es := 1, ver := 0, frozen := false, clean := true }], [(bif decide (at_ ≥ 0) then decide (at_ < (↑(List.map G2.a gs).length : Int)) else false) == true, v == v, decide (((List.map (AV.int IntKind.i64) o).length + 1) * 8 ≤ 1099511627776), true, decide (0 ≤ at_), decide (at_.toNat < (List.map AV.bool dn).length), true], [((List.map AV.bool dn).get?Internal at_.toNat = some (AV.bool (dn.getD at_.toNat default)))], []⟩ (by kernel_rfl) (allB_cons (beq_t (i2.2 d3)) (allB_cons (beq_self_eq_true _) (allB_cons (i5.2 k6) (allB_cons rfl (allB_cons (i7.2 k8) (allB_cons (i10.2 k11) (allB_cons rfl allB_nil))))))) (allP_cons (el_map k11) allP_nil) allC_nil (by rw [w1, w12, w13] <;> exact H)
  · have H := H.2 d3
    exact path_ret (G := given kp17 [] []) 1000 [false] (k := ((atC (cd Try.f17) [1, 1, 1, 1, 1])).tail) (env' := [(2, AV.row 0 v)]) (L' := [{ elems := List.map (AV.int IntKind.i64) o, es := 1, ver := v, frozen := false, clean := true }, { elems := List.map AV.bool dn, es := 1, ver := 0, frozen := false, clean := true }]) (asm := [(bif decide (at_ ≥ 0) then decide (at_ < (↑(List.map G2.a gs).length : Int)) else false) == false]) (eqs := []) (calls := []) (AV.row 0 v) (by kernel_rfl) (by kernel_rfl) (allB_cons (beq_f (fun h => d3 (i2.1 h))) allB_nil) allP_nil allC_nil (pq_weak (d := AV.vec false 1 (List.map (AV.int IntKind.i64) o)) (bs := [v == v]) (by kernel_rfl) (by kernel_rfl) (allB_cons (beq_self_eq_true _) allB_nil) (by kernel_rfl) H)

theorem v17b (fl : Bool) (gs : List G2) (dn : List Bool) (at_ nx n i : Int) (o : List Int) (v : Nat) (dq : AV) (H :
    ((i < n) → (0 ≤ i) ∧
      (i.toNat < gs.length) ∧
      (((¬(nx < 0)) ∧ (¬(dn.getD i.toNat default = true))) → (Sp.inM (gs.getD at_.toNat default).x ∧ Sp.inM (gs.getD at_.toNat default).y ∧ Sp.inM (gs.getD i.toNat default).x ∧ Sp.inM (gs.getD i.toNat default).y)) ∧
      (((¬(nx < 0)) ∧ (¬(dn.getD i.toNat default = true))) → (Sp.inM (gs.getD at_.toNat default).x ∧ Sp.inM (gs.getD at_.toNat default).y ∧ Sp.inM (gs.getD nx.toNat default).x ∧ Sp.inM (gs.getD nx.toNat default).y)) ∧
      (i.toNat < dn.length) ∧
      (((¬(nx < 0)) ∧ (¬(dn.getD i.toNat default = true))) → (0 ≤ at_)) ∧
      (((¬(nx < 0)) ∧ (¬(dn.getD i.toNat default = true))) → (at_.toNat < gs.length)) ∧
      (((¬(nx < 0)) ∧ (¬(dn.getD i.toNat default = true))) → (0 ≤ nx)) ∧
      (((¬(nx < 0)) ∧ (¬(dn.getD i.toNat default = true))) → (nx.toNat < gs.length)) ∧
      (((¬(dn.getD i.toNat default = true)) ∧ ((nx < 0) ∨ (Sp.dist (gs.getD at_.toNat default).x (gs.getD at_.toNat default).y (gs.getD i.toNat default).x (gs.getD i.toNat default).y < Sp.dist (gs.getD at_.toNat default).x (gs.getD at_.toNat default).y (gs.getD nx.toNat default).x (gs.getD nx.toNat default).y))) → (-9223372036854775808 ≤ i + 1 ∧ i + 1 ≤ 9223372036854775807) ∧
        v17b_at (fl) (gs) (dn) (at_) (i) (n) (i + 1) (o) (v) (PureQ dq)) ∧
      (¬((¬(dn.getD i.toNat default = true)) ∧ ((nx < 0) ∨ (Sp.dist (gs.getD at_.toNat default).x (gs.getD at_.toNat default).y (gs.getD i.toNat default).x (gs.getD i.toNat default).y < Sp.dist (gs.getD at_.toNat default).x (gs.getD at_.toNat default).y (gs.getD nx.toNat default).x (gs.getD nx.toNat default).y))) → (-9223372036854775808 ≤ i + 1 ∧ i + 1 ≤ 9223372036854775807) ∧
        v17b_at (fl) (gs) (dn) (at_) (nx) (n) (i + 1) (o) (v) (PureQ dq))) ∧
    (¬(i < n) → v17a_at (fl) (gs) (dn) (nx) (o) (v) (PureQ dq))) :
  v17b_at fl gs dn at_ nx n i o v (PureQ dq) := by
  unfold v17b_at
  have i1 : (decide (i < n)) = true ↔ (i < n) := i_dec
  rcases Classical.em (i < n) with d2 | d2
  · have H := H.1 d2
    have i3 : (decide (0 ≤ i)) = true ↔ (0 ≤ i) := i_dec
    have k4 := H.1; have H := H.2
    have w5 : (List.map G2.a gs).length = gs.length := List.length_map ..
    have i6 : (decide (i.toNat < (List.map G2.a gs).length)) = true ↔ (i.toNat < gs.length) := (by rw [w5] <;> exact i_dec)
    have k7 := H.1; have H := H.2
    have i8 : (decide (nx < 0) == false && ((!dn.getD i.toNat default) == true && true) && true) = true ↔ ((¬(nx < 0)) ∧ (¬(dn.getD i.toNat default = true))) := (i_at (i_and (i_bf i_dec) (i_at (i_bt (i_not (i_var _))))))
    have k9 := H.1; have H := H.2
    have i10 : (decide (nx < 0) == false && ((!dn.getD i.toNat default) == true && true) && true) = true ↔ ((¬(nx < 0)) ∧ (¬(dn.getD i.toNat default = true))) := (i_at (i_and (i_bf i_dec) (i_at (i_bt (i_not (i_var _))))))
    have k11 := H.1; have H := H.2
    have i12 : (decide (0 ≤ i)) = true ↔ (0 ≤ i) := i_dec
    have w13 : (List.map AV.bool dn).length = dn.length := List.length_map ..
    have i14 : (decide (i.toNat < (List.map AV.bool dn).length)) = true ↔ (i.toNat < dn.length) := (by rw [w13] <;> exact i_dec)
    have k15 := H.1; have H := H.2
    have i16 : (!(decide (nx < 0) == false && ((!dn.getD i.toNat default) == true && true)) || decide (0 ≤ at_)) = true ↔ (((¬(nx < 0)) ∧ (¬(dn.getD i.toNat default = true))) → (0 ≤ at_)) := (i_imp (i_and (i_bf i_dec) (i_at (i_bt (i_not (i_var _))))) i_dec)
    have k17 := H.1; have H := H.2
    have i18 : (!(decide (nx < 0) == false && ((!dn.getD i.toNat default) == true && true)) || decide (at_.toNat < (List.map G2.a gs).length)) = true ↔ (((¬(nx < 0)) ∧ (¬(dn.getD i.toNat default = true))) → (at_.toNat < gs.length)) := (by rw [w5] <;> exact (i_imp (i_and (i_bf i_dec) (i_at (i_bt (i_not (i_var _))))) i_dec))
    have k19 := H.1; have H := H.2
    have i20 : (!(decide (nx < 0) == false && ((!dn.getD i.toNat default) == true && true)) || decide (0 ≤ at_)) = true ↔ (((¬(nx < 0)) ∧ (¬(dn.getD i.toNat default = true))) → (0 ≤ at_)) := (i_imp (i_and (i_bf i_dec) (i_at (i_bt (i_not (i_var _))))) i_dec)
    have i21 : (!(decide (nx < 0) == false && ((!dn.getD i.toNat default) == true && true)) || decide (at_.toNat < (List.map G2.a gs).length)) = true ↔ (((¬(nx < 0)) ∧ (¬(dn.getD i.toNat default = true))) → (at_.toNat < gs.length)) := (by rw [w5] <;> exact (i_imp (i_and (i_bf i_dec) (i_at (i_bt (i_not (i_var _))))) i_dec))
    have i22 : (!(decide (nx < 0) == false && ((!dn.getD i.toNat default) == true && true)) || decide (0 ≤ nx)) = true ↔ (((¬(nx < 0)) ∧ (¬(dn.getD i.toNat default = true))) → (0 ≤ nx)) := (i_imp (i_and (i_bf i_dec) (i_at (i_bt (i_not (i_var _))))) i_dec)
    have k23 := H.1; have H := H.2
    have i24 : (!(decide (nx < 0) == false && ((!dn.getD i.toNat default) == true && true)) || decide (nx.toNat < (List.map G2.a gs).length)) = true ↔ (((¬(nx < 0)) ∧ (¬(dn.getD i.toNat default = true))) → (nx.toNat < gs.length)) := (by rw [w5] <;> exact (i_imp (i_and (i_bf i_dec) (i_at (i_bt (i_not (i_var _))))) i_dec))
    have k25 := H.1; have H := H.2
    have i26 : (decide (nx < 0) == false && ((!dn.getD i.toNat default) == true && true)) = true ↔ ((¬(nx < 0)) ∧ (¬(dn.getD i.toNat default = true))) := (i_and (i_bf i_dec) (i_at (i_bt (i_not (i_var _)))))
    have i27 : (decide (nx < 0) == false && ((!dn.getD i.toNat default) == true && true)) = true ↔ ((¬(nx < 0)) ∧ (¬(dn.getD i.toNat default = true))) := (i_and (i_bf i_dec) (i_at (i_bt (i_not (i_var _)))))
    have i28 : (decide (nx < 0) == false && ((!dn.getD i.toNat default) == true && true)) = true ↔ ((¬(nx < 0)) ∧ (¬(dn.getD i.toNat default = true))) := (i_and (i_bf i_dec) (i_at (i_bt (i_not (i_var _)))))
    have i29 : (bif !dn.getD i.toNat default then bif decide (nx < 0) then true else decide (Sp.dist (gs.getD at_.toNat default).x (gs.getD at_.toNat default).y (gs.getD i.toNat default).x (gs.getD i.toNat default).y < Sp.dist (gs.getD at_.toNat default).x (gs.getD at_.toNat default).y (gs.getD nx.toNat default).x (gs.getD nx.toNat default).y) else false) = true ↔ ((¬(dn.getD i.toNat default = true)) ∧ ((nx < 0) ∨ (Sp.dist (gs.getD at_.toNat default).x (gs.getD at_.toNat default).y (gs.getD i.toNat default).x (gs.getD i.toNat default).y < Sp.dist (gs.getD at_.toNat default).x (gs.getD at_.toNat default).y (gs.getD nx.toNat default).x (gs.getD nx.toNat default).y))) := (i_band (i_not (i_var _)) (i_bor i_dec i_dec))
    rcases Classical.em ((¬(dn.getD i.toNat default = true)) ∧ ((nx < 0) ∨ (Sp.dist (gs.getD at_.toNat default).x (gs.getD at_.toNat default).y (gs.getD i.toNat default).x (gs.getD i.toNat default).y < Sp.dist (gs.getD at_.toNat default).x (gs.getD at_.toNat default).y (gs.getD nx.toNat default).x (gs.getD nx.toNat default).y))) with d30 | d30
    · have H := H.1 d30
      have k31 := H.1; have H := H.2
      have w32 : IntKind.i64.wrap (i + 1) = i + 1 := wI64 k31
      exact path_wp (G := given kp17 [(9, 2, .elem (AV.agg [AV.int IntKind.i64 (gs.getD i.toNat default).x, AV.int IntKind.i64 (gs.getD i.toNat default).y])), (10, 3, .elem (AV.bool (dn.getD i.toNat default))), (10, 12, .elem (AV.agg [AV.int IntKind.i64 (gs.getD at_.toNat default).x, AV.int IntKind.i64 (gs.getD at_.toNat default).y])), (10, 14, .call (AV.int IntKind.i64 (Sp.dist (gs.getD at_.toNat default).x (gs.getD at_.toNat default).y (gs.getD i.toNat default).x (gs.getD i.toNat default).y)) none), (10, 18, .elem (AV.agg [AV.int IntKind.i64 (gs.getD at_.toNat default).x, AV.int IntKind.i64 (gs.getD at_.toNat default).y])), (10, 22, .elem (AV.agg [AV.int IntKind.i64 (gs.getD nx.toNat default).x, AV.int IntKind.i64 (gs.getD nx.toNat default).y])), (10, 23, .call (AV.int IntKind.i64 (Sp.dist (gs.getD at_.toNat default).x (gs.getD at_.toNat default).y (gs.getD nx.toNat default).x (gs.getD nx.toNat default).y)) none)] []) 1000 [true, true] ⟨(atC (cd Try.f17) [1, 1, 1, 0, 1, 0, 0, 1, 0, 1, 1, 0, 1, 0, 0]), [(0, AV.vec fl 2 (List.map G2.a gs)), (3, AV.row 0 v), (4, AV.row 1 0), (5, AV.int IntKind.i64 at_), (6, AV.int IntKind.i64 i), (27, AV.vec fl 2 (List.map G2.a gs)), (28, AV.int IntKind.i64 n), (29, AV.int IntKind.i64 (IntKind.i64.wrap (i + 1)))], [{ elems := List.map (AV.int IntKind.i64) o, es := 1, ver := v, frozen := false, clean := true }, { elems := List.map AV.bool dn, es := 1, ver := 0, frozen := false, clean := true }, { elems := [AV.agg [AV.int IntKind.i64 (gs.getD i.toNat default).x, AV.int IntKind.i64 (gs.getD i.toNat default).y]], es := 2, ver := 0, frozen := false, clean := false }], [(decide (i < n)) == true, decide (0 ≤ i), decide (i.toNat < (List.map G2.a gs).length), true, true, decide (0 ≤ i), decide (i.toNat < (List.map AV.bool dn).length), true, !(decide (nx < 0) == false && ((!dn.getD i.toNat default) == true && true)) || decide (0 ≤ at_), !(decide (nx < 0) == false && ((!dn.getD i.toNat default) == true && true)) || decide (at_.toNat < (List.map G2.a gs).length), !(decide (nx < 0) == false && ((!dn.getD i.toNat default) == true && true)) || true, !(decide (nx < 0) == false && ((!dn.getD i.toNat default) == true && true)) || decide (0 ≤ at_), !(decide (nx < 0) == false && ((!dn.getD i.toNat default) == true && true)) || decide (at_.toNat < (List.map G2.a gs).length), !(decide (nx < 0) == false && ((!dn.getD i.toNat default) == true && true)) || decide (0 ≤ nx), !(decide (nx < 0) == false && ((!dn.getD i.toNat default) == true && true)) || decide (nx.toNat < (List.map G2.a gs).length), (bif !dn.getD i.toNat default then bif decide (nx < 0) then true else decide (Sp.dist (gs.getD at_.toNat default).x (gs.getD at_.toNat default).y (gs.getD i.toNat default).x (gs.getD i.toNat default).y < Sp.dist (gs.getD at_.toNat default).x (gs.getD at_.toNat default).y (gs.getD nx.toNat default).x (gs.getD nx.toNat default).y) else false) == true], [((List.map G2.a gs).get?Internal i.toNat = some (AV.agg [AV.int IntKind.i64 (gs.getD i.toNat default).x, AV.int IntKind.i64 (gs.getD i.toNat default).y])), ((List.map AV.bool dn).get?Internal i.toNat = some (AV.bool (dn.getD i.toNat default))), ((decide (nx < 0) == false && ((!dn.getD i.toNat default) == true && true)) = true → (List.map G2.a gs).get?Internal at_.toNat = some (AV.agg [AV.int IntKind.i64 (gs.getD at_.toNat default).x, AV.int IntKind.i64 (gs.getD at_.toNat default).y])), ((decide (nx < 0) == false && ((!dn.getD i.toNat default) == true && true)) = true → (List.map G2.a gs).get?Internal at_.toNat = some (AV.agg [AV.int IntKind.i64 (gs.getD at_.toNat default).x, AV.int IntKind.i64 (gs.getD at_.toNat default).y])), ((decide (nx < 0) == false && ((!dn.getD i.toNat default) == true && true)) = true → (List.map G2.a gs).get?Internal nx.toNat = some (AV.agg [AV.int IntKind.i64 (gs.getD nx.toNat default).x, AV.int IntKind.i64 (gs.getD nx.toNat default).y]))], [⟨decide (nx < 0) == false && ((!dn.getD i.toNat default) == true && true) && true, false, 15, [AV.agg [AV.int IntKind.i64 (gs.getD at_.toNat default).x, AV.int IntKind.i64 (gs.getD at_.toNat default).y], AV.agg [AV.int IntKind.i64 (gs.getD i.toNat default).x, AV.int IntKind.i64 (gs.getD i.toNat default).y]], [], AV.int IntKind.i64 (Sp.dist (gs.getD at_.toNat default).x (gs.getD at_.toNat default).y (gs.getD i.toNat default).x (gs.getD i.toNat default).y), []⟩, ⟨decide (nx < 0) == false && ((!dn.getD i.toNat default) == true && true) && true, false, 15, [AV.agg [AV.int IntKind.i64 (gs.getD at_.toNat default).x, AV.int IntKind.i64 (gs.getD at_.toNat default).y], AV.agg [AV.int IntKind.i64 (gs.getD nx.toNat default).x, AV.int IntKind.i64 (gs.getD nx.toNat default).y]], [], AV.int IntKind.i64 (Sp.dist (gs.getD at_.toNat default).x (gs.getD at_.toNat default).y (gs.getD nx.toNat default).x (gs.getD nx.toNat default).y), []⟩]⟩ (by kernel_rfl) (allB_cons (beq_t (i1.2 d2)) (allB_cons (i3.2 k4) (allB_cons (i6.2 k7) (allB_cons rfl (allB_cons rfl (allB_cons (i12.2 k4) (allB_cons (i14.2 k15) (allB_cons rfl (allB_cons (i16.2 k17) (allB_cons (i18.2 k19) (allB_cons (Bool.or_true _) (allB_cons (i20.2 k17) (allB_cons (i21.2 k19) (allB_cons (i22.2 k23) (allB_cons (i24.2 k25) (allB_cons (beq_t (i29.2 d30)) allB_nil)))))))))))))))) (allP_cons (el_map k7) (allP_cons (el_map k15) (allP_cons (fun h => el_map (k19 (i26.1 h))) (allP_cons (fun h => el_map (k19 (i27.1 h))) (allP_cons (fun h => el_map (k25 (i28.1 h))) allP_nil))))) (allC_cons (fun hc => ((@ev15 ((gs.getD at_.toNat default).x) ((gs.getD at_.toNat default).y) ((gs.getD i.toNat default).x) ((gs.getD i.toNat default).y) (k9 (i8.1 hc))) : Ev M1 (Conf.pure 15 [AV.agg [AV.int IntKind.i64 (gs.getD at_.toNat default).x, AV.int IntKind.i64 (gs.getD at_.toNat default).y], AV.agg [AV.int IntKind.i64 (gs.getD i.toNat default).x, AV.int IntKind.i64 (gs.getD i.toNat default).y]]) (AV.int IntKind.i64 (Sp.dist (gs.getD at_.toNat default).x (gs.getD at_.toNat default).y (gs.getD i.toNat default).x (gs.getD i.toNat default).y)) [])) (allC_cons (fun hc => ((@ev15 ((gs.getD at_.toNat default).x) ((gs.getD at_.toNat default).y) ((gs.getD nx.toNat default).x) ((gs.getD nx.toNat default).y) (k11 (i10.1 hc))) : Ev M1 (Conf.pure 15 [AV.agg [AV.int IntKind.i64 (gs.getD at_.toNat default).x, AV.int IntKind.i64 (gs.getD at_.toNat default).y], AV.agg [AV.int IntKind.i64 (gs.getD nx.toNat default).x, AV.int IntKind.i64 (gs.getD nx.toNat default).y]]) (AV.int IntKind.i64 (Sp.dist (gs.getD at_.toNat default).x (gs.getD at_.toNat default).y (gs.getD nx.toNat default).x (gs.getD nx.toNat default).y)) [])) allC_nil)) (by rw [w32] <;> exact wp_narrow [0, 1] (by kernel_rfl) H)
    · have H := H.2 d30
      have k33 := H.1; have H := H.2
      have w34 : IntKind.i64.wrap (i + 1) = i + 1 := wI64 k33
      exact path_wp (G := given kp17 [(9, 2, .elem (AV.agg [AV.int IntKind.i64 (gs.getD i.toNat default).x, AV.int IntKind.i64 (gs.getD i.toNat default).y])), (10, 3, .elem (AV.bool (dn.getD i.toNat default))), (10, 12, .elem (AV.agg [AV.int IntKind.i64 (gs.getD at_.toNat default).x, AV.int IntKind.i64 (gs.getD at_.toNat default).y])), (10, 14, .call (AV.int IntKind.i64 (Sp.dist (gs.getD at_.toNat default).x (gs.getD at_.toNat default).y (gs.getD i.toNat default).x (gs.getD i.toNat default).y)) none), (10, 18, .elem (AV.agg [AV.int IntKind.i64 (gs.getD at_.toNat default).x, AV.int IntKind.i64 (gs.getD at_.toNat default).y])), (10, 22, .elem (AV.agg [AV.int IntKind.i64 (gs.getD nx.toNat default).x, AV.int IntKind.i64 (gs.getD nx.toNat default).y])), (10, 23, .call (AV.int IntKind.i64 (Sp.dist (gs.getD at_.toNat default).x (gs.getD at_.toNat default).y (gs.getD nx.toNat default).x (gs.getD nx.toNat default).y)) none)] []) 1000 [true, false] ⟨(atC (cd Try.f17) [1, 1, 1, 0, 1, 0, 0, 1, 0, 1, 1, 0, 1, 0, 0]), [(0, AV.vec fl 2 (List.map G2.a gs)), (3, AV.row 0 v), (4, AV.row 1 0), (5, AV.int IntKind.i64 at_), (6, AV.int IntKind.i64 nx), (27, AV.vec fl 2 (List.map G2.a gs)), (28, AV.int IntKind.i64 n), (29, AV.int IntKind.i64 (IntKind.i64.wrap (i + 1)))], [{ elems := List.map (AV.int IntKind.i64) o, es := 1, ver := v, frozen := false, clean := true }, { elems := List.map AV.bool dn, es := 1, ver := 0, frozen := false, clean := true }, { elems := [AV.agg [AV.int IntKind.i64 (gs.getD i.toNat default).x, AV.int IntKind.i64 (gs.getD i.toNat default).y]], es := 2, ver := 0, frozen := false, clean := false }], [(decide (i < n)) == true, decide (0 ≤ i), decide (i.toNat < (List.map G2.a gs).length), true, true, decide (0 ≤ i), decide (i.toNat < (List.map AV.bool dn).length), true, !(decide (nx < 0) == false && ((!dn.getD i.toNat default) == true && true)) || decide (0 ≤ at_), !(decide (nx < 0) == false && ((!dn.getD i.toNat default) == true && true)) || decide (at_.toNat < (List.map G2.a gs).length), !(decide (nx < 0) == false && ((!dn.getD i.toNat default) == true && true)) || true, !(decide (nx < 0) == false && ((!dn.getD i.toNat default) == true && true)) || decide (0 ≤ at_), !(decide (nx < 0) == false && ((!dn.getD i.toNat default) == true && true)) || decide (at_.toNat < (List.map G2.a gs).length), !(decide (nx < 0) == false && ((!dn.getD i.toNat default) == true && true)) || decide (0 ≤ nx), !(decide (nx < 0) == false && ((!dn.getD i.toNat default) == true && true)) || decide (nx.toNat < (List.map G2.a gs).length), (bif !dn.getD i.toNat default then bif decide (nx < 0) then true else decide (Sp.dist (gs.getD at_.toNat default).x (gs.getD at_.toNat default).y (gs.getD i.toNat default).x (gs.getD i.toNat default).y < Sp.dist (gs.getD at_.toNat default).x (gs.getD at_.toNat default).y (gs.getD nx.toNat default).x (gs.getD nx.toNat default).y) else false) == false], [((List.map G2.a gs).get?Internal i.toNat = some (AV.agg [AV.int IntKind.i64 (gs.getD i.toNat default).x, AV.int IntKind.i64 (gs.getD i.toNat default).y])), ((List.map AV.bool dn).get?Internal i.toNat = some (AV.bool (dn.getD i.toNat default))), ((decide (nx < 0) == false && ((!dn.getD i.toNat default) == true && true)) = true → (List.map G2.a gs).get?Internal at_.toNat = some (AV.agg [AV.int IntKind.i64 (gs.getD at_.toNat default).x, AV.int IntKind.i64 (gs.getD at_.toNat default).y])), ((decide (nx < 0) == false && ((!dn.getD i.toNat default) == true && true)) = true → (List.map G2.a gs).get?Internal at_.toNat = some (AV.agg [AV.int IntKind.i64 (gs.getD at_.toNat default).x, AV.int IntKind.i64 (gs.getD at_.toNat default).y])), ((decide (nx < 0) == false && ((!dn.getD i.toNat default) == true && true)) = true → (List.map G2.a gs).get?Internal nx.toNat = some (AV.agg [AV.int IntKind.i64 (gs.getD nx.toNat default).x, AV.int IntKind.i64 (gs.getD nx.toNat default).y]))], [⟨decide (nx < 0) == false && ((!dn.getD i.toNat default) == true && true) && true, false, 15, [AV.agg [AV.int IntKind.i64 (gs.getD at_.toNat default).x, AV.int IntKind.i64 (gs.getD at_.toNat default).y], AV.agg [AV.int IntKind.i64 (gs.getD i.toNat default).x, AV.int IntKind.i64 (gs.getD i.toNat default).y]], [], AV.int IntKind.i64 (Sp.dist (gs.getD at_.toNat default).x (gs.getD at_.toNat default).y (gs.getD i.toNat default).x (gs.getD i.toNat default).y), []⟩, ⟨decide (nx < 0) == false && ((!dn.getD i.toNat default) == true && true) && true, false, 15, [AV.agg [AV.int IntKind.i64 (gs.getD at_.toNat default).x, AV.int IntKind.i64 (gs.getD at_.toNat default).y], AV.agg [AV.int IntKind.i64 (gs.getD nx.toNat default).x, AV.int IntKind.i64 (gs.getD nx.toNat default).y]], [], AV.int IntKind.i64 (Sp.dist (gs.getD at_.toNat default).x (gs.getD at_.toNat default).y (gs.getD nx.toNat default).x (gs.getD nx.toNat default).y), []⟩]⟩ (by kernel_rfl) (allB_cons (beq_t (i1.2 d2)) (allB_cons (i3.2 k4) (allB_cons (i6.2 k7) (allB_cons rfl (allB_cons rfl (allB_cons (i12.2 k4) (allB_cons (i14.2 k15) (allB_cons rfl (allB_cons (i16.2 k17) (allB_cons (i18.2 k19) (allB_cons (Bool.or_true _) (allB_cons (i20.2 k17) (allB_cons (i21.2 k19) (allB_cons (i22.2 k23) (allB_cons (i24.2 k25) (allB_cons (beq_f (fun h => d30 (i29.1 h))) allB_nil)))))))))))))))) (allP_cons (el_map k7) (allP_cons (el_map k15) (allP_cons (fun h => el_map (k19 (i26.1 h))) (allP_cons (fun h => el_map (k19 (i27.1 h))) (allP_cons (fun h => el_map (k25 (i28.1 h))) allP_nil))))) (allC_cons (fun hc => ((@ev15 ((gs.getD at_.toNat default).x) ((gs.getD at_.toNat default).y) ((gs.getD i.toNat default).x) ((gs.getD i.toNat default).y) (k9 (i8.1 hc))) : Ev M1 (Conf.pure 15 [AV.agg [AV.int IntKind.i64 (gs.getD at_.toNat default).x, AV.int IntKind.i64 (gs.getD at_.toNat default).y], AV.agg [AV.int IntKind.i64 (gs.getD i.toNat default).x, AV.int IntKind.i64 (gs.getD i.toNat default).y]]) (AV.int IntKind.i64 (Sp.dist (gs.getD at_.toNat default).x (gs.getD at_.toNat default).y (gs.getD i.toNat default).x (gs.getD i.toNat default).y)) [])) (allC_cons (fun hc => ((@ev15 ((gs.getD at_.toNat default).x) ((gs.getD at_.toNat default).y) ((gs.getD nx.toNat default).x) ((gs.getD nx.toNat default).y) (k11 (i10.1 hc))) : Ev M1 (Conf.pure 15 [AV.agg [AV.int IntKind.i64 (gs.getD at_.toNat default).x, AV.int IntKind.i64 (gs.getD at_.toNat default).y], AV.agg [AV.int IntKind.i64 (gs.getD nx.toNat default).x, AV.int IntKind.i64 (gs.getD nx.toNat default).y]]) (AV.int IntKind.i64 (Sp.dist (gs.getD at_.toNat default).x (gs.getD at_.toNat default).y (gs.getD nx.toNat default).x (gs.getD nx.toNat default).y)) [])) allC_nil)) (by rw [w34] <;> exact wp_narrow [0, 1] (by kernel_rfl) H)
  · have H := H.2 d2
    exact path_wp (G := given kp17 [] []) 1000 [false] ⟨(atC (cd Try.f17) [1, 1, 1, 0, 1, 0, 0]), [(0, AV.vec fl 2 (List.map G2.a gs)), (3, AV.row 0 v), (4, AV.row 1 0), (5, AV.int IntKind.i64 nx)], [{ elems := List.map (AV.int IntKind.i64) o, es := 1, ver := v, frozen := false, clean := true }, { elems := List.map AV.bool dn, es := 1, ver := 0, frozen := false, clean := true }], [(decide (i < n)) == false], [], []⟩ (by kernel_rfl) (allB_cons (beq_f (fun h => d2 (i1.1 h))) allB_nil) allP_nil allC_nil (H)


end Go.Av

/- PATHS, written by a program of the prover's. -/
namespace Go.Av
open Go.Proofs
set_option maxRecDepth 100000
def fi18 : Fi := ⟨26, [.tmp 4]⟩
def kp18 : List (Nat × List Nat) := [(0, [0, 1]), (1, [0, 1, 10]), (2, [4]), (3, [0, 1, 5]), (4, [0, 1, 5, 14]), (5, [0, 1, 5]), (6, [0, 1, 5, 25]), (7, [4]), (8, [4])]
def fi35 : Fi := ⟨18, [.tmp 4]⟩
def kp35 : List (Nat × List Nat) := [(0, [0, 1]), (1, [0, 1, 5]), (2, [0, 1, 5, 9]), (3, [0, 1, 5]), (4, [0, 1, 5, 17]), (5, [4]), (6, [4])]
def fi46 : Fi := ⟨25, [.tmp 2]⟩
def kp46 : List (Nat × List Nat) := [(0, [0]), (1, [0, 7]), (2, [0]), (3, [0, 3]), (4, [0, 3, 4]), (5, [0, 3, 4, 15]), (6, [0, 3, 4]), (7, [0, 3, 4]), (8, [2])]
def fi47 : Fi := ⟨19, [.tmp 4]⟩
def kp47 : List (Nat × List Nat) := [(0, [0, 1]), (1, [0, 1, 7, 8]), (2, [0, 1, 7, 8, 9]), (3, [0, 1, 5, 7, 8]), (4, [0, 1, 5, 7, 8, 16]), (5, [4]), (6, [0, 1, 7, 8]), (7, [4])]
def v18_at (fa fb : Bool) (a b : List Int) (Q : AV → Heap → Prop) : Prop := Wp M1 (.run fi18 (atC (cd Try.f18) []) [(0, .vec fa 1 (a.map (.int .i64))), (1, .vec fb 1 (b.map (.int .i64)))] []) Q
def v18a_at (fa fb : Bool) (a b : List Int) (i : Int) (Q : AV → Heap → Prop) : Prop := Wp M1 (.run fi18 (atC (cd Try.f18) [1, 1, 0, 1, 0, 0]) [(0, .vec fa 1 (a.map (.int .i64))), (1, .vec fb 1 (b.map (.int .i64))), (5, .int .i64 i)] []) Q
def v35_at (fa : Bool) (a : List Int) (x : Int) (Q : AV → Heap → Prop) : Prop := Wp M1 (.run fi35 (atC (cd Try.f35) []) [(0, .vec fa 1 (a.map (.int .i64))), (1, .int .i64 x)] []) Q
def v35a_at (fa : Bool) (a : List Int) (x i : Int) (Q : AV → Heap → Prop) : Prop := Wp M1 (.run fi35 (atC (cd Try.f35) [1, 0, 1, 0, 0]) [(0, .vec fa 1 (a.map (.int .i64))), (1, .int .i64 x), (5, .int .i64 i)] []) Q
def v35n_at (x : Int) (Q : AV → Heap → Prop) : Prop := Wp M1 (.run fi35 (atC (cd Try.f35) []) [(0, .vnil), (1, .int .i64 x)] []) Q
def v35na_at (x : Int) (Q : AV → Heap → Prop) : Prop := Wp M1 (.run fi35 (atC (cd Try.f35) [1, 0, 1, 0, 0]) [(0, .vnil), (1, .int .i64 x), (5, .int .i64 0)] []) Q
def v47_at (fa : Bool) (a : List Int) (x : Int) (Q : AV → Heap → Prop) : Prop := Wp M1 (.run fi47 (atC (cd Try.f47) []) [(0, .vec fa 1 (a.map (.int .i64))), (1, .int .i64 x)] []) Q
def v47a_at (fa : Bool) (a : List Int) (x n i : Int) (Q : AV → Heap → Prop) : Prop := Wp M1 (.run fi47 (atC (cd Try.f47) [1, 0, 1, 0, 0]) [(0, .vec fa 1 (a.map (.int .i64))), (1, .int .i64 x), (7, .int .i64 n), (8, .int .i64 i)] []) Q
def v46_at (fa : Bool) (a : List Int) (Q : AV → Heap → Prop) : Prop := Wp M1 (.run fi46 (atC (cd Try.f46) []) [(0, .vec fa 1 (a.map (.int .i64)))] []) Q
def v46a_at (fa : Bool) (a : List Int) (m i : Int) (Q : AV → Heap → Prop) : Prop := Wp M1 (.run fi46 (atC (cd Try.f46) [1, 1, 1, 0, 1, 0, 0]) [(0, .vec fa 1 (a.map (.int .i64))), (3, .int .i64 m), (4, .int .i64 i)] []) Q
theorem call18 {args : List AV} {d : AV} (h : Wp M1 (.run fi18 [.code (cd Try.f18)] (argVars 0 args) []) (PureQ d)) : Ev M1 (.pure 18 args) d [] :=
  pure_pq Try.f18 fi18 (by kernel_rfl) (by kernel_rfl) (by kernel_rfl) (by kernel_rfl) h
theorem owncall18 {args : List AV} {L : Heap} {Q : AV → Heap → Prop} (h : Wp M1 (.run fi18 [.code (cd Try.f18)] (argVars 0 args) L) Q) : Wp M1 (.own 18 args L) Q :=
  own_wp Try.f18 fi18 (by kernel_rfl) (by kernel_rfl) (by kernel_rfl) (by kernel_rfl) h
theorem keepcall18 {args : List AV} {L : Heap} {v : AV} {K : Heap} (hk : keepOk L.length v K = true) (h : Wp M1 (.run fi18 [.code (cd Try.f18)] (argVars 0 args) L) (KeepQ v K)) : Ev M1 (.own 18 args L) v K :=
  own_keep Try.f18 fi18 (by kernel_rfl) (by kernel_rfl) (by kernel_rfl) (by kernel_rfl) hk h
theorem call35 {args : List AV} {d : AV} (h : Wp M1 (.run fi35 [.code (cd Try.f35)] (argVars 0 args) []) (PureQ d)) : Ev M1 (.pure 35 args) d [] :=
  pure_pq Try.f35 fi35 (by kernel_rfl) (by kernel_rfl) (by kernel_rfl) (by kernel_rfl) h
theorem owncall35 {args : List AV} {L : Heap} {Q : AV → Heap → Prop} (h : Wp M1 (.run fi35 [.code (cd Try.f35)] (argVars 0 args) L) Q) : Wp M1 (.own 35 args L) Q :=
  own_wp Try.f35 fi35 (by kernel_rfl) (by kernel_rfl) (by kernel_rfl) (by kernel_rfl) h
theorem keepcall35 {args : List AV} {L : Heap} {v : AV} {K : Heap} (hk : keepOk L.length v K = true) (h : Wp M1 (.run fi35 [.code (cd Try.f35)] (argVars 0 args) L) (KeepQ v K)) : Ev M1 (.own 35 args L) v K :=
  own_keep Try.f35 fi35 (by kernel_rfl) (by kernel_rfl) (by kernel_rfl) (by kernel_rfl) hk h
theorem call46 {args : List AV} {d : AV} (h : Wp M1 (.run fi46 [.code (cd Try.f46)] (argVars 0 args) []) (PureQ d)) : Ev M1 (.pure 46 args) d [] :=
  pure_pq Try.f46 fi46 (by kernel_rfl) (by kernel_rfl) (by kernel_rfl) (by kernel_rfl) h
theorem owncall46 {args : List AV} {L : Heap} {Q : AV → Heap → Prop} (h : Wp M1 (.run fi46 [.code (cd Try.f46)] (argVars 0 args) L) Q) : Wp M1 (.own 46 args L) Q :=
  own_wp Try.f46 fi46 (by kernel_rfl) (by kernel_rfl) (by kernel_rfl) (by kernel_rfl) h
theorem keepcall46 {args : List AV} {L : Heap} {v : AV} {K : Heap} (hk : keepOk L.length v K = true) (h : Wp M1 (.run fi46 [.code (cd Try.f46)] (argVars 0 args) L) (KeepQ v K)) : Ev M1 (.own 46 args L) v K :=
  own_keep Try.f46 fi46 (by kernel_rfl) (by kernel_rfl) (by kernel_rfl) (by kernel_rfl) hk h
theorem call47 {args : List AV} {d : AV} (h : Wp M1 (.run fi47 [.code (cd Try.f47)] (argVars 0 args) []) (PureQ d)) : Ev M1 (.pure 47 args) d [] :=
  pure_pq Try.f47 fi47 (by kernel_rfl) (by kernel_rfl) (by kernel_rfl) (by kernel_rfl) h
theorem owncall47 {args : List AV} {L : Heap} {Q : AV → Heap → Prop} (h : Wp M1 (.run fi47 [.code (cd Try.f47)] (argVars 0 args) L) Q) : Wp M1 (.own 47 args L) Q :=
  own_wp Try.f47 fi47 (by kernel_rfl) (by kernel_rfl) (by kernel_rfl) (by kernel_rfl) h
theorem keepcall47 {args : List AV} {L : Heap} {v : AV} {K : Heap} (hk : keepOk L.length v K = true) (h : Wp M1 (.run fi47 [.code (cd Try.f47)] (argVars 0 args) L) (KeepQ v K)) : Ev M1 (.own 47 args L) v K :=
  own_keep Try.f47 fi47 (by kernel_rfl) (by kernel_rfl) (by kernel_rfl) (by kernel_rfl) hk h
theorem v18 (fa fb : Bool) (a b : List Int) (dq : AV) (H :
    ((¬(↑a.length : Int) = (↑b.length : Int)) → AV.bool false = dq) ∧
    (¬(¬(↑a.length : Int) = (↑b.length : Int)) → v18a_at (fa) (fb) (a) (b) (0) (PureQ dq))) :
  v18_at fa fb a b (PureQ dq) := by
  unfold v18_at
  have w1 : (List.map (AV.int IntKind.i64) a).length = a.length := List.length_map ..
  have w2 : (List.map (AV.int IntKind.i64) b).length = b.length := List.length_map ..
  have i3 : ((↑(List.map (AV.int IntKind.i64) a).length : Int) != (↑(List.map (AV.int IntKind.i64) b).length : Int)) = true ↔ (¬(↑a.length : Int) = (↑b.length : Int)) := (by rw [w1, w2] <;> exact i_ne)
  rcases Classical.em (¬(↑a.length : Int) = (↑b.length : Int)) with d4 | d4
  · have H := H.1 d4
    exact path_ret (G := given kp18 [] []) 1000 [true] (k := ((atC (cd Try.f18) [1, 0, 1, 0, 1])).tail) (env' := [(4, AV.bool false)]) (L' := []) (asm := [((↑(List.map (AV.int IntKind.i64) a).length : Int) != (↑(List.map (AV.int IntKind.i64) b).length : Int)) == true]) (eqs := []) (calls := []) (AV.bool false) (by kernel_rfl) (by kernel_rfl) (allB_cons (beq_t (i3.2 d4)) allB_nil) allP_nil allC_nil (pq_of (d := AV.bool false) (bs := []) (by kernel_rfl) (by kernel_rfl) allB_nil (by kernel_rfl) H)
  · have H := H.2 d4
    exact path_wp (G := given kp18 [] []) 1000 [false] ⟨(atC (cd Try.f18) [1, 1, 0, 1, 0, 0]), [(0, AV.vec fa 1 (List.map (AV.int IntKind.i64) a)), (1, AV.vec fb 1 (List.map (AV.int IntKind.i64) b)), (5, AV.int IntKind.i64 0)], [], [((↑(List.map (AV.int IntKind.i64) a).length : Int) != (↑(List.map (AV.int IntKind.i64) b).length : Int)) == false], [], []⟩ (by kernel_rfl) (allB_cons (beq_f (fun h => d4 (i3.1 h))) allB_nil) allP_nil allC_nil (H)

theorem v18a (fa fb : Bool) (a b : List Int) (i : Int) (dq : AV) (H :
    ((i < (↑a.length : Int)) → (0 ≤ i) ∧
      (i.toNat < a.length) ∧
      (i.toNat < b.length) ∧
      ((¬a.getD i.toNat default = b.getD i.toNat default) → AV.bool false = dq) ∧
      (¬(¬a.getD i.toNat default = b.getD i.toNat default) → (-9223372036854775808 ≤ i + 1 ∧ i + 1 ≤ 9223372036854775807) ∧
        v18a_at (fa) (fb) (a) (b) (i + 1) (PureQ dq))) ∧
    (¬(i < (↑a.length : Int)) → AV.bool true = dq)) :
  v18a_at fa fb a b i (PureQ dq) := by
  unfold v18a_at
  have w1 : (List.map (AV.int IntKind.i64) a).length = a.length := List.length_map ..
  have i2 : (decide (i < (↑(List.map (AV.int IntKind.i64) a).length : Int))) = true ↔ (i < (↑a.length : Int)) := (by rw [w1] <;> exact i_dec)
  rcases Classical.em (i < (↑a.length : Int)) with d3 | d3
  · have H := H.1 d3
    have i4 : (decide (0 ≤ i)) = true ↔ (0 ≤ i) := i_dec
    have k5 := H.1; have H := H.2
    have i6 : (decide (i.toNat < (List.map (AV.int IntKind.i64) a).length)) = true ↔ (i.toNat < a.length) := (by rw [w1] <;> exact i_dec)
    have k7 := H.1; have H := H.2
    have i8 : (decide (0 ≤ i)) = true ↔ (0 ≤ i) := i_dec
    have w9 : (List.map (AV.int IntKind.i64) b).length = b.length := List.length_map ..
    have i10 : (decide (i.toNat < (List.map (AV.int IntKind.i64) b).length)) = true ↔ (i.toNat < b.length) := (by rw [w9] <;> exact i_dec)
    have k11 := H.1; have H := H.2
    have i12 : (a.getD i.toNat default != b.getD i.toNat default) = true ↔ (¬a.getD i.toNat default = b.getD i.toNat default) := i_ne
    rcases Classical.em (¬a.getD i.toNat default = b.getD i.toNat default) with d13 | d13
    · have H := H.1 d13
      exact path_ret (G := given kp18 [(6, 3, .elem (AV.int IntKind.i64 (a.getD i.toNat default))), (6, 7, .elem (AV.int IntKind.i64 (b.getD i.toNat default)))] []) 1000 [true, true] (k := ((atC (cd Try.f18) [1, 1, 0, 1, 0, 0, 1, 0, 0, 1, 0, 1])).tail) (env' := [(4, AV.bool false)]) (L' := []) (asm := [(decide (i < (↑(List.map (AV.int IntKind.i64) a).length : Int))) == true, decide (0 ≤ i), decide (i.toNat < (List.map (AV.int IntKind.i64) a).length), decide (0 ≤ i), decide (i.toNat < (List.map (AV.int IntKind.i64) b).length), (a.getD i.toNat default != b.getD i.toNat default) == true]) (eqs := [((List.map (AV.int IntKind.i64) a).get?Internal i.toNat = some (AV.int IntKind.i64 (a.getD i.toNat default))), ((List.map (AV.int IntKind.i64) b).get?Internal i.toNat = some (AV.int IntKind.i64 (b.getD i.toNat default)))]) (calls := []) (AV.bool false) (by kernel_rfl) (by kernel_rfl) (allB_cons (beq_t (i2.2 d3)) (allB_cons (i4.2 k5) (allB_cons (i6.2 k7) (allB_cons (i8.2 k5) (allB_cons (i10.2 k11) (allB_cons (beq_t (i12.2 d13)) allB_nil)))))) (allP_cons (el_map k7) (allP_cons (el_map k11) allP_nil)) allC_nil (pq_of (d := AV.bool false) (bs := []) (by kernel_rfl) (by kernel_rfl) allB_nil (by kernel_rfl) H)
    · have H := H.2 d13
      have k14 := H.1; have H := H.2
      have w15 : IntKind.i64.wrap (i + 1) = i + 1 := wI64 k14
      exact path_wp (G := given kp18 [(6, 3, .elem (AV.int IntKind.i64 (a.getD i.toNat default))), (6, 7, .elem (AV.int IntKind.i64 (b.getD i.toNat default)))] []) 1000 [true, false] ⟨(atC (cd Try.f18) [1, 1, 0, 1, 0, 0]), [(0, AV.vec fa 1 (List.map (AV.int IntKind.i64) a)), (1, AV.vec fb 1 (List.map (AV.int IntKind.i64) b)), (5, AV.int IntKind.i64 (IntKind.i64.wrap (i + 1)))], [], [(decide (i < (↑(List.map (AV.int IntKind.i64) a).length : Int))) == true, decide (0 ≤ i), decide (i.toNat < (List.map (AV.int IntKind.i64) a).length), decide (0 ≤ i), decide (i.toNat < (List.map (AV.int IntKind.i64) b).length), (a.getD i.toNat default != b.getD i.toNat default) == false], [((List.map (AV.int IntKind.i64) a).get?Internal i.toNat = some (AV.int IntKind.i64 (a.getD i.toNat default))), ((List.map (AV.int IntKind.i64) b).get?Internal i.toNat = some (AV.int IntKind.i64 (b.getD i.toNat default)))], []⟩ (by kernel_rfl) (allB_cons (beq_t (i2.2 d3)) (allB_cons (i4.2 k5) (allB_cons (i6.2 k7) (allB_cons (i8.2 k5) (allB_cons (i10.2 k11) (allB_cons (beq_f (fun h => d13 (i12.1 h))) allB_nil)))))) (allP_cons (el_map k7) (allP_cons (el_map k11) allP_nil)) allC_nil (by rw [w15] <;> exact H)
  · have H := H.2 d3
    exact path_ret (G := given kp18 [] []) 1000 [false] (k := ((atC (cd Try.f18) [1, 1, 1, 1])).tail) (env' := [(4, AV.bool true)]) (L' := []) (asm := [(decide (i < (↑(List.map (AV.int IntKind.i64) a).length : Int))) == false]) (eqs := []) (calls := []) (AV.bool true) (by kernel_rfl) (by kernel_rfl) (allB_cons (beq_f (fun h => d3 (i2.1 h))) allB_nil) allP_nil allC_nil (pq_of (d := AV.bool true) (bs := []) (by kernel_rfl) (by kernel_rfl) allB_nil (by kernel_rfl) H)

theorem v35 (fa : Bool) (a : List Int) (x : Int) (dq : AV) (H :
    v35a_at (fa) (a) (x) (0) (PureQ dq)) :
  v35_at fa a x (PureQ dq) := by
  unfold v35_at
  exact path_wp (G := given kp35 [] []) 1000 [] ⟨(atC (cd Try.f35) [1, 0, 1, 0, 0]), [(0, AV.vec fa 1 (List.map (AV.int IntKind.i64) a)), (1, AV.int IntKind.i64 x), (5, AV.int IntKind.i64 0)], [], [], [], []⟩ (by kernel_rfl) allB_nil allP_nil allC_nil (H)

theorem v35a (fa : Bool) (a : List Int) (x i : Int) (dq : AV) (H :
    ((i < (↑a.length : Int)) → (0 ≤ i) ∧
      (i.toNat < a.length) ∧
      ((a.getD i.toNat default = x) → AV.bool true = dq) ∧
      (¬(a.getD i.toNat default = x) → (-9223372036854775808 ≤ i + 1 ∧ i + 1 ≤ 9223372036854775807) ∧
        v35a_at (fa) (a) (x) (i + 1) (PureQ dq))) ∧
    (¬(i < (↑a.length : Int)) → AV.bool false = dq)) :
  v35a_at fa a x i (PureQ dq) := by
  unfold v35a_at
  have w1 : (List.map (AV.int IntKind.i64) a).length = a.length := List.length_map ..
  have i2 : (decide (i < (↑(List.map (AV.int IntKind.i64) a).length : Int))) = true ↔ (i < (↑a.length : Int)) := (by rw [w1] <;> exact i_dec)
  rcases Classical.em (i < (↑a.length : Int)) with d3 | d3
  · have H := H.1 d3
    have i4 : (decide (0 ≤ i)) = true ↔ (0 ≤ i) := i_dec
    have k5 := H.1; have H := H.2
    have i6 : (decide (i.toNat < (List.map (AV.int IntKind.i64) a).length)) = true ↔ (i.toNat < a.length) := (by rw [w1] <;> exact i_dec)
    have k7 := H.1; have H := H.2
    have i8 : (a.getD i.toNat default == x) = true ↔ (a.getD i.toNat default = x) := i_eq
    rcases Classical.em (a.getD i.toNat default = x) with d9 | d9
    · have H := H.1 d9
      exact path_ret (G := given kp35 [(4, 3, .elem (AV.int IntKind.i64 (a.getD i.toNat default)))] []) 1000 [true, true] (k := ((atC (cd Try.f35) [1, 0, 1, 0, 0, 1, 0, 0, 1, 0, 1])).tail) (env' := [(4, AV.bool true)]) (L' := []) (asm := [(decide (i < (↑(List.map (AV.int IntKind.i64) a).length : Int))) == true, decide (0 ≤ i), decide (i.toNat < (List.map (AV.int IntKind.i64) a).length), (a.getD i.toNat default == x) == true]) (eqs := [((List.map (AV.int IntKind.i64) a).get?Internal i.toNat = some (AV.int IntKind.i64 (a.getD i.toNat default)))]) (calls := []) (AV.bool true) (by kernel_rfl) (by kernel_rfl) (allB_cons (beq_t (i2.2 d3)) (allB_cons (i4.2 k5) (allB_cons (i6.2 k7) (allB_cons (beq_t (i8.2 d9)) allB_nil)))) (allP_cons (el_map k7) allP_nil) allC_nil (pq_of (d := AV.bool true) (bs := []) (by kernel_rfl) (by kernel_rfl) allB_nil (by kernel_rfl) H)
    · have H := H.2 d9
      have k10 := H.1; have H := H.2
      have w11 : IntKind.i64.wrap (i + 1) = i + 1 := wI64 k10
      exact path_wp (G := given kp35 [(4, 3, .elem (AV.int IntKind.i64 (a.getD i.toNat default)))] []) 1000 [true, false] ⟨(atC (cd Try.f35) [1, 0, 1, 0, 0]), [(0, AV.vec fa 1 (List.map (AV.int IntKind.i64) a)), (1, AV.int IntKind.i64 x), (5, AV.int IntKind.i64 (IntKind.i64.wrap (i + 1)))], [], [(decide (i < (↑(List.map (AV.int IntKind.i64) a).length : Int))) == true, decide (0 ≤ i), decide (i.toNat < (List.map (AV.int IntKind.i64) a).length), (a.getD i.toNat default == x) == false], [((List.map (AV.int IntKind.i64) a).get?Internal i.toNat = some (AV.int IntKind.i64 (a.getD i.toNat default)))], []⟩ (by kernel_rfl) (allB_cons (beq_t (i2.2 d3)) (allB_cons (i4.2 k5) (allB_cons (i6.2 k7) (allB_cons (beq_f (fun h => d9 (i8.1 h))) allB_nil)))) (allP_cons (el_map k7) allP_nil) allC_nil (by rw [w11] <;> exact H)
  · have H := H.2 d3
    exact path_ret (G := given kp35 [] []) 1000 [false] (k := ((atC (cd Try.f35) [1, 1, 1])).tail) (env' := [(4, AV.bool false)]) (L' := []) (asm := [(decide (i < (↑(List.map (AV.int IntKind.i64) a).length : Int))) == false]) (eqs := []) (calls := []) (AV.bool false) (by kernel_rfl) (by kernel_rfl) (allB_cons (beq_f (fun h => d3 (i2.1 h))) allB_nil) allP_nil allC_nil (pq_of (d := AV.bool false) (bs := []) (by kernel_rfl) (by kernel_rfl) allB_nil (by kernel_rfl) H)

theorem v35n (x : Int) (dq : AV) (H :
    v35na_at (x) (PureQ dq)) :
  v35n_at x (PureQ dq) := by
  unfold v35n_at
  exact path_wp (G := given kp35 [] []) 1000 [] ⟨(atC (cd Try.f35) [1, 0, 1, 0, 0]), [(0, AV.vnil), (1, AV.int IntKind.i64 x), (5, AV.int IntKind.i64 0)], [], [], [], []⟩ (by kernel_rfl) allB_nil allP_nil allC_nil (H)

theorem v35na (x : Int) (dq : AV) (H :
    AV.bool false = dq) :
  v35na_at x (PureQ dq) := by
  unfold v35na_at
  exact path_ret (G := given kp35 [] []) 1000 [false] (k := ((atC (cd Try.f35) [1, 1, 1])).tail) (env' := [(4, AV.bool false)]) (L' := []) (asm := [false == false]) (eqs := []) (calls := []) (AV.bool false) (by kernel_rfl) (by kernel_rfl) (allB_cons rfl allB_nil) allP_nil allC_nil (pq_of (d := AV.bool false) (bs := []) (by kernel_rfl) (by kernel_rfl) allB_nil (by kernel_rfl) H)

theorem v47 (fa : Bool) (a : List Int) (x : Int) (dq : AV) (H :
    v47a_at (fa) (a) (x) ((↑a.length : Int)) (0) (PureQ dq)) :
  v47_at fa a x (PureQ dq) := by
  unfold v47_at
  have w1 : (List.map (AV.int IntKind.i64) a).length = a.length := List.length_map ..
  exact path_wp (G := given kp47 [] []) 1000 [] ⟨(atC (cd Try.f47) [1, 0, 1, 0, 0]), [(0, AV.vec fa 1 (List.map (AV.int IntKind.i64) a)), (1, AV.int IntKind.i64 x), (7, AV.int IntKind.i64 (↑(List.map (AV.int IntKind.i64) a).length : Int)), (8, AV.int IntKind.i64 0)], [], [], [], []⟩ (by kernel_rfl) allB_nil allP_nil allC_nil (by rw [w1] <;> exact H)

theorem v47a (fa : Bool) (a : List Int) (x n i : Int) (dq : AV) (H :
    ((i < n) → (0 ≤ i) ∧
      (i.toNat < a.length) ∧
      ((x = a.getD i.toNat default) → AV.int IntKind.i64 i = dq) ∧
      (¬(x = a.getD i.toNat default) → (-9223372036854775808 ≤ i + 1 ∧ i + 1 ≤ 9223372036854775807) ∧
        v47a_at (fa) (a) (x) (n) (i + 1) (PureQ dq))) ∧
    (¬(i < n) → AV.int IntKind.i64 (-1) = dq)) :
  v47a_at fa a x n i (PureQ dq) := by
  unfold v47a_at
  have i1 : (decide (i < n)) = true ↔ (i < n) := i_dec
  rcases Classical.em (i < n) with d2 | d2
  · have H := H.1 d2
    have i3 : (decide (0 ≤ i)) = true ↔ (0 ≤ i) := i_dec
    have k4 := H.1; have H := H.2
    have w5 : (List.map (AV.int IntKind.i64) a).length = a.length := List.length_map ..
    have i6 : (decide (i.toNat < (List.map (AV.int IntKind.i64) a).length)) = true ↔ (i.toNat < a.length) := (by rw [w5] <;> exact i_dec)
    have k7 := H.1; have H := H.2
    have i8 : (x == a.getD i.toNat default) = true ↔ (x = a.getD i.toNat default) := i_eq
    rcases Classical.em (x = a.getD i.toNat default) with d9 | d9
    · have H := H.1 d9
      exact path_ret (G := given kp47 [(4, 4, .elem (AV.int IntKind.i64 (a.getD i.toNat default)))] []) 1000 [true, true] (k := ((atC (cd Try.f47) [1, 0, 1, 0, 0, 1, 1, 0, 0, 1, 1, 0, 1])).tail) (env' := [(4, AV.int IntKind.i64 i)]) (L' := []) (asm := [(decide (i < n)) == true, decide (0 ≤ i), decide (i.toNat < (List.map (AV.int IntKind.i64) a).length), (x == a.getD i.toNat default) == true]) (eqs := [((List.map (AV.int IntKind.i64) a).get?Internal i.toNat = some (AV.int IntKind.i64 (a.getD i.toNat default)))]) (calls := []) (AV.int IntKind.i64 i) (by kernel_rfl) (by kernel_rfl) (allB_cons (beq_t (i1.2 d2)) (allB_cons (i3.2 k4) (allB_cons (i6.2 k7) (allB_cons (beq_t (i8.2 d9)) allB_nil)))) (allP_cons (el_map k7) allP_nil) allC_nil (pq_of (d := AV.int IntKind.i64 i) (bs := []) (by kernel_rfl) (by kernel_rfl) allB_nil (by kernel_rfl) H)
    · have H := H.2 d9
      have k10 := H.1; have H := H.2
      have w11 : IntKind.i64.wrap (i + 1) = i + 1 := wI64 k10
      exact path_wp (G := given kp47 [(4, 4, .elem (AV.int IntKind.i64 (a.getD i.toNat default)))] []) 1000 [true, false] ⟨(atC (cd Try.f47) [1, 0, 1, 0, 0]), [(0, AV.vec fa 1 (List.map (AV.int IntKind.i64) a)), (1, AV.int IntKind.i64 x), (7, AV.int IntKind.i64 n), (8, AV.int IntKind.i64 (IntKind.i64.wrap (i + 1)))], [], [(decide (i < n)) == true, decide (0 ≤ i), decide (i.toNat < (List.map (AV.int IntKind.i64) a).length), (x == a.getD i.toNat default) == false], [((List.map (AV.int IntKind.i64) a).get?Internal i.toNat = some (AV.int IntKind.i64 (a.getD i.toNat default)))], []⟩ (by kernel_rfl) (allB_cons (beq_t (i1.2 d2)) (allB_cons (i3.2 k4) (allB_cons (i6.2 k7) (allB_cons (beq_f (fun h => d9 (i8.1 h))) allB_nil)))) (allP_cons (el_map k7) allP_nil) allC_nil (by rw [w11] <;> exact H)
  · have H := H.2 d2
    exact path_ret (G := given kp47 [] []) 1000 [false] (k := ((atC (cd Try.f47) [1, 1, 1])).tail) (env' := [(4, AV.int IntKind.i64 (-1))]) (L' := []) (asm := [(decide (i < n)) == false]) (eqs := []) (calls := []) (AV.int IntKind.i64 (-1)) (by kernel_rfl) (by kernel_rfl) (allB_cons (beq_f (fun h => d2 (i1.1 h))) allB_nil) allP_nil allC_nil (pq_of (d := AV.int IntKind.i64 (-1)) (bs := []) (by kernel_rfl) (by kernel_rfl) allB_nil (by kernel_rfl) H)

theorem v46 (fa : Bool) (a : List Int) (dq : AV) (H :
    (((↑a.length : Int) < 1) → False) ∧
    (¬((↑a.length : Int) < 1) → (0 < a.length) ∧
      v46a_at (fa) (a) (a.getD 0 default) (1) (PureQ dq))) :
  v46_at fa a (PureQ dq) := by
  unfold v46_at
  have w1 : (List.map (AV.int IntKind.i64) a).length = a.length := List.length_map ..
  have i2 : (decide ((↑(List.map (AV.int IntKind.i64) a).length : Int) < 1)) = true ↔ ((↑a.length : Int) < 1) := (by rw [w1] <;> exact i_dec)
  rcases Classical.em ((↑a.length : Int) < 1) with d3 | d3
  · have H := H.1 d3
    exact False.elim H
  · have H := H.2 d3
    have i4 : (decide (0 < (List.map (AV.int IntKind.i64) a).length)) = true ↔ (0 < a.length) := (by rw [w1] <;> exact i_dec)
    have k5 := H.1; have H := H.2
    exact path_wp (G := given kp46 [(3, 2, .elem (AV.int IntKind.i64 (a.getD 0 default)))] []) 1000 [false] ⟨(atC (cd Try.f46) [1, 1, 1, 0, 1, 0, 0]), [(0, AV.vec fa 1 (List.map (AV.int IntKind.i64) a)), (3, AV.int IntKind.i64 (a.getD 0 default)), (4, AV.int IntKind.i64 1)], [], [(decide ((↑(List.map (AV.int IntKind.i64) a).length : Int) < 1)) == false, true, decide (0 < (List.map (AV.int IntKind.i64) a).length)], [((List.map (AV.int IntKind.i64) a).get?Internal 0 = some (AV.int IntKind.i64 (a.getD 0 default)))], []⟩ (by kernel_rfl) (allB_cons (beq_f (fun h => d3 (i2.1 h))) (allB_cons rfl (allB_cons (i4.2 k5) allB_nil))) (allP_cons (el_map k5) allP_nil) allC_nil (H)

theorem v46a (fa : Bool) (a : List Int) (m i : Int) (dq : AV) (H :
    ((i < (↑a.length : Int)) → (0 ≤ i) ∧
      (i.toNat < a.length) ∧
      (-9223372036854775808 ≤ i + 1 ∧ i + 1 ≤ 9223372036854775807) ∧
      v46a_at (fa) (a) (if a.getD i.toNat default < m then a.getD i.toNat default else m) (i + 1) (PureQ dq)) ∧
    (¬(i < (↑a.length : Int)) → AV.int IntKind.i64 m = dq)) :
  v46a_at fa a m i (PureQ dq) := by
  unfold v46a_at
  have w1 : (List.map (AV.int IntKind.i64) a).length = a.length := List.length_map ..
  have i2 : (decide (i < (↑(List.map (AV.int IntKind.i64) a).length : Int))) = true ↔ (i < (↑a.length : Int)) := (by rw [w1] <;> exact i_dec)
  rcases Classical.em (i < (↑a.length : Int)) with d3 | d3
  · have H := H.1 d3
    have i4 : (decide (0 ≤ i)) = true ↔ (0 ≤ i) := i_dec
    have k5 := H.1; have H := H.2
    have i6 : (decide (i.toNat < (List.map (AV.int IntKind.i64) a).length)) = true ↔ (i.toNat < a.length) := (by rw [w1] <;> exact i_dec)
    have k7 := H.1; have H := H.2
    have k8 := H.1; have H := H.2
    have w9 : IntKind.i64.wrap (i + 1) = i + 1 := wI64 k8
    exact path_wp (G := given kp46 [(7, 4, .elem (AV.int IntKind.i64 (a.getD i.toNat default)))] []) 1000 [true] ⟨(atC (cd Try.f46) [1, 1, 1, 0, 1, 0, 0]), [(0, AV.vec fa 1 (List.map (AV.int IntKind.i64) a)), (3, AV.int IntKind.i64 (if a.getD i.toNat default < m then a.getD i.toNat default else m)), (4, AV.int IntKind.i64 (IntKind.i64.wrap (i + 1)))], [], [(decide (i < (↑(List.map (AV.int IntKind.i64) a).length : Int))) == true, decide (0 ≤ i), decide (i.toNat < (List.map (AV.int IntKind.i64) a).length)], [((List.map (AV.int IntKind.i64) a).get?Internal i.toNat = some (AV.int IntKind.i64 (a.getD i.toNat default)))], []⟩ (by kernel_rfl) (allB_cons (beq_t (i2.2 d3)) (allB_cons (i4.2 k5) (allB_cons (i6.2 k7) allB_nil))) (allP_cons (el_map k7) allP_nil) allC_nil (by rw [w9] <;> exact H)
  · have H := H.2 d3
    exact path_ret (G := given kp46 [] []) 1000 [false] (k := ((atC (cd Try.f46) [1, 1, 1, 1, 1])).tail) (env' := [(2, AV.int IntKind.i64 m)]) (L' := []) (asm := [(decide (i < (↑(List.map (AV.int IntKind.i64) a).length : Int))) == false]) (eqs := []) (calls := []) (AV.int IntKind.i64 m) (by kernel_rfl) (by kernel_rfl) (allB_cons (beq_f (fun h => d3 (i2.1 h))) allB_nil) allP_nil allC_nil (pq_of (d := AV.int IntKind.i64 m) (bs := []) (by kernel_rfl) (by kernel_rfl) allB_nil (by kernel_rfl) H)


end Go.Av

/- LEAST SPANNING TREES: any two runs that always take a cheapest pair have equal sums, and none costs more than another tree. No program in sight. -/
namespace Go.Av

/-! Lists of numbers below n. -/
theorem il_le : ∀ (n : Nat) (o : List Int), o.Nodup → (∀ x ∈ o, 0 ≤ x ∧ x < n) → o.length ≤ n
  | 0, o, _, h => by
    cases o with
    | nil => simp
    | cons x o => exact absurd (h x (by simp)) (by omega)
  | n + 1, o, hd, h => by
    have h1 := il_le n (o.erase n) (hd.erase _) (fun x hx => by
      have h2 := h x (List.mem_of_mem_erase hx)
      have h3 : x ≠ n := by rintro rfl; exact (List.Nodup.not_mem_erase hd) hx
      omega)
    rw [List.length_erase] at h1
    split at h1 <;> omega
theorem il_ge : ∀ (n : Nat) (o : List Int), (∀ j : Nat, j < n → (j : Int) ∈ o) → n ≤ o.length
  | 0, _, _ => by omega
  | n + 1, o, h => by
    have h1 := il_ge n (o.erase n) (fun j hj => (List.mem_erase_of_ne (by omega)).2 (h j (by omega)))
    have h2 := h n (by omega)
    have h3 := List.length_pos_of_mem h2
    rw [List.length_erase, if_pos (by simpa using h2)] at h1
    omega
theorem il_full {n : Nat} {o : List Int} (hd : o.Nodup) (h : ∀ x ∈ o, 0 ≤ x ∧ x < n) (hl : o.length = n) (j : Nat) (hj : j < n) : (j : Int) ∈ o := by
  by_cases hm : (j : Int) ∈ o
  · exact hm
  · have := il_le n (j :: o) (List.nodup_cons.2 ⟨hm, hd⟩) (by
      intro x hx
      rcases List.mem_cons.1 hx with rfl | hx
      · omega
      · exact h x hx)
    simp at this; omega

namespace Mst
def cost (c : Int → Int → Int) : List (Int × Int) → Int
  | [] => 0
  | e :: E => c e.1 e.2 + cost c E

/-- Led to from S by pairs of E. -/
inductive Conn (E : List (Int × Int)) (S : List Int) : Int → Prop
  | base {x} : x ∈ S → Conn E S x
  | step {a b} : Conn E S a → ((a, b) ∈ E ∨ (b, a) ∈ E) → Conn E S b

/-- Led to from b outside of S. -/
inductive Out (E : List (Int × Int)) (S : List Int) (b : Int) : Int → Prop
  | refl : b ∉ S → Out E S b b
  | step {x y} : Out E S b x → ((x, y) ∈ E ∨ (y, x) ∈ E) → y ∉ S → Out E S b y

/-- A run that adds a cheapest pair each time. -/
inductive Prim (c : Int → Int → Int) (n : Nat) : List Int → Int → Prop
  | full {S} : S.length = n → Prim c n S 0
  | step {S} {a v m r : Int} : a ∈ S → v ∉ S → 0 ≤ v ∧ v < n → m = c a v → (∀ x ∈ S, ∀ y : Int, 0 ≤ y ∧ y < n → y ∉ S → m ≤ c x y) → Prim c n (S ++ [v]) r → Prim c n S (m + r)

theorem out_notin {E : List (Int × Int)} {S : List Int} {b x : Int} (h : Out E S b x) : x ∉ S := by
  cases h with
  | refl h => exact h
  | step _ _ h => exact h

theorem cross {E : List (Int × Int)} {S : List Int} {v : Int} (h : Conn E S v) (hv : v ∉ S) : ∃ a b, ((a, b) ∈ E ∨ (b, a) ∈ E) ∧ a ∈ S ∧ b ∉ S ∧ Out E S b v := by
  induction h with
  | base h => exact absurd h hv
  | @step a b ha he ih =>
    by_cases hs : a ∈ S
    · exact ⟨a, b, he, hs, hv, .refl hv⟩
    · obtain ⟨a', b', h1, h2, h3, h4⟩ := ih hs
      exact ⟨a', b', h1, h2, h3, .step h4 he hv⟩

theorem cost_erase {c : Int → Int → Int} {e : Int × Int} : ∀ {E : List (Int × Int)}, e ∈ E → cost c (E.erase e) + c e.1 e.2 = cost c E
  | [], h => by simp at h
  | f :: E, h => by
    by_cases hf : f = e
    · subst hf; simp only [List.erase_cons_head, cost]; omega
    · rw [List.erase_cons_tail (by simpa using hf)]
      have := cost_erase (c := c) (E := E) (by simpa [Ne.symm hf] using h)
      simp only [cost]; omega

/-- One pair across is left out, and v is taken in. -/
theorem exchange {E : List (Int × Int)} {S : List Int} {v a b : Int} {e : Int × Int} (he : e = (a, b) ∨ e = (b, a)) (ha : a ∈ S) (hout : Out E S b v) (x : Int) (h : Conn E S x) : Conn (E.erase e) (v :: S) x := by
  have stay : ∀ p q, (p, q) ∈ E → p ∉ S → q ∉ S → (p, q) ∈ E.erase e := by
    intro p q h hp hq
    refine (List.mem_erase_of_ne ?_).2 h
    rintro rfl
    rcases he with he | he <;> (injection he with h1 h2; subst h1; subst h2)
    · exact hp ha
    · exact hq ha
  have back : ∀ y, Out E S b y → Conn (E.erase e) (v :: S) y → Conn (E.erase e) (v :: S) b := by
    intro y hy
    induction hy with
    | refl => exact id
    | @step p q hp hpq hq ih =>
      intro hc
      refine ih (.step hc ?_)
      rcases hpq with h | h
      · exact .inr (stay _ _ h (out_notin hp) hq)
      · exact .inl (stay _ _ h hq (out_notin hp))
  have hb := back v hout (.base (by simp))
  induction h with
  | base h => exact .base (by simp [h])
  | @step p q hp hpq ih =>
    have use : ∀ f : Int × Int, f ∈ E → (f = (p, q) ∨ f = (q, p)) → Conn (E.erase e) (v :: S) q := by
      intro f hf hfe
      by_cases hfe2 : f = e
      · have : q = a ∨ q = b := by
          subst hfe2
          rcases he with he | he <;> rcases hfe with hfe | hfe <;> (rw [he] at hfe; injection hfe with h1 h2; subst h1; subst h2; simp)
        rcases this with rfl | rfl
        · exact .base (by simp [ha])
        · exact hb
      · have hm := (List.mem_erase_of_ne hfe2).2 hf
        rcases hfe with rfl | rfl
        · exact .step ih (.inl hm)
        · exact .step ih (.inr hm)
    rcases hpq with h | h
    · exact use _ h (.inl rfl)
    · exact use _ h (.inr rfl)

theorem conn_from {E : List (Int × Int)} {S T : List Int} (h : ∀ y ∈ S, Conn E T y) {x : Int} (hx : Conn E S x) : Conn E T x := by
  induction hx with
  | base k => exact h _ k
  | step _ hpq ih => exact .step ih hpq

theorem prim_le {c : Int → Int → Int} {n : Nat} (hc : ∀ i j, c i j = c j i) {S : List Int} {r : Int} (h : Prim c n S r) : ∀ E : List (Int × Int), (∀ e ∈ E, (0 ≤ e.1 ∧ e.1 < n) ∧ 0 ≤ e.2 ∧ e.2 < n) → E.length + S.length = n → (∀ x : Int, 0 ≤ x ∧ x < n → Conn E S x) → r ≤ cost c E := by
  induction h with
  | full h => intro E _ hl _; have : E = [] := List.length_eq_zero_iff.1 (by omega); subst this; exact Int.le_refl _
  | @step S a v m r ha hv hvn hm hmin _ ih =>
    intro E hE hl hconn
    obtain ⟨p, q, h1, h2, h3, h4⟩ := cross (hconn v hvn) hv
    have main : ∀ e : Int × Int, e ∈ E → (e = (p, q) ∨ e = (q, p)) → m + r ≤ cost c E := by
      intro e he hpq
      have hq : 0 ≤ q ∧ q < n := by
        have := hE e he
        rcases hpq with rfl | rfl
        · exact this.2
        · exact this.1
      have hcost := cost_erase (c := c) he
      have hle := hmin p h2 q hq h3
      have hce : c e.1 e.2 = c p q := by
        rcases hpq with rfl | rfl
        · rfl
        · exact hc _ _
      have hlen : (E.erase e).length = E.length - 1 := by rw [List.length_erase, if_pos (by simpa using he)]
      have hpos : 0 < E.length := List.length_pos_of_mem he
      have := ih (E.erase e) (fun f hf => hE f (List.mem_of_mem_erase hf)) (by simp only [List.length_append, List.length_singleton]; omega)
        (fun x hx => conn_from (fun y hy => .base (by rcases List.mem_cons.1 hy with rfl | hy <;> simp [*])) (exchange hpq h2 h4 x (hconn x hx)))
      omega
    rcases h1 with h1 | h1
    · exact main _ h1 (.inl rfl)
    · exact main _ h1 (.inr rfl)

theorem prim_tree {c : Int → Int → Int} {n : Nat} {S : List Int} {r : Int} (h : Prim c n S r) : S.Nodup → (∀ x ∈ S, 0 ≤ x ∧ x < n) → ∃ E : List (Int × Int), (∀ e ∈ E, (0 ≤ e.1 ∧ e.1 < n) ∧ 0 ≤ e.2 ∧ e.2 < n) ∧ E.length + S.length = n ∧ (∀ x : Int, 0 ≤ x ∧ x < n → Conn E S x) ∧ cost c E = r := by
  induction h with
  | full h =>
    intro hd hS
    refine ⟨[], by simp, by simpa using h, fun x hx => .base ?_, rfl⟩
    have := il_full hd hS h x.toNat (by omega)
    rwa [Int.toNat_of_nonneg hx.1] at this
  | @step S a v m r ha hv hvn hm hmin _ ih =>
    intro hd hS
    obtain ⟨E, h1, h2, h3, h4⟩ := ih (by
      rw [List.nodup_append]
      refine ⟨hd, by simp, ?_⟩
      intro x hx y hy
      simp only [List.mem_singleton] at hy
      subst hy
      rintro rfl
      exact hv hx) (by
      intro x hx
      rcases List.mem_append.1 hx with hx | hx
      · exact hS x hx
      · simp only [List.mem_singleton] at hx; subst hx; exact hvn)
    refine ⟨(a, v) :: E, ?_, by simp only [List.length_cons, List.length_append, List.length_nil] at h2 ⊢; omega, fun x hx => ?_, by rw [cost, h4, hm]⟩
    · intro e he
      rcases List.mem_cons.1 he with rfl | he
      · exact ⟨hS a ha, hvn⟩
      · exact h1 e he
    · have := h3 x hx
      induction this with
      | base h =>
        rcases List.mem_append.1 h with h | h
        · exact .base h
        · simp only [List.mem_singleton] at h
          subst h
          exact .step (.base ha) (.inl (by simp))
      | @step p q _ hpq ih =>
        refine .step (ih ?_) ?_
        · rcases hpq with h | h
          · exact (h1 _ h).1
          · exact (h1 _ h).2
        · rcases hpq with h | h
          · exact .inl (by simp [h])
          · exact .inr (by simp [h])

theorem prim_unique {c : Int → Int → Int} {n : Nat} (hc : ∀ i j, c i j = c j i) {S : List Int} {r r' : Int} (hd : S.Nodup) (hS : ∀ x ∈ S, 0 ≤ x ∧ x < n) (h : Prim c n S r) (h' : Prim c n S r') : r = r' := by
  obtain ⟨E, h1, h2, h3, h4⟩ := prim_tree h hd hS
  obtain ⟨E', k1, k2, k3, k4⟩ := prim_tree h' hd hS
  have a := prim_le hc h E' k1 k2 k3
  have b := prim_le hc h' E h1 h2 h3
  omega

theorem least_of {α : Type} (f : α → Int) : ∀ (l : List α), l ≠ [] → ∃ a ∈ l, ∀ b ∈ l, f a ≤ f b
  | [], h => absurd rfl h
  | [a], _ => ⟨a, by simp, by simp⟩
  | a :: b :: l, _ => by
    obtain ⟨x, h1, h2⟩ := least_of f (b :: l) (by simp)
    by_cases h : f a ≤ f x
    · refine ⟨a, by simp, fun y hy => ?_⟩
      rcases List.mem_cons.1 hy with rfl | hy
      · exact Int.le_refl _
      · exact Int.le_trans h (h2 y hy)
    · refine ⟨x, List.mem_cons_of_mem _ h1, fun y hy => ?_⟩
      rcases List.mem_cons.1 hy with rfl | hy
      · omega
      · exact h2 y hy

theorem nodup_snoc {S : List Int} {v : Int} (hd : S.Nodup) (hv : v ∉ S) : (S ++ [v]).Nodup := by
  rw [List.nodup_append]
  refine ⟨hd, by simp, ?_⟩
  intro x hx y hy
  simp only [List.mem_singleton] at hy
  subst hy
  rintro rfl
  exact hv hx
theorem rng_snoc {S : List Int} {v : Int} {n : Nat} (h : ∀ x ∈ S, 0 ≤ x ∧ x < (n : Int)) (hv : 0 ≤ v ∧ v < n) : ∀ x ∈ S ++ [v], 0 ≤ x ∧ x < (n : Int) := by
  intro x hx
  rcases List.mem_append.1 hx with hx | hx
  · exact h x hx
  · simp only [List.mem_singleton] at hx; subst hx; exact hv

theorem prim_exists {c : Int → Int → Int} {n : Nat} : ∀ (k : Nat) (S : List Int), S.length + k = n → S.Nodup → (∀ x ∈ S, 0 ≤ x ∧ x < n) → S ≠ [] → ∃ r, Prim c n S r
  | 0, S, hl, _, _, _ => ⟨0, .full hl⟩
  | k + 1, S, hl, hd, hS, h0 => by
    obtain ⟨s0, S', hs⟩ := List.exists_cons_of_ne_nil h0
    have hs0 : s0 ∈ S := by simp [hs]
    let L : List (Int × Int) := S.flatMap fun x => ((List.range n).filter fun (y : Nat) => decide ((y : Int) ∉ S)).map fun (y : Nat) => (x, (y : Int))
    have mem : ∀ x y, (x, y) ∈ L ↔ x ∈ S ∧ (0 ≤ y ∧ y < n) ∧ y ∉ S := by
      intro x y
      simp only [L, List.mem_flatMap, List.mem_map, List.mem_filter, List.mem_range, decide_eq_true_eq, Prod.mk.injEq]
      constructor
      · rintro ⟨a, ha, b, ⟨hb, hb2⟩, rfl, rfl⟩; exact ⟨ha, by omega, hb2⟩
      · rintro ⟨h1, h2, h3⟩
        exact ⟨x, h1, y.toNat, ⟨by omega, by rwa [Int.toNat_of_nonneg h2.1]⟩, rfl, by omega⟩
    have hne : L ≠ [] := by
      intro he
      have : ∀ j : Nat, j < n → (j : Int) ∈ S := by
        intro j hj
        by_cases hm : (j : Int) ∈ S
        · exact hm
        · have := (mem s0 j).2 ⟨hs0, by omega, hm⟩
          rw [he] at this; simp at this
      have := il_ge n S this
      omega
    obtain ⟨⟨a, v⟩, h1, h2⟩ := least_of (fun e : Int × Int => c e.1 e.2) L hne
    obtain ⟨m1, m2, m3⟩ := (mem a v).1 h1
    obtain ⟨r, hr⟩ := prim_exists k (S ++ [v]) (by simp; omega) (nodup_snoc hd m3) (rng_snoc hS m2) (by simp)
    exact ⟨_, .step m1 m3 m2 rfl (fun x hx y hy hyS => h2 (x, y) ((mem x y).2 ⟨hx, hy, hyS⟩)) hr⟩

/-- What is still to be paid. -/
noncomputable def rem (c : Int → Int → Int) (n : Nat) (S : List Int) : Int := Classical.epsilon (Prim c n S)
theorem rem_spec {c : Int → Int → Int} {n : Nat} {S : List Int} (hd : S.Nodup) (hS : ∀ x ∈ S, 0 ≤ x ∧ x < (n : Int)) (h0 : S ≠ []) : Prim c n S (rem c n S) :=
  Classical.epsilon_spec (prim_exists (n - S.length) S (by have := il_le n S hd hS; omega) hd hS h0)
theorem rem_full {c : Int → Int → Int} {n : Nat} (hc : ∀ i j, c i j = c j i) {S : List Int} (hd : S.Nodup) (hS : ∀ x ∈ S, 0 ≤ x ∧ x < (n : Int)) (h0 : S ≠ []) (h : S.length = n) : rem c n S = 0 :=
  prim_unique hc hd hS (rem_spec hd hS h0) (.full h)
theorem rem_step {c : Int → Int → Int} {n : Nat} (hc : ∀ i j, c i j = c j i) {S : List Int} {a v m : Int} (hd : S.Nodup) (hS : ∀ x ∈ S, 0 ≤ x ∧ x < (n : Int)) (ha : a ∈ S) (hv : v ∉ S) (hvn : 0 ≤ v ∧ v < n) (hm : m = c a v)
    (hmin : ∀ x ∈ S, ∀ y, 0 ≤ y ∧ y < (n : Int) → y ∉ S → m ≤ c x y) : rem c n S = m + rem c n (S ++ [v]) :=
  prim_unique hc hd hS (rem_spec hd hS (List.ne_nil_of_mem ha)) (.step ha hv hvn hm hmin (rem_spec (nodup_snoc hd hv) (rng_snoc hS hvn) (by simp)))

/-- The pairs of a way. -/
def pairs : List Int → List (Int × Int)
  | [] => []
  | [_] => []
  | x :: y :: o => (x, y) :: pairs (y :: o)

theorem pairs_mem : ∀ (o : List Int) {e : Int × Int}, e ∈ pairs o → e.1 ∈ o ∧ e.2 ∈ o
  | [], _, h => by simp [pairs] at h
  | [_], _, h => by simp [pairs] at h
  | x :: y :: o, e, h => by
    rw [pairs] at h
    rcases List.mem_cons.1 h with rfl | h
    · simp
    · have := pairs_mem (y :: o) h
      exact ⟨List.mem_cons_of_mem _ this.1, List.mem_cons_of_mem _ this.2⟩

theorem pairs_len : ∀ (x : Int) (o : List Int), (pairs (x :: o)).length = o.length
  | _, [] => rfl
  | x, y :: o => by rw [pairs, List.length_cons, pairs_len y o, List.length_cons]

theorem conn_more {E F : List (Int × Int)} {S : List Int} (h : ∀ e ∈ E, e ∈ F) {x : Int} (hx : Conn E S x) : Conn F S x := by
  induction hx with
  | base h => exact .base h
  | step _ hpq ih =>
    refine .step ih ?_
    rcases hpq with k | k
    · exact .inl (h _ k)
    · exact .inr (h _ k)

theorem pairs_conn : ∀ (x : Int) (o : List Int) (y : Int), y ∈ x :: o → Conn (pairs (x :: o)) [x] y
  | x, [], y, h => .base h
  | x, z :: o, y, h => by
    rcases List.mem_cons.1 h with rfl | h
    · exact .base (by simp)
    · have := conn_more (F := pairs (x :: z :: o)) (fun e he => by rw [pairs]; simp [he]) (pairs_conn z o y h)
      refine conn_from (fun w hw => ?_) this
      simp only [List.mem_singleton] at hw; subst hw
      exact Conn.step (a := x) (.base (by simp)) (.inl (by simp [pairs]))

/-- No run costs more than a way over all. -/
theorem rem_way {c : Int → Int → Int} {n : Nat} (hc : ∀ i j, c i j = c j i) {x : Int} {o : List Int} (hd : (x :: o).Nodup) (ho : ∀ y ∈ x :: o, 0 ≤ y ∧ y < (n : Int)) (hl : (x :: o).length = n) : rem c n [x] ≤ cost c (pairs (x :: o)) := by
  refine prim_le hc (rem_spec (by simp) (by simpa using ho x (by simp)) (by simp)) _ (fun e he => ?_) ?_ (fun y hy => pairs_conn x o y ?_)
  · have := pairs_mem _ he
    exact ⟨ho _ this.1, ho _ this.2⟩
  · rw [pairs_len]; simpa using hl
  · have := il_full hd ho hl y.toNat (by omega)
    rwa [Int.toNat_of_nonneg hy.1] at this
end Mst
end Go.Av

/- WHAT THE SMALL HELPERS ANSWER: equal lists, membership, the least number. -/
namespace Go.Av
open Go.Proofs

namespace Sp
def same (a b : List Int) : Bool := decide (a = b)
def has (a : List Int) (x : Int) : Bool := decide (x ∈ a)
def index (a : List Int) (x : Int) : Int := if x ∈ a then (a.idxOf x : Nat) else -1
def minL (a : List Int) : Int := (a.drop 1).foldl (fun m x => if x < m then x else m) (a.getD 0 default)
end Sp
theorem same_iff {a b : List Int} : Sp.same a b = true ↔ a = b := decide_eq_true_iff
theorem has_iff {a : List Int} {x : Int} : Sp.has a x = true ↔ x ∈ a := decide_eq_true_iff
theorem index_iff {a : List Int} {x : Int} : Sp.index a x ≥ 0 ↔ x ∈ a := by
  unfold Sp.index
  split
  · rename_i h; simp [h]
  · rename_i h; simp [h]

theorem loop18 {fa fb : Bool} {a b : List Int} {dq : AV} (hl : a.length = b.length) (hb : a.length ≤ 1000000) : ∀ (k i : Nat), i + k = a.length → AV.bool (Sp.same (a.drop i) (b.drop i)) = dq → v18a_at fa fb a b i (PureQ dq) := by
  intro k
  induction k with
  | zero =>
    intro i hi hq
    rw [List.drop_eq_nil_of_le (by omega), List.drop_eq_nil_of_le (by omega)] at hq
    exact v18a _ _ _ _ _ _ ⟨fun h => by omega, fun _ => hq⟩
  | succ k ih =>
    intro i hi hq
    refine v18a _ _ _ _ _ _ ⟨fun _ => ⟨by omega, by omega, by omega, ?_⟩, fun h => by omega⟩
    rw [Int.toNat_natCast]
    rw [drop_getD (show i < a.length by omega), drop_getD (show i < b.length by omega)] at hq
    generalize a.getD i default = p at hq
    generalize b.getD i default = q at hq
    refine ⟨fun h => ?_, fun h => ⟨by omega, ih (i + 1) (by omega) ?_⟩⟩
    · rw [← hq]; unfold Sp.same; congr 1; symm; simp [h]
    · rw [← hq]; unfold Sp.same
      have h := Classical.not_not.1 h
      congr 1; simp [h]

theorem ev18 (fa fb : Bool) (a b : List Int) (h : a.length ≤ 1000000) : Ev M1 (.pure 18 [isA fa a, isA fb b]) (.bool (Sp.same a b)) [] := by
  refine call18 (v18 fa fb a b _ ⟨fun h => ?_, fun k => loop18 (by omega) h _ 0 (Nat.zero_add _) rfl⟩)
  unfold Sp.same; congr 1; symm; simp; intro e; subst e; exact h rfl

theorem loop35 {fa : Bool} {a : List Int} {x : Int} {dq : AV} (hb : a.length ≤ 1000000) : ∀ (k i : Nat), i + k = a.length → AV.bool (Sp.has (a.drop i) x) = dq → v35a_at fa a x i (PureQ dq) := by
  intro k
  induction k with
  | zero =>
    intro i hi hq
    rw [List.drop_eq_nil_of_le (by omega)] at hq
    exact v35a _ _ _ _ _ ⟨fun h => by omega, fun _ => hq⟩
  | succ k ih =>
    intro i hi hq
    refine v35a _ _ _ _ _ ⟨fun _ => ⟨by omega, by omega, ?_⟩, fun h => by omega⟩
    rw [Int.toNat_natCast]
    rw [drop_getD (show i < a.length by omega)] at hq
    generalize a.getD i default = p at hq
    refine ⟨fun h => ?_, fun h => ⟨by omega, ih (i + 1) (by omega) ?_⟩⟩
    · rw [← hq]; unfold Sp.has; congr 1; symm; simp [← h]
    · rw [← hq]; unfold Sp.has
      congr 1; simp [Ne.symm h]

theorem ev35 (fa : Bool) (a : List Int) (x : Int) (h : a.length ≤ 1000000) : Ev M1 (.pure 35 [isA fa a, .int .i64 x]) (.bool (Sp.has a x)) [] :=
  call35 (v35 fa a x _ (loop35 h _ 0 (Nat.zero_add _) rfl))

theorem loop47 {fa : Bool} {a : List Int} {x : Int} {dq : AV} (hb : a.length ≤ 1000000) : ∀ (k i : Nat), i + k = a.length → AV.int .i64 (if x ∈ a.drop i then (i + (a.drop i).idxOf x : Nat) else -1) = dq → v47a_at fa a x a.length i (PureQ dq) := by
  intro k
  induction k with
  | zero =>
    intro i hi hq
    rw [List.drop_eq_nil_of_le (by omega)] at hq
    exact v47a _ _ _ _ _ _ ⟨fun h => by omega, fun _ => hq⟩
  | succ k ih =>
    intro i hi hq
    refine v47a _ _ _ _ _ _ ⟨fun _ => ⟨by omega, by omega, ?_⟩, fun h => by omega⟩
    rw [Int.toNat_natCast]
    rw [drop_getD (show i < a.length by omega)] at hq
    generalize a.getD i default = p at hq
    refine ⟨fun h => ?_, fun h => ⟨by omega, ih (i + 1) (by omega) ?_⟩⟩
    · rw [← hq, if_pos (by simp [← h]), h, List.idxOf_cons_self]; rfl
    · rw [← hq]
      congr 1
      by_cases hm : x ∈ a.drop (i + 1)
      · have e : (p == x) = false := by simpa using Ne.symm h
        rw [if_pos hm, if_pos (by simp [hm]), List.idxOf_cons, e, cond_false]; congr 1; omega
      · rw [if_neg hm, if_neg (by simpa [hm] using h)]

theorem ev47 (fa : Bool) (a : List Int) (x : Int) (h : a.length ≤ 1000000) : Ev M1 (.pure 47 [isA fa a, .int .i64 x]) (.int .i64 (Sp.index a x)) [] := by
  refine call47 (v47 fa a x _ (loop47 h _ 0 (Nat.zero_add _) ?_))
  simp [Sp.index]

theorem loop46 {fa : Bool} {a : List Int} {dq : AV} (hb : a.length ≤ 1000000) : ∀ (k i : Nat) (m : Int), i + k = a.length → AV.int .i64 ((a.drop i).foldl (fun m x => if x < m then x else m) m) = dq → v46a_at fa a m i (PureQ dq) := by
  intro k
  induction k with
  | zero =>
    intro i m hi hq
    rw [List.drop_eq_nil_of_le (by omega)] at hq
    exact v46a _ _ _ _ _ ⟨fun h => by omega, fun _ => hq⟩
  | succ k ih =>
    intro i m hi hq
    refine v46a _ _ _ _ _ ⟨fun _ => ⟨by omega, by omega, by omega, ?_⟩, fun h => by omega⟩
    rw [Int.toNat_natCast]
    rw [drop_getD (show i < a.length by omega), List.foldl_cons] at hq
    exact ih (i + 1) _ (by omega) hq

theorem ev46 (fa : Bool) (a : List Int) (h : a.length ≤ 1000000 ∧ 0 < a.length) : Ev M1 (.pure 46 [isA fa a]) (.int .i64 (Sp.minL a)) [] :=
  call46 (v46 fa a _ ⟨fun k => by omega, fun _ => ⟨h.2, loop46 h.1 (a.length - 1) 1 _ (by omega) rfl⟩⟩)

end Go.Av

/- WHAT Nearest ANSWERS. -/
namespace Go.Av
open Go.Proofs

namespace Sp
/-- The nearest one of the positions from i on (k of them) that are not in 'out'. -/
def next (gs : List G2) (out : List Int) (a : Int) : Nat → Nat → Int → Int
  | 0, _, nx => nx
  | k + 1, i, nx => next gs out a k (i + 1) (if (i : Int) ∉ out ∧ (nx < 0 ∨ dAt gs a i < dAt gs a nx) then i else nx)
/-- The rest of an order that always continues with the nearest position. -/
def near (gs : List G2) : Nat → List Int → Int → List Int
  | 0, out, _ => out
  | k + 1, out, a => if a < 0 then out else near gs k (out ++ [a]) (next gs (out ++ [a]) a gs.length 0 (-1))
def nearest (gs : List G2) : List Int := near gs gs.length [] 0
end Sp

/-- A position that is not in 'out', or none where there is none. -/
def nxt (gs : List G2) (out : List Int) (nx : Int) : Prop := (nx = -1 ∧ ∀ j : Nat, j < gs.length → (j : Int) ∈ out) ∨ (0 ≤ nx ∧ nx < gs.length ∧ nx ∉ out)

theorem next_facts {gs : List G2} {out : List Int} {a : Int} : ∀ (k i : Nat) (nx : Int), i + k = gs.length → ((nx = -1 ∧ ∀ j : Nat, j < i → (j : Int) ∈ out) ∨ (0 ≤ nx ∧ nx < gs.length ∧ nx ∉ out)) → nxt gs out (Sp.next gs out a k i nx)
  | 0, i, nx, hi, h => by
    rw [Nat.add_zero] at hi; subst hi; exact h
  | k + 1, i, nx, hi, h => by
    rw [Sp.next]
    refine next_facts k (i + 1) _ (by omega) ?_
    split
    · rename_i hc; exact .inr ⟨by omega, by omega, hc.1⟩
    · rename_i hc
      rcases h with ⟨h1, h2⟩ | h
      · refine .inl ⟨h1, fun j hj => ?_⟩
        by_cases hji : j = i
        · subst hji
          by_cases hm : (j : Int) ∈ out
          · exact hm
          · exact absurd ⟨hm, .inl (by omega)⟩ hc
        · exact h2 j (by omega)
      · exact .inr h

/-- Facts of an order that grows. -/
structure NearI (gs : List G2) (k : Nat) (out : List Int) (a : Int) : Prop where
  len : out.length + k = gs.length
  nod : out.Nodup
  rng : ∀ x ∈ out, 0 ≤ x ∧ x < gs.length
  at_ : nxt gs out a

theorem NearI.stop {gs : List G2} {out : List Int} {a : Int} (h : NearI gs 0 out a) : a = -1 := by
  rcases h.at_ with h1 | h1
  · exact h1.1
  · have := il_full h.nod h.rng (by have := h.len; omega) a.toNat (by omega)
    rw [Int.toNat_of_nonneg h1.1] at this
    exact absurd this h1.2.2
theorem NearI.go {gs : List G2} {k : Nat} {out : List Int} {a : Int} (h : NearI gs (k + 1) out a) : 0 ≤ a ∧ a < gs.length ∧ a ∉ out := by
  rcases h.at_ with h1 | h1
  · have := il_ge _ _ h1.2
    have := h.len
    omega
  · exact h1
theorem NearI.next {gs : List G2} {k : Nat} {out : List Int} {a : Int} (h : NearI gs (k + 1) out a) : NearI gs k (out ++ [a]) (Sp.next gs (out ++ [a]) a gs.length 0 (-1)) := by
  obtain ⟨h1, h2, h3⟩ := h.go
  refine ⟨by have := h.len; simp; omega, ?_, ?_, next_facts _ 0 _ (by omega) (.inl ⟨rfl, fun j hj => by omega⟩)⟩
  · rw [List.nodup_append]
    refine ⟨h.nod, by simp, ?_⟩
    intro x hx y hy
    simp only [List.mem_singleton] at hy
    subst hy
    rintro rfl
    exact h3 hx
  · intro x hx
    rcases List.mem_append.1 hx with hx | hx
    · exact h.rng x hx
    · simp only [List.mem_singleton] at hx; subst hx; exact ⟨h1, h2⟩
theorem NearI.start {gs : List G2} : NearI gs gs.length [] (if gs.length = 0 then -1 else 0) := by
  refine ⟨by simp, by simp, by simp, ?_⟩
  split
  · rename_i h; exact .inl ⟨rfl, fun j hj => by omega⟩
  · exact .inr ⟨by omega, by omega, by simp⟩

/-- An order of all positions. -/
structure IsOrd (n : Nat) (o : List Int) : Prop where
  len : o.length = n
  nod : o.Nodup
  rng : ∀ x ∈ o, 0 ≤ x ∧ x < n
  zero : 0 < n → o.getD 0 default = 0

theorem near_ord {gs : List G2} : ∀ (k : Nat) {out : List Int} {a : Int}, NearI gs k out a → (out.getD 0 default = 0 ∧ out ≠ []) → IsOrd gs.length (Sp.near gs k out a)
  | 0, out, a, h, h0 => by rw [Sp.near]; exact ⟨by have := h.len; omega, h.nod, h.rng, fun _ => h0.1⟩
  | k + 1, out, a, h, h0 => by
    have := h.go
    rw [Sp.near, if_neg (by omega)]
    refine near_ord k h.next ⟨?_, by simp⟩
    cases out with
    | nil => exact absurd rfl h0.2
    | cons x o => simpa using h0.1
theorem nearest_ord (gs : List G2) : IsOrd gs.length (Sp.nearest gs) := by
  unfold Sp.nearest
  cases hn : gs.length with
  | zero => rw [Sp.near]; exact ⟨rfl, by simp, by simp, fun h => by omega⟩
  | succ k =>
    have h : NearI gs (k + 1) [] 0 := by
      have h := NearI.start (gs := gs)
      rw [if_neg (by omega), hn] at h
      exact h
    rw [Sp.near, if_neg (by omega)]
    rw [← hn]
    exact near_ord k h.next (by simp)

theorem loop17b {fl : Bool} {gs : List G2} {dn : List Bool} {a : Int} {o : List Int} {v : Nat} {dq : AV} (hg : Sp.okG gs) (hl : gs.length ≤ 1000) (hd : dn.length = gs.length) (hdn : ∀ j : Nat, j < gs.length → dn.getD j default = Sp.has o j) (ha : 0 ≤ a ∧ a < gs.length) :
    ∀ (k i : Nat) (nx : Int), i + k = gs.length → (nx < 0 ∨ (0 ≤ nx ∧ nx < gs.length)) → v17a_at fl gs dn (Sp.next gs o a k i nx) o v (PureQ dq) → v17b_at fl gs dn a nx gs.length i o v (PureQ dq) := by
  intro k
  induction k with
  | zero => intro i nx hi hn hq; exact v17b _ _ _ _ _ _ _ _ _ _ ⟨fun h => by omega, fun _ => hq⟩
  | succ k ih =>
    intro i nx hi hn hq
    rw [Sp.next] at hq
    refine v17b _ _ _ _ _ _ _ _ _ _ ⟨fun _ => ?_, fun h => by omega⟩
    rw [Int.toNat_natCast]
    have hdi := hdn i (by omega)
    have e : (¬dn.getD i default = true) ↔ (i : Int) ∉ o := by rw [hdi, has_iff]
    refine ⟨by omega, by omega, fun h => ⟨(okG_at hg _).1, (okG_at hg _).2, (okG_at hg _).1, (okG_at hg _).2⟩, fun h => ⟨(okG_at hg _).1, (okG_at hg _).2, (okG_at hg _).1, (okG_at hg _).2⟩, by omega, fun _ => ha.1, fun _ => by omega, fun h => by omega, fun h => by omega, fun h => ⟨by omega, ?_⟩, fun h => ⟨by omega, ?_⟩⟩
    · rw [e] at h
      rw [if_pos (show (i : Int) ∉ o ∧ (nx < 0 ∨ Sp.dAt gs a i < Sp.dAt gs a nx) from h)] at hq
      exact ih (i + 1) i (by omega) (by omega) hq
    · rw [e] at h
      rw [if_neg (show ¬((i : Int) ∉ o ∧ (nx < 0 ∨ Sp.dAt gs a i < Sp.dAt gs a nx)) from h)] at hq
      exact ih (i + 1) nx (by omega) hn hq

theorem has_app {o : List Int} {a : Int} {dn : List Bool} {n : Nat} (hd : dn.length = n) (hdn : ∀ j : Nat, j < n → dn.getD j default = Sp.has o j) (ha : 0 ≤ a ∧ a < n) (j : Nat) (hj : j < n) : (dn.set a.toNat true).getD j default = Sp.has (o ++ [a]) j := by
  rw [List.getD_eq_getElem?_getD, List.getElem?_set]
  split
  · rename_i e
    rw [if_pos (by omega)]
    have : (j : Int) = a := by omega
    simp [Sp.has, this]
  · rename_i e
    rw [← List.getD_eq_getElem?_getD, hdn j hj]
    have : (j : Int) ≠ a := by omega
    simp [Sp.has, this]

theorem loop17 {fl : Bool} {gs : List G2} {dq : AV} (hg : Sp.okG gs) (hl : gs.length ≤ 1000) :
    ∀ (k : Nat) (o : List Int) (dn : List Bool) (a : Int) (v : Nat), dn.length = gs.length → (∀ j : Nat, j < gs.length → dn.getD j default = Sp.has o j) → NearI gs k o a → isA false (Sp.near gs k o a) = dq → v17a_at fl gs dn a o v (PureQ dq) := by
  intro k
  induction k with
  | zero =>
    intro o dn a v hd hdn hI hq
    have := hI.stop
    rw [Sp.near] at hq
    exact v17a _ _ _ _ _ _ _ ⟨fun h => by omega, fun _ => by rw [← hq]; exact .refl _⟩
  | succ k ih =>
    intro o dn a v hd hdn hI hq
    have h := hI.go
    have hlen := hI.len
    rw [Sp.near, if_neg (by omega)] at hq
    refine v17a _ _ _ _ _ _ _ ⟨fun _ => ⟨by omega, by omega, by omega, ?_⟩, fun h => by omega⟩
    refine loop17b hg hl (by simpa using hd) (has_app hd hdn ⟨h.1, h.2.1⟩) ⟨h.1, h.2.1⟩ gs.length 0 (-1) (by omega) (by omega) ?_
    exact ih _ _ _ _ (by simpa using hd) (has_app hd hdn ⟨h.1, h.2.1⟩) hI.next hq

theorem ev17 (fl : Bool) (gs : List G2) (h : Sp.okG gs ∧ gs.length ≤ 1000) : Ev M1 (.pure 17 [gsA fl gs]) (isA false (Sp.nearest gs)) [] := by
  obtain ⟨hg, hl⟩ := h
  refine call17 (v17 fl gs _ ⟨by omega, by omega, by omega, ?_⟩)
  have hr : ∀ j : Nat, j < gs.length → (List.replicate (gs.length : Int).toNat false).getD j default = Sp.has [] j := by
    intro j hj
    simp [Sp.has, List.getD_eq_getElem?_getD, List.getElem?_replicate, hj]
  unfold Sp.nearest
  cases hn : gs.length with
  | zero =>
    refine v17z _ _ _ _ _ ⟨fun h => by omega, fun _ => ?_⟩
    rw [Sp.near]; exact .vnil 1
  | succ k =>
    have h : NearI gs (k + 1) [] 0 := by
      have h := NearI.start (gs := gs)
      rw [if_neg (by omega), hn] at h
      exact h
    have h0 := h.go
    rw [Sp.near, if_neg (by omega), ← hn]
    refine v17z _ _ _ _ _ ⟨fun _ => ⟨by omega, by simp; omega, ?_⟩, fun h => by omega⟩
    have hd : (List.replicate (gs.length : Int).toNat false).length = gs.length := by simp
    refine loop17b hg hl (by simp) (has_app (o := []) hd hr ⟨h0.1, h0.2.1⟩) ⟨h0.1, h0.2.1⟩ gs.length 0 (-1) (by omega) (by omega) ?_
    exact loop17 hg hl k _ _ _ _ (by simp) (has_app (o := []) hd hr ⟨h0.1, h0.2.1⟩) h.next rfl
end Go.Av

/- PATHS, written by a program of the prover's. -/
namespace Go.Av
open Go.Proofs
set_option maxRecDepth 100000
def fi45 : Fi := ⟨9, [.tmp 4]⟩
def kp45 : List (Nat × List Nat) := [(0, [0, 1]), (1, [4])]
def v45_at (fa : Bool) (a : List Int) (x : Int) (Q : AV → Heap → Prop) : Prop := Wp M1 (.run fi45 (atC (cd Try.f45) []) [(0, .vec fa 1 (a.map (.int .i64))), (1, .int .i64 x)] []) Q
theorem call45 {args : List AV} {d : AV} (h : Wp M1 (.run fi45 [.code (cd Try.f45)] (argVars 0 args) []) (PureQ d)) : Ev M1 (.pure 45 args) d [] :=
  pure_pq Try.f45 fi45 (by kernel_rfl) (by kernel_rfl) (by kernel_rfl) (by kernel_rfl) h
theorem owncall45 {args : List AV} {L : Heap} {Q : AV → Heap → Prop} (h : Wp M1 (.run fi45 [.code (cd Try.f45)] (argVars 0 args) L) Q) : Wp M1 (.own 45 args L) Q :=
  own_wp Try.f45 fi45 (by kernel_rfl) (by kernel_rfl) (by kernel_rfl) (by kernel_rfl) h
theorem keepcall45 {args : List AV} {L : Heap} {v : AV} {K : Heap} (hk : keepOk L.length v K = true) (h : Wp M1 (.run fi45 [.code (cd Try.f45)] (argVars 0 args) L) (KeepQ v K)) : Ev M1 (.own 45 args L) v K :=
  own_keep Try.f45 fi45 (by kernel_rfl) (by kernel_rfl) (by kernel_rfl) (by kernel_rfl) hk h
theorem v45 (fa : Bool) (a : List Int) (x : Int) (dq : AV) (H :
    (a.length ≤ 1000000) ∧
    AV.bool (decide (Sp.index a x ≥ 0)) = dq) :
  v45_at fa a x (PureQ dq) := by
  unfold v45_at
  have k1 := H.1; have H := H.2
  exact path_ret (G := given kp45 [(1, 2, .call (AV.int IntKind.i64 (Sp.index a x)) none)] []) 1000 [] (k := ((atC (cd Try.f45) [1, 1])).tail) (env' := [(4, AV.bool (decide (Sp.index a x ≥ 0)))]) (L' := []) (asm := []) (eqs := []) (calls := [⟨true, false, 47, [AV.vec fa 1 (List.map (AV.int IntKind.i64) a), AV.int IntKind.i64 x], [], AV.int IntKind.i64 (Sp.index a x), []⟩]) (AV.bool (decide (Sp.index a x ≥ 0))) (by kernel_rfl) (by kernel_rfl) allB_nil allP_nil (allC_cons (fun _ => ((@ev47 (fa) (a) (x) k1) : Ev M1 (Conf.pure 47 [AV.vec fa 1 (List.map (AV.int IntKind.i64) a), AV.int IntKind.i64 x]) (AV.int IntKind.i64 (Sp.index a x)) [])) allC_nil) (pq_of (d := AV.bool (decide (Sp.index a x ≥ 0))) (bs := []) (by kernel_rfl) (by kernel_rfl) allB_nil (by kernel_rfl) H)


end Go.Av

/- MEMBERSHIP once more: of nothing, and by the library's function. -/
namespace Go.Av
open Go.Proofs
theorem ev35_a (x : Int) : Ev M1 (.pure 35 [.vnil, .int .i64 x]) (.bool false) [] :=
  call35 (v35n x _ (v35na x _ rfl))
theorem ev45 (fa : Bool) (a : List Int) (x : Int) (h : a.length ≤ 1000000) : Ev M1 (.pure 45 [isA fa a, .int .i64 x]) (.bool (Sp.has a x)) [] := by
  refine call45 (v45 fa a x _ ⟨h, ?_⟩)
  congr 1
  unfold Sp.has
  simp only [decide_eq_decide]
  exact index_iff
end Go.Av

/- PATHS, written by a program of the prover's. -/
namespace Go.Av
open Go.Proofs
set_option maxRecDepth 100000
def fi19 : Fi := ⟨68, [.tmp 2]⟩
def kp19 : List (Nat × List Nat) := [(0, [0]), (1, [0, 3]), (2, [0, 3, 10]), (3, [0, 3, 4]), (4, [0, 3, 4, 5]), (5, [0, 3, 4, 5, 14]), (6, [0, 3, 4, 5]), (7, [0, 3, 4, 5, 28]), (8, [0, 3, 4, 5, 61]), (9, [0, 3, 4, 5]), (10, [0, 3]), (11, [2])]
def v19_at (fl : Bool) (gs : List G2) (Q : AV → Heap → Prop) : Prop := Wp M1 (.run fi19 (atC (cd Try.f19) []) [(0, .vec fl 2 (gs.map G2.a))] []) Q
def v19z_at (fl : Bool) (gs : List G2) (Q : AV → Heap → Prop) : Prop := Wp M1 (.run fi19 (atC (cd Try.f19) [1, 1, 0, 0, 0]) [(0, .vec fl 2 (gs.map G2.a)), (3, .vnil)] []) Q
def v19x_at (fl : Bool) (gs : List G2) (Q : AV → Heap → Prop) : Prop := Wp M1 (.run fi19 (atC (cd Try.f19) [1, 1, 0, 0, 0, 1, 0, 1, 0, 1, 0, 0]) [(0, .vec fl 2 (gs.map G2.a)), (3, .vnil), (4, .int .i64 (-1)), (5, .int .i64 0)] []) Q
def v19y_at (fl : Bool) (gs : List G2) (b i : Int) (Q : AV → Heap → Prop) : Prop := Wp M1 (.run fi19 (atC (cd Try.f19) [1, 1, 0, 0, 0, 1, 0, 1, 0, 1, 0, 0]) [(0, .vec fl 2 (gs.map G2.a)), (3, .vnil), (4, .int .i64 b), (5, .int .i64 i)] []) Q
def v19a_at (fl : Bool) (gs : List G2) (o : List Int) (v : Nat) (Q : AV → Heap → Prop) : Prop := Wp M1 (.run fi19 (atC (cd Try.f19) [1, 1, 0, 0, 0]) [(0, .vec fl 2 (gs.map G2.a)), (3, .row 0 v)] [⟨o.map (.int .i64), 1, v, false, true⟩]) Q
def v19b_at (fl : Bool) (gs : List G2) (o : List Int) (v : Nat) (b i : Int) (Q : AV → Heap → Prop) : Prop := Wp M1 (.run fi19 (atC (cd Try.f19) [1, 1, 0, 0, 0, 1, 0, 1, 0, 1, 0, 0]) [(0, .vec fl 2 (gs.map G2.a)), (3, .row 0 v), (4, .int .i64 b), (5, .int .i64 i)] [⟨o.map (.int .i64), 1, v, false, true⟩]) Q
theorem call19 {args : List AV} {d : AV} (h : Wp M1 (.run fi19 [.code (cd Try.f19)] (argVars 0 args) []) (PureQ d)) : Ev M1 (.pure 19 args) d [] :=
  pure_pq Try.f19 fi19 (by kernel_rfl) (by kernel_rfl) (by kernel_rfl) (by kernel_rfl) h
theorem owncall19 {args : List AV} {L : Heap} {Q : AV → Heap → Prop} (h : Wp M1 (.run fi19 [.code (cd Try.f19)] (argVars 0 args) L) Q) : Wp M1 (.own 19 args L) Q :=
  own_wp Try.f19 fi19 (by kernel_rfl) (by kernel_rfl) (by kernel_rfl) (by kernel_rfl) h
theorem keepcall19 {args : List AV} {L : Heap} {v : AV} {K : Heap} (hk : keepOk L.length v K = true) (h : Wp M1 (.run fi19 [.code (cd Try.f19)] (argVars 0 args) L) (KeepQ v K)) : Ev M1 (.own 19 args L) v K :=
  own_keep Try.f19 fi19 (by kernel_rfl) (by kernel_rfl) (by kernel_rfl) (by kernel_rfl) hk h
theorem v19 (fl : Bool) (gs : List G2) (dq : AV) (H :
    v19z_at (fl) (gs) (PureQ dq)) :
  v19_at fl gs (PureQ dq) := by
  unfold v19_at
  exact path_wp (G := given kp19 [] []) 1000 [] ⟨(atC (cd Try.f19) [1, 1, 0, 0, 0]), [(0, AV.vec fl 2 (List.map G2.a gs)), (3, AV.vnil)], [], [], [], []⟩ (by kernel_rfl) allB_nil allP_nil allC_nil (H)

theorem v19z (fl : Bool) (gs : List G2) (dq : AV) (H :
    ((0 < (↑gs.length : Int)) → v19x_at (fl) (gs) (PureQ dq)) ∧
    (¬(0 < (↑gs.length : Int)) → Weak (AV.vnil) dq)) :
  v19z_at fl gs (PureQ dq) := by
  unfold v19z_at
  have w1 : (List.map G2.a gs).length = gs.length := List.length_map ..
  have i2 : (decide (0 < (↑(List.map G2.a gs).length : Int))) = true ↔ (0 < (↑gs.length : Int)) := (by rw [w1] <;> exact i_dec)
  rcases Classical.em (0 < (↑gs.length : Int)) with d3 | d3
  · have H := H.1 d3
    exact path_wp (G := given kp19 [] []) 1000 [true] ⟨(atC (cd Try.f19) [1, 1, 0, 0, 0, 1, 0, 1, 0, 1, 0, 0]), [(0, AV.vec fl 2 (List.map G2.a gs)), (3, AV.vnil), (4, AV.int IntKind.i64 (-1)), (5, AV.int IntKind.i64 0)], [], [(decide (0 < (↑(List.map G2.a gs).length : Int))) == true], [], []⟩ (by kernel_rfl) (allB_cons (beq_t (i2.2 d3)) allB_nil) allP_nil allC_nil (H)
  · have H := H.2 d3
    exact path_ret (G := given kp19 [] []) 1000 [false] (k := ((atC (cd Try.f19) [1, 1, 1, 1])).tail) (env' := [(2, AV.vnil)]) (L' := []) (asm := [(decide (0 < (↑(List.map G2.a gs).length : Int))) == false]) (eqs := []) (calls := []) (AV.vnil) (by kernel_rfl) (by kernel_rfl) (allB_cons (beq_f (fun h => d3 (i2.1 h))) allB_nil) allP_nil allC_nil (pq_weak (d := AV.vnil) (bs := []) (by kernel_rfl) (by kernel_rfl) allB_nil (by kernel_rfl) H)

theorem v19x (fl : Bool) (gs : List G2) (dq : AV) (H :
    ((0 < (↑gs.length : Int)) → ((false = true) → (0 < gs.length)) ∧
      v19y_at (fl) (gs) (0) (1) (PureQ dq)) ∧
    (¬(0 < (↑gs.length : Int)) → v19a_at (fl) (gs) ([-1]) (0) (PureQ dq))) :
  v19x_at fl gs (PureQ dq) := by
  unfold v19x_at
  have w1 : (List.map G2.a gs).length = gs.length := List.length_map ..
  have i2 : (decide (0 < (↑(List.map G2.a gs).length : Int))) = true ↔ (0 < (↑gs.length : Int)) := (by rw [w1] <;> exact i_dec)
  rcases Classical.em (0 < (↑gs.length : Int)) with d3 | d3
  · have H := H.1 d3
    have i4 : (false) = true ↔ (false = true) := (i_var _)
    have k5 := H.1; have H := H.2
    have i6 : (false) = true ↔ (false = true) := (i_var _)
    exact path_wp (G := given kp19 [(7, 2, .call (AV.bool false) none), (8, 15, .elem (AV.agg [AV.int IntKind.i64 (gs.getD 0 default).x, AV.int IntKind.i64 (gs.getD 0 default).y])), (8, 29, .elem (AV.agg [AV.int IntKind.i64 (gs.getD 0 default).x, AV.int IntKind.i64 (gs.getD 0 default).y]))] []) 1000 [true, false, true] ⟨(atC (cd Try.f19) [1, 1, 0, 0, 0, 1, 0, 1, 0, 1, 0, 0]), [(0, AV.vec fl 2 (List.map G2.a gs)), (3, AV.vnil), (4, AV.int IntKind.i64 0), (5, AV.int IntKind.i64 1)], [], [(decide (0 < (↑(List.map G2.a gs).length : Int))) == true, false == false, true, true, true, true, true == true], [(false = true → (List.map G2.a gs).get?Internal 0 = some (AV.agg [AV.int IntKind.i64 (gs.getD 0 default).x, AV.int IntKind.i64 (gs.getD 0 default).y])), (false = true → (List.map G2.a gs).get?Internal 0 = some (AV.agg [AV.int IntKind.i64 (gs.getD 0 default).x, AV.int IntKind.i64 (gs.getD 0 default).y]))], [⟨true, false, 35, [AV.vnil, AV.int IntKind.i64 0], [], AV.bool false, []⟩]⟩ (by kernel_rfl) (allB_cons (beq_t (i2.2 d3)) (allB_cons rfl (allB_cons rfl (allB_cons rfl (allB_cons rfl (allB_cons rfl (allB_cons rfl allB_nil))))))) (allP_cons (fun h => el_map (k5 (i4.1 h))) (allP_cons (fun h => el_map (k5 (i6.1 h))) allP_nil)) (allC_cons (fun _ => ((@ev35_a (0)) : Ev M1 (Conf.pure 35 [AV.vnil, AV.int IntKind.i64 0]) (AV.bool false) [])) allC_nil) (H)
  · have H := H.2 d3
    have w7 : [AV.int IntKind.i64 (-1)] = List.map (AV.int IntKind.i64) [-1] := rfl
    exact path_wp (G := given kp19 [] []) 1000 [false] ⟨(atC (cd Try.f19) [1, 1, 0, 0, 0]), [(0, AV.vec fl 2 (List.map G2.a gs)), (3, AV.row 0 0)], [{ elems := [AV.int IntKind.i64 (-1)], es := 1, ver := 0, frozen := false, clean := true }], [(decide (0 < (↑(List.map G2.a gs).length : Int))) == false, true], [], []⟩ (by kernel_rfl) (allB_cons (beq_f (fun h => d3 (i2.1 h))) (allB_cons rfl allB_nil)) allP_nil allC_nil (by rw [w7] <;> exact H)

theorem v19y (fl : Bool) (gs : List G2) (b i : Int) (dq : AV) (H :
    ((i < (↑gs.length : Int)) → ((i > 0) → (-9223372036854775808 ≤ i + 1 ∧ i + 1 ≤ 9223372036854775807) ∧
        v19y_at (fl) (gs) (b) (i + 1) (PureQ dq)) ∧
      (¬(i > 0) → False)) ∧
    (¬(i < (↑gs.length : Int)) → v19a_at (fl) (gs) ([b]) (0) (PureQ dq))) :
  v19y_at fl gs b i (PureQ dq) := by
  unfold v19y_at
  have w1 : (List.map G2.a gs).length = gs.length := List.length_map ..
  have i2 : (decide (i < (↑(List.map G2.a gs).length : Int))) = true ↔ (i < (↑gs.length : Int)) := (by rw [w1] <;> exact i_dec)
  rcases Classical.em (i < (↑gs.length : Int)) with d3 | d3
  · have H := H.1 d3
    have i4 : (decide (i > 0)) = true ↔ (i > 0) := i_dec
    rcases Classical.em (i > 0) with d5 | d5
    · have H := H.1 d5
      have k6 := H.1; have H := H.2
      have w7 : IntKind.i64.wrap (i + 1) = i + 1 := wI64 k6
      exact path_wp (G := given kp19 [(7, 2, .call (AV.bool false) none)] []) 1000 [true, true] ⟨(atC (cd Try.f19) [1, 1, 0, 0, 0, 1, 0, 1, 0, 1, 0, 0]), [(0, AV.vec fl 2 (List.map G2.a gs)), (3, AV.vnil), (4, AV.int IntKind.i64 b), (5, AV.int IntKind.i64 (IntKind.i64.wrap (i + 1)))], [], [(decide (i < (↑(List.map G2.a gs).length : Int))) == true, (decide (i > 0)) == true], [], [⟨true, false, 35, [AV.vnil, AV.int IntKind.i64 i], [], AV.bool false, []⟩]⟩ (by kernel_rfl) (allB_cons (beq_t (i2.2 d3)) (allB_cons (beq_t (i4.2 d5)) allB_nil)) allP_nil (allC_cons (fun _ => ((@ev35_a (i)) : Ev M1 (Conf.pure 35 [AV.vnil, AV.int IntKind.i64 i]) (AV.bool false) [])) allC_nil) (by rw [w7] <;> exact H)
    · have H := H.2 d5
      exact False.elim H
  · have H := H.2 d3
    have w8 : [AV.int IntKind.i64 b] = List.map (AV.int IntKind.i64) [b] := rfl
    exact path_wp (G := given kp19 [] []) 1000 [false] ⟨(atC (cd Try.f19) [1, 1, 0, 0, 0]), [(0, AV.vec fl 2 (List.map G2.a gs)), (3, AV.row 0 0)], [{ elems := [AV.int IntKind.i64 b], es := 1, ver := 0, frozen := false, clean := true }], [(decide (i < (↑(List.map G2.a gs).length : Int))) == false, true], [], []⟩ (by kernel_rfl) (allB_cons (beq_f (fun h => d3 (i2.1 h))) (allB_cons rfl allB_nil)) allP_nil allC_nil (by rw [w8] <;> exact H)

theorem v19a (fl : Bool) (gs : List G2) (o : List Int) (v : Nat) (dq : AV) (H :
    (((↑o.length : Int) < (↑gs.length : Int)) → v19b_at (fl) (gs) (o) (v) (-1) (0) (PureQ dq)) ∧
    (¬((↑o.length : Int) < (↑gs.length : Int)) → Weak (AV.vec false 1 (List.map (AV.int IntKind.i64) o)) dq)) :
  v19a_at fl gs o v (PureQ dq) := by
  unfold v19a_at
  have w1 : (List.map (AV.int IntKind.i64) o).length = o.length := List.length_map ..
  have w2 : (List.map G2.a gs).length = gs.length := List.length_map ..
  have i3 : (decide ((↑(List.map (AV.int IntKind.i64) o).length : Int) < (↑(List.map G2.a gs).length : Int))) = true ↔ ((↑o.length : Int) < (↑gs.length : Int)) := (by rw [w1, w2] <;> exact i_dec)
  rcases Classical.em ((↑o.length : Int) < (↑gs.length : Int)) with d4 | d4
  · have H := H.1 d4
    exact path_wp (G := given kp19 [] []) 1000 [true] ⟨(atC (cd Try.f19) [1, 1, 0, 0, 0, 1, 0, 1, 0, 1, 0, 0]), [(0, AV.vec fl 2 (List.map G2.a gs)), (3, AV.row 0 v), (4, AV.int IntKind.i64 (-1)), (5, AV.int IntKind.i64 0)], [{ elems := List.map (AV.int IntKind.i64) o, es := 1, ver := v, frozen := false, clean := true }], [v == v, (decide ((↑(List.map (AV.int IntKind.i64) o).length : Int) < (↑(List.map G2.a gs).length : Int))) == true], [], []⟩ (by kernel_rfl) (allB_cons (beq_self_eq_true _) (allB_cons (beq_t (i3.2 d4)) allB_nil)) allP_nil allC_nil (H)
  · have H := H.2 d4
    exact path_ret (G := given kp19 [] []) 1000 [false] (k := ((atC (cd Try.f19) [1, 1, 1, 1])).tail) (env' := [(2, AV.row 0 v)]) (L' := [{ elems := List.map (AV.int IntKind.i64) o, es := 1, ver := v, frozen := false, clean := true }]) (asm := [v == v, (decide ((↑(List.map (AV.int IntKind.i64) o).length : Int) < (↑(List.map G2.a gs).length : Int))) == false]) (eqs := []) (calls := []) (AV.row 0 v) (by kernel_rfl) (by kernel_rfl) (allB_cons (beq_self_eq_true _) (allB_cons (beq_f (fun h => d4 (i3.1 h))) allB_nil)) allP_nil allC_nil (pq_weak (d := AV.vec false 1 (List.map (AV.int IntKind.i64) o)) (bs := [v == v]) (by kernel_rfl) (by kernel_rfl) (allB_cons (beq_self_eq_true _) allB_nil) (by kernel_rfl) H)

theorem v19b (fl : Bool) (gs : List G2) (o : List Int) (v : Nat) (b i : Int) (dq : AV) (H :
    ((i < (↑gs.length : Int)) → (o.length ≤ 1000000) ∧
      (((Sp.has o i = true) ∨ (((↑o.length : Int) = 0) ∧ (i > 0))) → (-9223372036854775808 ≤ i + 1 ∧ i + 1 ≤ 9223372036854775807) ∧
        v19b_at (fl) (gs) (o) (v) (b) (i + 1) (PureQ dq)) ∧
      (¬((Sp.has o i = true) ∨ (((↑o.length : Int) = 0) ∧ (i > 0))) → (-9223372036854775808 ≤ (↑o.length : Int) - 1 ∧ (↑o.length : Int) - 1 ≤ 9223372036854775807) ∧
        ((¬(b < 0)) → (Sp.inM (gs.getD (o.getD ((↑o.length : Int) - 1).toNat default).toNat default).x ∧ Sp.inM (gs.getD (o.getD ((↑o.length : Int) - 1).toNat default).toNat default).y ∧ Sp.inM (gs.getD i.toNat default).x ∧ Sp.inM (gs.getD i.toNat default).y)) ∧
        ((¬(b < 0)) → (Sp.inM (gs.getD (o.getD ((↑o.length : Int) - 1).toNat default).toNat default).x ∧ Sp.inM (gs.getD (o.getD ((↑o.length : Int) - 1).toNat default).toNat default).y ∧ Sp.inM (gs.getD b.toNat default).x ∧ Sp.inM (gs.getD b.toNat default).y)) ∧
        ((¬(b < 0)) → (0 ≤ (↑o.length : Int) - 1)) ∧
        ((¬(b < 0)) → (((↑o.length : Int) - 1).toNat < o.length)) ∧
        ((¬(b < 0)) → (0 ≤ o.getD ((↑o.length : Int) - 1).toNat default)) ∧
        ((¬(b < 0)) → ((o.getD ((↑o.length : Int) - 1).toNat default).toNat < gs.length)) ∧
        ((¬(b < 0)) → (0 ≤ i)) ∧
        ((¬(b < 0)) → (i.toNat < gs.length)) ∧
        ((¬(b < 0)) → (0 ≤ b)) ∧
        ((¬(b < 0)) → (b.toNat < gs.length)) ∧
        (((b < 0) ∨ (Sp.dist (gs.getD (o.getD ((↑o.length : Int) - 1).toNat default).toNat default).x (gs.getD (o.getD ((↑o.length : Int) - 1).toNat default).toNat default).y (gs.getD i.toNat default).x (gs.getD i.toNat default).y < Sp.dist (gs.getD (o.getD ((↑o.length : Int) - 1).toNat default).toNat default).x (gs.getD (o.getD ((↑o.length : Int) - 1).toNat default).toNat default).y (gs.getD b.toNat default).x (gs.getD b.toNat default).y)) → (-9223372036854775808 ≤ i + 1 ∧ i + 1 ≤ 9223372036854775807) ∧
          v19b_at (fl) (gs) (o) (v) (i) (i + 1) (PureQ dq)) ∧
        (¬((b < 0) ∨ (Sp.dist (gs.getD (o.getD ((↑o.length : Int) - 1).toNat default).toNat default).x (gs.getD (o.getD ((↑o.length : Int) - 1).toNat default).toNat default).y (gs.getD i.toNat default).x (gs.getD i.toNat default).y < Sp.dist (gs.getD (o.getD ((↑o.length : Int) - 1).toNat default).toNat default).x (gs.getD (o.getD ((↑o.length : Int) - 1).toNat default).toNat default).y (gs.getD b.toNat default).x (gs.getD b.toNat default).y)) → (-9223372036854775808 ≤ i + 1 ∧ i + 1 ≤ 9223372036854775807) ∧
          v19b_at (fl) (gs) (o) (v) (b) (i + 1) (PureQ dq)))) ∧
    (¬(i < (↑gs.length : Int)) → ((o.length + 1) * 8 ≤ 1099511627776) ∧
      v19a_at (fl) (gs) (o ++ [b]) (v + 1) (PureQ dq))) :
  v19b_at fl gs o v b i (PureQ dq) := by
  unfold v19b_at
  have w1 : (List.map G2.a gs).length = gs.length := List.length_map ..
  have i2 : (decide (i < (↑(List.map G2.a gs).length : Int))) = true ↔ (i < (↑gs.length : Int)) := (by rw [w1] <;> exact i_dec)
  rcases Classical.em (i < (↑gs.length : Int)) with d3 | d3
  · have H := H.1 d3
    have k4 := H.1; have H := H.2
    have i5 : (!(Sp.has o i == false && true) || v == v) = true ↔ ((¬(Sp.has o i = true)) → (v = v)) := (i_imp (i_at (i_bf (i_var _))) i_eq)
    have w6 : (List.map (AV.int IntKind.i64) o).length = o.length := List.length_map ..
    have i7 : (bif Sp.has o i then true else bif (↑(List.map (AV.int IntKind.i64) o).length : Int) == 0 then decide (i > 0) else false) = true ↔ ((Sp.has o i = true) ∨ (((↑o.length : Int) = 0) ∧ (i > 0))) := (by rw [w6] <;> exact (i_bor (i_var _) (i_band i_eq i_dec)))
    rcases Classical.em ((Sp.has o i = true) ∨ (((↑o.length : Int) = 0) ∧ (i > 0))) with d8 | d8
    · have H := H.1 d8
      have k9 := H.1; have H := H.2
      have w10 : IntKind.i64.wrap (i + 1) = i + 1 := wI64 k9
      exact path_wp (G := given kp19 [(7, 2, .call (AV.bool (Sp.has o i)) none)] []) 1000 [true, true] ⟨(atC (cd Try.f19) [1, 1, 0, 0, 0, 1, 0, 1, 0, 1, 0, 0]), [(0, AV.vec fl 2 (List.map G2.a gs)), (3, AV.row 0 v), (4, AV.int IntKind.i64 b), (5, AV.int IntKind.i64 (IntKind.i64.wrap (i + 1)))], [{ elems := List.map (AV.int IntKind.i64) o, es := 1, ver := v, frozen := false, clean := true }], [(decide (i < (↑(List.map G2.a gs).length : Int))) == true, v == v, !(Sp.has o i == false && true) || v == v, (bif Sp.has o i then true else bif (↑(List.map (AV.int IntKind.i64) o).length : Int) == 0 then decide (i > 0) else false) == true], [], [⟨true, false, 35, [AV.vec false 1 (List.map (AV.int IntKind.i64) o), AV.int IntKind.i64 i], [], AV.bool (Sp.has o i), []⟩]⟩ (by kernel_rfl) (allB_cons (beq_t (i2.2 d3)) (allB_cons (beq_self_eq_true _) (allB_cons (i5.2 (fun _ => rfl)) (allB_cons (beq_t (i7.2 d8)) allB_nil)))) allP_nil (allC_cons (fun _ => ((@ev35 (false) (o) (i) k4) : Ev M1 (Conf.pure 35 [AV.vec false 1 (List.map (AV.int IntKind.i64) o), AV.int IntKind.i64 i]) (AV.bool (Sp.has o i)) [])) allC_nil) (by rw [w10] <;> exact H)
    · have H := H.2 d8
      have k11 := H.1; have H := H.2
      have w12 : IntKind.i64.wrap ((↑o.length : Int) - 1) = (↑o.length : Int) - 1 := wI64 k11
      have i13 : (decide (b < 0) == false && true && true) = true ↔ (¬(b < 0)) := (i_at (i_at (i_bf i_dec)))
      have k14 := H.1; have H := H.2
      have i15 : (decide (b < 0) == false && true && true) = true ↔ (¬(b < 0)) := (i_at (i_at (i_bf i_dec)))
      have k16 := H.1; have H := H.2
      have i17 : (!(decide (b < 0) == false && true) || v == v) = true ↔ ((¬(b < 0)) → (v = v)) := (i_imp (i_at (i_bf i_dec)) i_eq)
      have i18 : (!(decide (b < 0) == false && true) || v == v) = true ↔ ((¬(b < 0)) → (v = v)) := (i_imp (i_at (i_bf i_dec)) i_eq)
      have i19 : (!(decide (b < 0) == false && true) || decide (0 ≤ IntKind.i64.wrap ((↑(List.map (AV.int IntKind.i64) o).length : Int) - 1))) = true ↔ ((¬(b < 0)) → (0 ≤ (↑o.length : Int) - 1)) := (by rw [w6, w12] <;> exact (i_imp (i_at (i_bf i_dec)) i_dec))
      have k20 := H.1; have H := H.2
      have i21 : (!(decide (b < 0) == false && true) || decide ((IntKind.i64.wrap ((↑(List.map (AV.int IntKind.i64) o).length : Int) - 1)).toNat < (List.map (AV.int IntKind.i64) o).length)) = true ↔ ((¬(b < 0)) → (((↑o.length : Int) - 1).toNat < o.length)) := (by rw [w6, w12] <;> exact (i_imp (i_at (i_bf i_dec)) i_dec))
      have k22 := H.1; have H := H.2
      have i23 : (!(decide (b < 0) == false && true) || v == v) = true ↔ ((¬(b < 0)) → (v = v)) := (i_imp (i_at (i_bf i_dec)) i_eq)
      have i24 : (!(decide (b < 0) == false && true) || decide (0 ≤ o.getD ((↑o.length : Int) - 1).toNat default)) = true ↔ ((¬(b < 0)) → (0 ≤ o.getD ((↑o.length : Int) - 1).toNat default)) := (i_imp (i_at (i_bf i_dec)) i_dec)
      have k25 := H.1; have H := H.2
      have i26 : (!(decide (b < 0) == false && true) || decide ((o.getD ((↑o.length : Int) - 1).toNat default).toNat < (List.map G2.a gs).length)) = true ↔ ((¬(b < 0)) → ((o.getD ((↑o.length : Int) - 1).toNat default).toNat < gs.length)) := (by rw [w1] <;> exact (i_imp (i_at (i_bf i_dec)) i_dec))
      have k27 := H.1; have H := H.2
      have i28 : (!(decide (b < 0) == false && true) || decide (0 ≤ i)) = true ↔ ((¬(b < 0)) → (0 ≤ i)) := (i_imp (i_at (i_bf i_dec)) i_dec)
      have k29 := H.1; have H := H.2
      have i30 : (!(decide (b < 0) == false && true) || decide (i.toNat < (List.map G2.a gs).length)) = true ↔ ((¬(b < 0)) → (i.toNat < gs.length)) := (by rw [w1] <;> exact (i_imp (i_at (i_bf i_dec)) i_dec))
      have k31 := H.1; have H := H.2
      have i32 : (!(decide (b < 0) == false && true) || v == v) = true ↔ ((¬(b < 0)) → (v = v)) := (i_imp (i_at (i_bf i_dec)) i_eq)
      have i33 : (!(decide (b < 0) == false && true) || v == v) = true ↔ ((¬(b < 0)) → (v = v)) := (i_imp (i_at (i_bf i_dec)) i_eq)
      have i34 : (!(decide (b < 0) == false && true) || decide (0 ≤ IntKind.i64.wrap ((↑(List.map (AV.int IntKind.i64) o).length : Int) - 1))) = true ↔ ((¬(b < 0)) → (0 ≤ (↑o.length : Int) - 1)) := (by rw [w6, w12] <;> exact (i_imp (i_at (i_bf i_dec)) i_dec))
      have i35 : (!(decide (b < 0) == false && true) || decide ((IntKind.i64.wrap ((↑(List.map (AV.int IntKind.i64) o).length : Int) - 1)).toNat < (List.map (AV.int IntKind.i64) o).length)) = true ↔ ((¬(b < 0)) → (((↑o.length : Int) - 1).toNat < o.length)) := (by rw [w6, w12] <;> exact (i_imp (i_at (i_bf i_dec)) i_dec))
      have i36 : (!(decide (b < 0) == false && true) || v == v) = true ↔ ((¬(b < 0)) → (v = v)) := (i_imp (i_at (i_bf i_dec)) i_eq)
      have i37 : (!(decide (b < 0) == false && true) || decide (0 ≤ o.getD ((↑o.length : Int) - 1).toNat default)) = true ↔ ((¬(b < 0)) → (0 ≤ o.getD ((↑o.length : Int) - 1).toNat default)) := (i_imp (i_at (i_bf i_dec)) i_dec)
      have i38 : (!(decide (b < 0) == false && true) || decide ((o.getD ((↑o.length : Int) - 1).toNat default).toNat < (List.map G2.a gs).length)) = true ↔ ((¬(b < 0)) → ((o.getD ((↑o.length : Int) - 1).toNat default).toNat < gs.length)) := (by rw [w1] <;> exact (i_imp (i_at (i_bf i_dec)) i_dec))
      have i39 : (!(decide (b < 0) == false && true) || decide (0 ≤ b)) = true ↔ ((¬(b < 0)) → (0 ≤ b)) := (i_imp (i_at (i_bf i_dec)) i_dec)
      have k40 := H.1; have H := H.2
      have i41 : (!(decide (b < 0) == false && true) || decide (b.toNat < (List.map G2.a gs).length)) = true ↔ ((¬(b < 0)) → (b.toNat < gs.length)) := (by rw [w1] <;> exact (i_imp (i_at (i_bf i_dec)) i_dec))
      have k42 := H.1; have H := H.2
      have i43 : (decide (b < 0) == false && true) = true ↔ (¬(b < 0)) := (i_at (i_bf i_dec))
      have i44 : (decide (b < 0) == false && true) = true ↔ (¬(b < 0)) := (i_at (i_bf i_dec))
      have i45 : (decide (b < 0) == false && true) = true ↔ (¬(b < 0)) := (i_at (i_bf i_dec))
      have i46 : (decide (b < 0) == false && true) = true ↔ (¬(b < 0)) := (i_at (i_bf i_dec))
      have i47 : (decide (b < 0) == false && true) = true ↔ (¬(b < 0)) := (i_at (i_bf i_dec))
      have i48 : (decide (b < 0) == false && true) = true ↔ (¬(b < 0)) := (i_at (i_bf i_dec))
      have i49 : (bif decide (b < 0) then true else decide (Sp.dist (gs.getD (o.getD ((↑o.length : Int) - 1).toNat default).toNat default).x (gs.getD (o.getD ((↑o.length : Int) - 1).toNat default).toNat default).y (gs.getD i.toNat default).x (gs.getD i.toNat default).y < Sp.dist (gs.getD (o.getD ((↑o.length : Int) - 1).toNat default).toNat default).x (gs.getD (o.getD ((↑o.length : Int) - 1).toNat default).toNat default).y (gs.getD b.toNat default).x (gs.getD b.toNat default).y)) = true ↔ ((b < 0) ∨ (Sp.dist (gs.getD (o.getD ((↑o.length : Int) - 1).toNat default).toNat default).x (gs.getD (o.getD ((↑o.length : Int) - 1).toNat default).toNat default).y (gs.getD i.toNat default).x (gs.getD i.toNat default).y < Sp.dist (gs.getD (o.getD ((↑o.length : Int) - 1).toNat default).toNat default).x (gs.getD (o.getD ((↑o.length : Int) - 1).toNat default).toNat default).y (gs.getD b.toNat default).x (gs.getD b.toNat default).y)) := (i_bor i_dec i_dec)
      rcases Classical.em ((b < 0) ∨ (Sp.dist (gs.getD (o.getD ((↑o.length : Int) - 1).toNat default).toNat default).x (gs.getD (o.getD ((↑o.length : Int) - 1).toNat default).toNat default).y (gs.getD i.toNat default).x (gs.getD i.toNat default).y < Sp.dist (gs.getD (o.getD ((↑o.length : Int) - 1).toNat default).toNat default).x (gs.getD (o.getD ((↑o.length : Int) - 1).toNat default).toNat default).y (gs.getD b.toNat default).x (gs.getD b.toNat default).y)) with d50 | d50
      · have H := H.1 d50
        have k51 := H.1; have H := H.2
        have w52 : IntKind.i64.wrap (i + 1) = i + 1 := wI64 k51
        exact path_wp (G := given kp19 [(7, 2, .call (AV.bool (Sp.has o i)) none), (8, 9, .elem (AV.int IntKind.i64 (o.getD ((↑o.length : Int) - 1).toNat default))), (8, 11, .elem (AV.agg [AV.int IntKind.i64 (gs.getD (o.getD ((↑o.length : Int) - 1).toNat default).toNat default).x, AV.int IntKind.i64 (gs.getD (o.getD ((↑o.length : Int) - 1).toNat default).toNat default).y])), (8, 15, .elem (AV.agg [AV.int IntKind.i64 (gs.getD i.toNat default).x, AV.int IntKind.i64 (gs.getD i.toNat default).y])), (8, 16, .call (AV.int IntKind.i64 (Sp.dist (gs.getD (o.getD ((↑o.length : Int) - 1).toNat default).toNat default).x (gs.getD (o.getD ((↑o.length : Int) - 1).toNat default).toNat default).y (gs.getD i.toNat default).x (gs.getD i.toNat default).y)) none), (8, 23, .elem (AV.int IntKind.i64 (o.getD ((↑o.length : Int) - 1).toNat default))), (8, 25, .elem (AV.agg [AV.int IntKind.i64 (gs.getD (o.getD ((↑o.length : Int) - 1).toNat default).toNat default).x, AV.int IntKind.i64 (gs.getD (o.getD ((↑o.length : Int) - 1).toNat default).toNat default).y])), (8, 29, .elem (AV.agg [AV.int IntKind.i64 (gs.getD b.toNat default).x, AV.int IntKind.i64 (gs.getD b.toNat default).y])), (8, 30, .call (AV.int IntKind.i64 (Sp.dist (gs.getD (o.getD ((↑o.length : Int) - 1).toNat default).toNat default).x (gs.getD (o.getD ((↑o.length : Int) - 1).toNat default).toNat default).y (gs.getD b.toNat default).x (gs.getD b.toNat default).y)) none)] []) 1000 [true, false, true] ⟨(atC (cd Try.f19) [1, 1, 0, 0, 0, 1, 0, 1, 0, 1, 0, 0]), [(0, AV.vec fl 2 (List.map G2.a gs)), (3, AV.row 0 v), (4, AV.int IntKind.i64 i), (5, AV.int IntKind.i64 (IntKind.i64.wrap (i + 1)))], [{ elems := List.map (AV.int IntKind.i64) o, es := 1, ver := v, frozen := false, clean := true }], [(decide (i < (↑(List.map G2.a gs).length : Int))) == true, v == v, !(Sp.has o i == false && true) || v == v, (bif Sp.has o i then true else bif (↑(List.map (AV.int IntKind.i64) o).length : Int) == 0 then decide (i > 0) else false) == false, !(decide (b < 0) == false && true) || v == v, !(decide (b < 0) == false && true) || v == v, !(decide (b < 0) == false && true) || decide (0 ≤ IntKind.i64.wrap ((↑(List.map (AV.int IntKind.i64) o).length : Int) - 1)), !(decide (b < 0) == false && true) || decide ((IntKind.i64.wrap ((↑(List.map (AV.int IntKind.i64) o).length : Int) - 1)).toNat < (List.map (AV.int IntKind.i64) o).length), !(decide (b < 0) == false && true) || v == v, !(decide (b < 0) == false && true) || decide (0 ≤ o.getD ((↑o.length : Int) - 1).toNat default), !(decide (b < 0) == false && true) || decide ((o.getD ((↑o.length : Int) - 1).toNat default).toNat < (List.map G2.a gs).length), !(decide (b < 0) == false && true) || decide (0 ≤ i), !(decide (b < 0) == false && true) || decide (i.toNat < (List.map G2.a gs).length), !(decide (b < 0) == false && true) || v == v, !(decide (b < 0) == false && true) || v == v, !(decide (b < 0) == false && true) || decide (0 ≤ IntKind.i64.wrap ((↑(List.map (AV.int IntKind.i64) o).length : Int) - 1)), !(decide (b < 0) == false && true) || decide ((IntKind.i64.wrap ((↑(List.map (AV.int IntKind.i64) o).length : Int) - 1)).toNat < (List.map (AV.int IntKind.i64) o).length), !(decide (b < 0) == false && true) || v == v, !(decide (b < 0) == false && true) || decide (0 ≤ o.getD ((↑o.length : Int) - 1).toNat default), !(decide (b < 0) == false && true) || decide ((o.getD ((↑o.length : Int) - 1).toNat default).toNat < (List.map G2.a gs).length), !(decide (b < 0) == false && true) || decide (0 ≤ b), !(decide (b < 0) == false && true) || decide (b.toNat < (List.map G2.a gs).length), (bif decide (b < 0) then true else decide (Sp.dist (gs.getD (o.getD ((↑o.length : Int) - 1).toNat default).toNat default).x (gs.getD (o.getD ((↑o.length : Int) - 1).toNat default).toNat default).y (gs.getD i.toNat default).x (gs.getD i.toNat default).y < Sp.dist (gs.getD (o.getD ((↑o.length : Int) - 1).toNat default).toNat default).x (gs.getD (o.getD ((↑o.length : Int) - 1).toNat default).toNat default).y (gs.getD b.toNat default).x (gs.getD b.toNat default).y)) == true], [((decide (b < 0) == false && true) = true → (List.map (AV.int IntKind.i64) o).get?Internal (IntKind.i64.wrap ((↑(List.map (AV.int IntKind.i64) o).length : Int) - 1)).toNat = some (AV.int IntKind.i64 (o.getD ((↑o.length : Int) - 1).toNat default))), ((decide (b < 0) == false && true) = true → (List.map G2.a gs).get?Internal (o.getD ((↑o.length : Int) - 1).toNat default).toNat = some (AV.agg [AV.int IntKind.i64 (gs.getD (o.getD ((↑o.length : Int) - 1).toNat default).toNat default).x, AV.int IntKind.i64 (gs.getD (o.getD ((↑o.length : Int) - 1).toNat default).toNat default).y])), ((decide (b < 0) == false && true) = true → (List.map G2.a gs).get?Internal i.toNat = some (AV.agg [AV.int IntKind.i64 (gs.getD i.toNat default).x, AV.int IntKind.i64 (gs.getD i.toNat default).y])), ((decide (b < 0) == false && true) = true → (List.map (AV.int IntKind.i64) o).get?Internal (IntKind.i64.wrap ((↑(List.map (AV.int IntKind.i64) o).length : Int) - 1)).toNat = some (AV.int IntKind.i64 (o.getD ((↑o.length : Int) - 1).toNat default))), ((decide (b < 0) == false && true) = true → (List.map G2.a gs).get?Internal (o.getD ((↑o.length : Int) - 1).toNat default).toNat = some (AV.agg [AV.int IntKind.i64 (gs.getD (o.getD ((↑o.length : Int) - 1).toNat default).toNat default).x, AV.int IntKind.i64 (gs.getD (o.getD ((↑o.length : Int) - 1).toNat default).toNat default).y])), ((decide (b < 0) == false && true) = true → (List.map G2.a gs).get?Internal b.toNat = some (AV.agg [AV.int IntKind.i64 (gs.getD b.toNat default).x, AV.int IntKind.i64 (gs.getD b.toNat default).y]))], [⟨true, false, 35, [AV.vec false 1 (List.map (AV.int IntKind.i64) o), AV.int IntKind.i64 i], [], AV.bool (Sp.has o i), []⟩, ⟨decide (b < 0) == false && true && true, false, 16, [AV.agg [AV.int IntKind.i64 (gs.getD (o.getD ((↑o.length : Int) - 1).toNat default).toNat default).x, AV.int IntKind.i64 (gs.getD (o.getD ((↑o.length : Int) - 1).toNat default).toNat default).y], AV.agg [AV.int IntKind.i64 (gs.getD i.toNat default).x, AV.int IntKind.i64 (gs.getD i.toNat default).y]], [], AV.int IntKind.i64 (Sp.dist (gs.getD (o.getD ((↑o.length : Int) - 1).toNat default).toNat default).x (gs.getD (o.getD ((↑o.length : Int) - 1).toNat default).toNat default).y (gs.getD i.toNat default).x (gs.getD i.toNat default).y), []⟩, ⟨decide (b < 0) == false && true && true, false, 16, [AV.agg [AV.int IntKind.i64 (gs.getD (o.getD ((↑o.length : Int) - 1).toNat default).toNat default).x, AV.int IntKind.i64 (gs.getD (o.getD ((↑o.length : Int) - 1).toNat default).toNat default).y], AV.agg [AV.int IntKind.i64 (gs.getD b.toNat default).x, AV.int IntKind.i64 (gs.getD b.toNat default).y]], [], AV.int IntKind.i64 (Sp.dist (gs.getD (o.getD ((↑o.length : Int) - 1).toNat default).toNat default).x (gs.getD (o.getD ((↑o.length : Int) - 1).toNat default).toNat default).y (gs.getD b.toNat default).x (gs.getD b.toNat default).y), []⟩]⟩ (by kernel_rfl) (allB_cons (beq_t (i2.2 d3)) (allB_cons (beq_self_eq_true _) (allB_cons (i5.2 (fun _ => rfl)) (allB_cons (beq_f (fun h => d8 (i7.1 h))) (allB_cons (i17.2 (fun _ => rfl)) (allB_cons (i18.2 (fun _ => rfl)) (allB_cons (i19.2 k20) (allB_cons (i21.2 k22) (allB_cons (i23.2 (fun _ => rfl)) (allB_cons (i24.2 k25) (allB_cons (i26.2 k27) (allB_cons (i28.2 k29) (allB_cons (i30.2 k31) (allB_cons (i32.2 (fun _ => rfl)) (allB_cons (i33.2 (fun _ => rfl)) (allB_cons (i34.2 k20) (allB_cons (i35.2 k22) (allB_cons (i36.2 (fun _ => rfl)) (allB_cons (i37.2 k25) (allB_cons (i38.2 k27) (allB_cons (i39.2 k40) (allB_cons (i41.2 k42) (allB_cons (beq_t (i49.2 d50)) allB_nil))))))))))))))))))))))) (allP_cons (by rw [w6, w12] <;> exact (fun h => el_map (k22 (i43.1 h)))) (allP_cons (fun h => el_map (k27 (i44.1 h))) (allP_cons (fun h => el_map (k31 (i45.1 h))) (allP_cons (by rw [w6, w12] <;> exact (fun h => el_map (k22 (i46.1 h)))) (allP_cons (fun h => el_map (k27 (i47.1 h))) (allP_cons (fun h => el_map (k42 (i48.1 h))) allP_nil)))))) (allC_cons (fun _ => ((@ev35 (false) (o) (i) k4) : Ev M1 (Conf.pure 35 [AV.vec false 1 (List.map (AV.int IntKind.i64) o), AV.int IntKind.i64 i]) (AV.bool (Sp.has o i)) [])) (allC_cons (fun hc => ((@ev16 ((gs.getD (o.getD ((↑o.length : Int) - 1).toNat default).toNat default).x) ((gs.getD (o.getD ((↑o.length : Int) - 1).toNat default).toNat default).y) ((gs.getD i.toNat default).x) ((gs.getD i.toNat default).y) (k14 (i13.1 hc))) : Ev M1 (Conf.pure 16 [AV.agg [AV.int IntKind.i64 (gs.getD (o.getD ((↑o.length : Int) - 1).toNat default).toNat default).x, AV.int IntKind.i64 (gs.getD (o.getD ((↑o.length : Int) - 1).toNat default).toNat default).y], AV.agg [AV.int IntKind.i64 (gs.getD i.toNat default).x, AV.int IntKind.i64 (gs.getD i.toNat default).y]]) (AV.int IntKind.i64 (Sp.dist (gs.getD (o.getD ((↑o.length : Int) - 1).toNat default).toNat default).x (gs.getD (o.getD ((↑o.length : Int) - 1).toNat default).toNat default).y (gs.getD i.toNat default).x (gs.getD i.toNat default).y)) [])) (allC_cons (fun hc => ((@ev16 ((gs.getD (o.getD ((↑o.length : Int) - 1).toNat default).toNat default).x) ((gs.getD (o.getD ((↑o.length : Int) - 1).toNat default).toNat default).y) ((gs.getD b.toNat default).x) ((gs.getD b.toNat default).y) (k16 (i15.1 hc))) : Ev M1 (Conf.pure 16 [AV.agg [AV.int IntKind.i64 (gs.getD (o.getD ((↑o.length : Int) - 1).toNat default).toNat default).x, AV.int IntKind.i64 (gs.getD (o.getD ((↑o.length : Int) - 1).toNat default).toNat default).y], AV.agg [AV.int IntKind.i64 (gs.getD b.toNat default).x, AV.int IntKind.i64 (gs.getD b.toNat default).y]]) (AV.int IntKind.i64 (Sp.dist (gs.getD (o.getD ((↑o.length : Int) - 1).toNat default).toNat default).x (gs.getD (o.getD ((↑o.length : Int) - 1).toNat default).toNat default).y (gs.getD b.toNat default).x (gs.getD b.toNat default).y)) [])) allC_nil))) (by rw [w52] <;> exact H)
      · have H := H.2 d50
        have k53 := H.1; have H := H.2
        have w54 : IntKind.i64.wrap (i + 1) = i + 1 := wI64 k53
        exact path_wp (G := given kp19 [(7, 2, .call (AV.bool (Sp.has o i)) none), (8, 9, .elem (AV.int IntKind.i64 (o.getD ((↑o.length : Int) - 1).toNat default))), (8, 11, .elem (AV.agg [AV.int IntKind.i64 (gs.getD (o.getD ((↑o.length : Int) - 1).toNat default).toNat default).x, AV.int IntKind.i64 (gs.getD (o.getD ((↑o.length : Int) - 1).toNat default).toNat default).y])), (8, 15, .elem (AV.agg [AV.int IntKind.i64 (gs.getD i.toNat default).x, AV.int IntKind.i64 (gs.getD i.toNat default).y])), (8, 16, .call (AV.int IntKind.i64 (Sp.dist (gs.getD (o.getD ((↑o.length : Int) - 1).toNat default).toNat default).x (gs.getD (o.getD ((↑o.length : Int) - 1).toNat default).toNat default).y (gs.getD i.toNat default).x (gs.getD i.toNat default).y)) none), (8, 23, .elem (AV.int IntKind.i64 (o.getD ((↑o.length : Int) - 1).toNat default))), (8, 25, .elem (AV.agg [AV.int IntKind.i64 (gs.getD (o.getD ((↑o.length : Int) - 1).toNat default).toNat default).x, AV.int IntKind.i64 (gs.getD (o.getD ((↑o.length : Int) - 1).toNat default).toNat default).y])), (8, 29, .elem (AV.agg [AV.int IntKind.i64 (gs.getD b.toNat default).x, AV.int IntKind.i64 (gs.getD b.toNat default).y])), (8, 30, .call (AV.int IntKind.i64 (Sp.dist (gs.getD (o.getD ((↑o.length : Int) - 1).toNat default).toNat default).x (gs.getD (o.getD ((↑o.length : Int) - 1).toNat default).toNat default).y (gs.getD b.toNat default).x (gs.getD b.toNat default).y)) none)] []) 1000 [true, false, false] ⟨(atC (cd Try.f19) [1, 1, 0, 0, 0, 1, 0, 1, 0, 1, 0, 0]), [(0, AV.vec fl 2 (List.map G2.a gs)), (3, AV.row 0 v), (4, AV.int IntKind.i64 b), (5, AV.int IntKind.i64 (IntKind.i64.wrap (i + 1)))], [{ elems := List.map (AV.int IntKind.i64) o, es := 1, ver := v, frozen := false, clean := true }], [(decide (i < (↑(List.map G2.a gs).length : Int))) == true, v == v, !(Sp.has o i == false && true) || v == v, (bif Sp.has o i then true else bif (↑(List.map (AV.int IntKind.i64) o).length : Int) == 0 then decide (i > 0) else false) == false, !(decide (b < 0) == false && true) || v == v, !(decide (b < 0) == false && true) || v == v, !(decide (b < 0) == false && true) || decide (0 ≤ IntKind.i64.wrap ((↑(List.map (AV.int IntKind.i64) o).length : Int) - 1)), !(decide (b < 0) == false && true) || decide ((IntKind.i64.wrap ((↑(List.map (AV.int IntKind.i64) o).length : Int) - 1)).toNat < (List.map (AV.int IntKind.i64) o).length), !(decide (b < 0) == false && true) || v == v, !(decide (b < 0) == false && true) || decide (0 ≤ o.getD ((↑o.length : Int) - 1).toNat default), !(decide (b < 0) == false && true) || decide ((o.getD ((↑o.length : Int) - 1).toNat default).toNat < (List.map G2.a gs).length), !(decide (b < 0) == false && true) || decide (0 ≤ i), !(decide (b < 0) == false && true) || decide (i.toNat < (List.map G2.a gs).length), !(decide (b < 0) == false && true) || v == v, !(decide (b < 0) == false && true) || v == v, !(decide (b < 0) == false && true) || decide (0 ≤ IntKind.i64.wrap ((↑(List.map (AV.int IntKind.i64) o).length : Int) - 1)), !(decide (b < 0) == false && true) || decide ((IntKind.i64.wrap ((↑(List.map (AV.int IntKind.i64) o).length : Int) - 1)).toNat < (List.map (AV.int IntKind.i64) o).length), !(decide (b < 0) == false && true) || v == v, !(decide (b < 0) == false && true) || decide (0 ≤ o.getD ((↑o.length : Int) - 1).toNat default), !(decide (b < 0) == false && true) || decide ((o.getD ((↑o.length : Int) - 1).toNat default).toNat < (List.map G2.a gs).length), !(decide (b < 0) == false && true) || decide (0 ≤ b), !(decide (b < 0) == false && true) || decide (b.toNat < (List.map G2.a gs).length), (bif decide (b < 0) then true else decide (Sp.dist (gs.getD (o.getD ((↑o.length : Int) - 1).toNat default).toNat default).x (gs.getD (o.getD ((↑o.length : Int) - 1).toNat default).toNat default).y (gs.getD i.toNat default).x (gs.getD i.toNat default).y < Sp.dist (gs.getD (o.getD ((↑o.length : Int) - 1).toNat default).toNat default).x (gs.getD (o.getD ((↑o.length : Int) - 1).toNat default).toNat default).y (gs.getD b.toNat default).x (gs.getD b.toNat default).y)) == false], [((decide (b < 0) == false && true) = true → (List.map (AV.int IntKind.i64) o).get?Internal (IntKind.i64.wrap ((↑(List.map (AV.int IntKind.i64) o).length : Int) - 1)).toNat = some (AV.int IntKind.i64 (o.getD ((↑o.length : Int) - 1).toNat default))), ((decide (b < 0) == false && true) = true → (List.map G2.a gs).get?Internal (o.getD ((↑o.length : Int) - 1).toNat default).toNat = some (AV.agg [AV.int IntKind.i64 (gs.getD (o.getD ((↑o.length : Int) - 1).toNat default).toNat default).x, AV.int IntKind.i64 (gs.getD (o.getD ((↑o.length : Int) - 1).toNat default).toNat default).y])), ((decide (b < 0) == false && true) = true → (List.map G2.a gs).get?Internal i.toNat = some (AV.agg [AV.int IntKind.i64 (gs.getD i.toNat default).x, AV.int IntKind.i64 (gs.getD i.toNat default).y])), ((decide (b < 0) == false && true) = true → (List.map (AV.int IntKind.i64) o).get?Internal (IntKind.i64.wrap ((↑(List.map (AV.int IntKind.i64) o).length : Int) - 1)).toNat = some (AV.int IntKind.i64 (o.getD ((↑o.length : Int) - 1).toNat default))), ((decide (b < 0) == false && true) = true → (List.map G2.a gs).get?Internal (o.getD ((↑o.length : Int) - 1).toNat default).toNat = some (AV.agg [AV.int IntKind.i64 (gs.getD (o.getD ((↑o.length : Int) - 1).toNat default).toNat default).x, AV.int IntKind.i64 (gs.getD (o.getD ((↑o.length : Int) - 1).toNat default).toNat default).y])), ((decide (b < 0) == false && true) = true → (List.map G2.a gs).get?Internal b.toNat = some (AV.agg [AV.int IntKind.i64 (gs.getD b.toNat default).x, AV.int IntKind.i64 (gs.getD b.toNat default).y]))], [⟨true, false, 35, [AV.vec false 1 (List.map (AV.int IntKind.i64) o), AV.int IntKind.i64 i], [], AV.bool (Sp.has o i), []⟩, ⟨decide (b < 0) == false && true && true, false, 16, [AV.agg [AV.int IntKind.i64 (gs.getD (o.getD ((↑o.length : Int) - 1).toNat default).toNat default).x, AV.int IntKind.i64 (gs.getD (o.getD ((↑o.length : Int) - 1).toNat default).toNat default).y], AV.agg [AV.int IntKind.i64 (gs.getD i.toNat default).x, AV.int IntKind.i64 (gs.getD i.toNat default).y]], [], AV.int IntKind.i64 (Sp.dist (gs.getD (o.getD ((↑o.length : Int) - 1).toNat default).toNat default).x (gs.getD (o.getD ((↑o.length : Int) - 1).toNat default).toNat default).y (gs.getD i.toNat default).x (gs.getD i.toNat default).y), []⟩, ⟨decide (b < 0) == false && true && true, false, 16, [AV.agg [AV.int IntKind.i64 (gs.getD (o.getD ((↑o.length : Int) - 1).toNat default).toNat default).x, AV.int IntKind.i64 (gs.getD (o.getD ((↑o.length : Int) - 1).toNat default).toNat default).y], AV.agg [AV.int IntKind.i64 (gs.getD b.toNat default).x, AV.int IntKind.i64 (gs.getD b.toNat default).y]], [], AV.int IntKind.i64 (Sp.dist (gs.getD (o.getD ((↑o.length : Int) - 1).toNat default).toNat default).x (gs.getD (o.getD ((↑o.length : Int) - 1).toNat default).toNat default).y (gs.getD b.toNat default).x (gs.getD b.toNat default).y), []⟩]⟩ (by kernel_rfl) (allB_cons (beq_t (i2.2 d3)) (allB_cons (beq_self_eq_true _) (allB_cons (i5.2 (fun _ => rfl)) (allB_cons (beq_f (fun h => d8 (i7.1 h))) (allB_cons (i17.2 (fun _ => rfl)) (allB_cons (i18.2 (fun _ => rfl)) (allB_cons (i19.2 k20) (allB_cons (i21.2 k22) (allB_cons (i23.2 (fun _ => rfl)) (allB_cons (i24.2 k25) (allB_cons (i26.2 k27) (allB_cons (i28.2 k29) (allB_cons (i30.2 k31) (allB_cons (i32.2 (fun _ => rfl)) (allB_cons (i33.2 (fun _ => rfl)) (allB_cons (i34.2 k20) (allB_cons (i35.2 k22) (allB_cons (i36.2 (fun _ => rfl)) (allB_cons (i37.2 k25) (allB_cons (i38.2 k27) (allB_cons (i39.2 k40) (allB_cons (i41.2 k42) (allB_cons (beq_f (fun h => d50 (i49.1 h))) allB_nil))))))))))))))))))))))) (allP_cons (by rw [w6, w12] <;> exact (fun h => el_map (k22 (i43.1 h)))) (allP_cons (fun h => el_map (k27 (i44.1 h))) (allP_cons (fun h => el_map (k31 (i45.1 h))) (allP_cons (by rw [w6, w12] <;> exact (fun h => el_map (k22 (i46.1 h)))) (allP_cons (fun h => el_map (k27 (i47.1 h))) (allP_cons (fun h => el_map (k42 (i48.1 h))) allP_nil)))))) (allC_cons (fun _ => ((@ev35 (false) (o) (i) k4) : Ev M1 (Conf.pure 35 [AV.vec false 1 (List.map (AV.int IntKind.i64) o), AV.int IntKind.i64 i]) (AV.bool (Sp.has o i)) [])) (allC_cons (fun hc => ((@ev16 ((gs.getD (o.getD ((↑o.length : Int) - 1).toNat default).toNat default).x) ((gs.getD (o.getD ((↑o.length : Int) - 1).toNat default).toNat default).y) ((gs.getD i.toNat default).x) ((gs.getD i.toNat default).y) (k14 (i13.1 hc))) : Ev M1 (Conf.pure 16 [AV.agg [AV.int IntKind.i64 (gs.getD (o.getD ((↑o.length : Int) - 1).toNat default).toNat default).x, AV.int IntKind.i64 (gs.getD (o.getD ((↑o.length : Int) - 1).toNat default).toNat default).y], AV.agg [AV.int IntKind.i64 (gs.getD i.toNat default).x, AV.int IntKind.i64 (gs.getD i.toNat default).y]]) (AV.int IntKind.i64 (Sp.dist (gs.getD (o.getD ((↑o.length : Int) - 1).toNat default).toNat default).x (gs.getD (o.getD ((↑o.length : Int) - 1).toNat default).toNat default).y (gs.getD i.toNat default).x (gs.getD i.toNat default).y)) [])) (allC_cons (fun hc => ((@ev16 ((gs.getD (o.getD ((↑o.length : Int) - 1).toNat default).toNat default).x) ((gs.getD (o.getD ((↑o.length : Int) - 1).toNat default).toNat default).y) ((gs.getD b.toNat default).x) ((gs.getD b.toNat default).y) (k16 (i15.1 hc))) : Ev M1 (Conf.pure 16 [AV.agg [AV.int IntKind.i64 (gs.getD (o.getD ((↑o.length : Int) - 1).toNat default).toNat default).x, AV.int IntKind.i64 (gs.getD (o.getD ((↑o.length : Int) - 1).toNat default).toNat default).y], AV.agg [AV.int IntKind.i64 (gs.getD b.toNat default).x, AV.int IntKind.i64 (gs.getD b.toNat default).y]]) (AV.int IntKind.i64 (Sp.dist (gs.getD (o.getD ((↑o.length : Int) - 1).toNat default).toNat default).x (gs.getD (o.getD ((↑o.length : Int) - 1).toNat default).toNat default).y (gs.getD b.toNat default).x (gs.getD b.toNat default).y)) [])) allC_nil))) (by rw [w54] <;> exact H)
  · have H := H.2 d3
    have w55 : (List.map (AV.int IntKind.i64) o).length = o.length := List.length_map ..
    have i56 : (decide (((List.map (AV.int IntKind.i64) o).length + 1) * 8 ≤ 1099511627776)) = true ↔ ((o.length + 1) * 8 ≤ 1099511627776) := (by rw [w55] <;> exact i_dec)
    have k57 := H.1; have H := H.2
    have w58 : List.map (AV.int IntKind.i64) o ++ [AV.int IntKind.i64 b] = List.map (AV.int IntKind.i64) (o ++ [b]) := (lm_app rfl rfl)
    exact path_wp (G := given kp19 [] []) 1000 [false] ⟨(atC (cd Try.f19) [1, 1, 0, 0, 0]), [(0, AV.vec fl 2 (List.map G2.a gs)), (3, AV.row 0 (v + 1))], [{ elems := List.map (AV.int IntKind.i64) o ++ [AV.int IntKind.i64 b], es := 1, ver := v + 1, frozen := false, clean := true }], [(decide (i < (↑(List.map G2.a gs).length : Int))) == false, v == v, decide (((List.map (AV.int IntKind.i64) o).length + 1) * 8 ≤ 1099511627776)], [], []⟩ (by kernel_rfl) (allB_cons (beq_f (fun h => d3 (i2.1 h))) (allB_cons (beq_self_eq_true _) (allB_cons (i56.2 k57) allB_nil))) allP_nil allC_nil (by rw [w58] <;> exact H)


end Go.Av

/- WHAT Nearest OF THE REFERENCE ANSWERS. -/
namespace Go.Av
open Go.Proofs

theorem loop19y {fl : Bool} {gs : List G2} {b : Int} {dq : AV} (hl : gs.length ≤ 1000) (h : v19a_at fl gs [b] 0 (PureQ dq)) : ∀ (k i : Nat), i + 1 + k = gs.length → v19y_at fl gs b (i + 1 : Nat) (PureQ dq) := by
  intro k
  induction k with
  | zero => intro i hi; exact v19y _ _ _ _ _ ⟨fun h => by omega, fun _ => h⟩
  | succ k ih => intro i hi; exact v19y _ _ _ _ _ ⟨fun _ => ⟨fun _ => ⟨by omega, ih (i + 1) (by omega)⟩, fun h => by omega⟩, fun h => by omega⟩

theorem loop19b {fl : Bool} {gs : List G2} {o : List Int} {a : Int} {v : Nat} {dq : AV} (hg : Sp.okG gs) (hl : gs.length ≤ 1000) (ho : o.length ≤ 1000 ∧ 0 < o.length) (ha : 0 ≤ a ∧ a < gs.length) (hlast : o.getD (o.length - 1) default = a) :
    ∀ (k i : Nat) (nx : Int), i + k = gs.length → (nx < 0 ∨ (0 ≤ nx ∧ nx < gs.length)) → v19a_at fl gs (o ++ [Sp.next gs o a k i nx]) (v + 1) (PureQ dq) → v19b_at fl gs o v nx i (PureQ dq) := by
  have e1 : ((o.length : Int) - 1).toNat = o.length - 1 := by omega
  intro k
  induction k with
  | zero => intro i nx hi hn hq; exact v19b _ _ _ _ _ _ _ ⟨fun h => by omega, fun _ => ⟨by omega, hq⟩⟩
  | succ k ih =>
    intro i nx hi hn hq
    rw [Sp.next] at hq
    refine v19b _ _ _ _ _ _ _ ⟨fun _ => ?_, fun h => by omega⟩
    rw [e1, hlast, Int.toNat_natCast]
    refine ⟨by omega, fun h => ⟨by omega, ?_⟩, fun h => ⟨by omega, fun h => ⟨(okG_at hg _).1, (okG_at hg _).2, (okG_at hg _).1, (okG_at hg _).2⟩, fun h => ⟨(okG_at hg _).1, (okG_at hg _).2, (okG_at hg _).1, (okG_at hg _).2⟩, fun _ => by omega, fun _ => by omega, fun _ => ha.1, fun _ => by omega, fun _ => by omega, fun _ => by omega, fun _ => by omega, fun _ => by omega, fun k => ⟨by omega, ?_⟩, fun k => ⟨by omega, ?_⟩⟩⟩
    · have hm : (i : Int) ∈ o := by
        rcases h with h | h
        · exact has_iff.1 h
        · omega
      rw [if_neg (fun k => k.1 hm)] at hq
      exact ih (i + 1) nx (by omega) hn hq
    · have hm : (i : Int) ∉ o := fun k => h (.inl (has_iff.2 k))
      rw [if_pos (show (i : Int) ∉ o ∧ (nx < 0 ∨ Sp.dAt gs a i < Sp.dAt gs a nx) from ⟨hm, k⟩)] at hq
      exact ih (i + 1) i (by omega) (by omega) hq
    · rw [if_neg (show ¬((i : Int) ∉ o ∧ (nx < 0 ∨ Sp.dAt gs a i < Sp.dAt gs a nx)) from fun x => k x.2)] at hq
      exact ih (i + 1) nx (by omega) hn hq

theorem loop19 {fl : Bool} {gs : List G2} {dq : AV} (hg : Sp.okG gs) (hl : gs.length ≤ 1000) :
    ∀ (k : Nat) (o : List Int) (a : Int) (v : Nat), (0 ≤ a ∧ a < gs.length) → 0 < o.length → o.getD (o.length - 1) default = a → NearI gs k o (Sp.next gs o a gs.length 0 (-1)) → isA false (Sp.near gs k o (Sp.next gs o a gs.length 0 (-1))) = dq → v19a_at fl gs o v (PureQ dq) := by
  intro k
  induction k with
  | zero =>
    intro o a v ha h0 hlast hI hq
    rw [Sp.near] at hq
    have := hI.len
    exact v19a _ _ _ _ _ ⟨fun h => by omega, fun _ => by rw [← hq]; exact .refl _⟩
  | succ k ih =>
    intro o a v ha h0 hlast hI hq
    have h := hI.go
    have hlen := hI.len
    rw [Sp.near, if_neg (by omega)] at hq
    refine v19a _ _ _ _ _ ⟨fun _ => ?_, fun h => by omega⟩
    refine loop19b hg hl (by omega) ha hlast gs.length 0 (-1) (by omega) (by omega) ?_
    exact ih _ _ _ ⟨h.1, h.2.1⟩ (by simp) (by simp [List.getD_eq_getElem?_getD]) hI.next hq

theorem ev19 (fl : Bool) (gs : List G2) (h : Sp.okG gs ∧ gs.length ≤ 1000) : Ev M1 (.pure 19 [gsA fl gs]) (isA false (Sp.nearest gs)) [] := by
  obtain ⟨hg, hl⟩ := h
  refine call19 (v19 fl gs _ ?_)
  unfold Sp.nearest
  cases hn : gs.length with
  | zero =>
    refine v19z _ _ _ ⟨fun h => by omega, fun _ => ?_⟩
    rw [Sp.near]; exact .vnil 1
  | succ k =>
    have h : NearI gs (k + 1) [] 0 := by
      have h := NearI.start (gs := gs)
      rw [if_neg (by omega), hn] at h
      exact h
    have h0 := h.go
    rw [Sp.near, if_neg (by omega)]
    refine v19z _ _ _ ⟨fun _ => v19x _ _ _ ⟨fun _ => ⟨fun _ => by omega, ?_⟩, fun h => by omega⟩, fun h => by omega⟩
    refine loop19y hl ?_ k 0 (by omega)
    exact loop19 hg hl k [0] 0 0 (by omega) (by simp) rfl h.next rfl
end Go.Av

/- THE FIRST SHORTEST ORDER: what both searches answer. -/
namespace Go.Av
open Go.Proofs

namespace Sp
/-- The first shortest order that begins with o and k further positions, if it is shorter than b (nothing: none so far). -/
def srch (gs : List G2) : Nat → List Int → List Int → List Int
  | 0, o, b => if b.length = 0 ∨ way gs o < way gs b then o else b
  | k + 1, o, b => (List.range' 0 gs.length).foldl (fun (b : List Int) (i : Nat) => if (i : Int) ∈ o then b else srch gs k (o ++ [(i : Int)]) b) b
/-- One step of it. -/
def step (gs : List G2) (k : Nat) (o : List Int) (b : List Int) (i : Nat) : List Int := if (i : Int) ∈ o then b else srch gs k (o ++ [(i : Int)]) b
def hd (l : List Int) : Int := l.getD 0 default
def tl (l : List Int) : List Int := l.drop 1
/-- A beginning of an order. -/
def begins (gs : List G2) (k : Nat) (o : List Int) : Prop := o.length + k = gs.length ∧ o.Nodup ∧ (∀ x ∈ o, 0 ≤ x ∧ x < (gs.length : Int)) ∧ 0 < o.length
end Sp

theorem hd_tl {l : List Int} (h : l ≠ []) : Sp.hd l :: Sp.tl l = l := by
  cases l with
  | nil => exact absurd rfl h
  | cons x l => rfl
theorem srch_succ (gs : List G2) (k : Nat) (o b : List Int) : Sp.srch gs (k + 1) o b = (List.range' 0 gs.length).foldl (Sp.step gs k o) b := rfl
theorem range_step (gs : List G2) (k : Nat) (o b : List Int) (c i : Nat) : (List.range' i (c + 1)).foldl (Sp.step gs k o) b = (List.range' (i + 1) c).foldl (Sp.step gs k o) (Sp.step gs k o b i) := rfl

theorem way_snoc (gs : List G2) : ∀ (o : List Int) (y : Int), 0 < o.length → Sp.way gs (o ++ [y]) = Sp.way gs o + Sp.dAt gs (o.getD (o.length - 1) default) y
  | [], _, h => by simp at h
  | [x], y, _ => by simp [Sp.way]
  | x :: z :: o, y, _ => by
    have := way_snoc gs (z :: o) y (by simp)
    simp only [List.cons_append, Sp.way] at this ⊢
    rw [this]
    simp only [List.length_cons, Nat.add_sub_cancel]
    have e : (x :: z :: o).getD (o.length + 1) default = (z :: o).getD o.length default := rfl
    rw [e]; omega

theorem begins_snoc {gs : List G2} {k : Nat} {o : List Int} {i : Nat} (h : Sp.begins gs (k + 1) o) (hi : i < gs.length) (ho : ¬(i : Int) ∈ o) : Sp.begins gs k (o ++ [(i : Int)]) :=
  ⟨by have := h.1; simp; omega, Mst.nodup_snoc h.2.1 ho, Mst.rng_snoc h.2.2.1 (by omega), by simp⟩

theorem srch_ge {gs : List G2} (hg : Sp.okG gs) : ∀ (k : Nat) (o b : List Int), 0 < o.length → b ≠ [] → Sp.way gs b ≤ Sp.way gs o → Sp.srch gs k o b = b
  | 0, o, b, _, hb, h => by
    have : 0 < b.length := List.length_pos_iff.2 hb
    rw [Sp.srch, if_neg (by omega)]
  | k + 1, o, b, ho, hb, h => by
    rw [srch_succ]
    have : ∀ (l : List Nat), l.foldl (Sp.step gs k o) b = b := by
      intro l
      induction l with
      | nil => rfl
      | cons i l ih =>
        rw [List.foldl_cons]
        have e : Sp.step gs k o b i = b := by
          unfold Sp.step
          split
          · rfl
          · refine srch_ge hg k _ b (by simp) hb ?_
            rw [way_snoc gs o i ho]
            have := dAt_le hg (o.getD (o.length - 1) default) i
            omega
        rw [e]; exact ih
    exact this _

/-- A result that is there. -/
theorem srch_some {gs : List G2} : ∀ (k : Nat) (o b : List Int), b ≠ [] → 0 < o.length → Sp.srch gs k o b ≠ []
  | 0, o, b, hb, ho => by
    rw [Sp.srch]
    split
    · exact List.length_pos_iff.1 ho
    · exact hb
  | k + 1, o, b, hb, ho => by
    rw [srch_succ]
    have : ∀ (l : List Nat) (b : List Int), b ≠ [] → l.foldl (Sp.step gs k o) b ≠ [] := by
      intro l
      induction l with
      | nil => exact fun b hb => hb
      | cons i l ih =>
        intro b hb
        rw [List.foldl_cons]
        refine ih _ ?_
        unfold Sp.step
        split
        · exact hb
        · exact srch_some k _ b hb (by simp)
    exact this _ b hb
theorem fold_some {gs : List G2} {k : Nat} {o : List Int} (ho : 0 < o.length) : ∀ (l : List Nat) (b : List Int), b ≠ [] → l.foldl (Sp.step gs k o) b ≠ []
  | [], b, hb => hb
  | i :: l, b, hb => by
    rw [List.foldl_cons]
    refine fold_some ho l _ ?_
    unfold Sp.step
    split
    · exact hb
    · exact srch_some k _ b hb (by simp)
theorem srch_full {gs : List G2} : ∀ (k : Nat) (o : List Int), Sp.begins gs k o → Sp.srch gs k o [] ≠ []
  | 0, o, h => by
    rw [Sp.srch, if_pos (.inl rfl)]
    exact List.length_pos_iff.1 h.2.2.2
  | k + 1, o, h => by
    rw [srch_succ]
    have hex : ∃ j : Nat, j < gs.length ∧ ¬(j : Int) ∈ o := by
      refine Classical.byContradiction fun hn => ?_
      have := il_ge gs.length o (fun j hj => Classical.byContradiction fun hm => hn ⟨j, hj, hm⟩)
      have := h.1
      omega
    obtain ⟨j, hj, hjo⟩ := hex
    have : ∀ (l : List Nat), (∀ i ∈ l, i < gs.length) → j ∈ l → l.foldl (Sp.step gs k o) [] ≠ [] := by
      intro l
      induction l with
      | nil => intro _ h; simp at h
      | cons i l ih =>
        intro hl hm
        rw [List.foldl_cons]
        by_cases hi : (i : Int) ∈ o
        · have e : Sp.step gs k o [] i = [] := if_pos hi
          rw [e]
          refine ih (fun x hx => hl x (List.mem_cons_of_mem _ hx)) ?_
          rcases List.mem_cons.1 hm with rfl | hm
          · exact absurd hi hjo
          · exact hm
        · have e : Sp.step gs k o [] i = Sp.srch gs k (o ++ [(i : Int)]) [] := if_neg hi
          rw [e]
          exact fold_some h.2.2.2 l _ (srch_full k _ (begins_snoc h (hl i (by simp)) hi))
    exact this _ (fun i hi => by simpa using hi) (by simp; omega)

/-- A result is an order, if the best one so far is. -/
theorem srch_ord {gs : List G2} : ∀ (k : Nat) (o b : List Int), Sp.begins gs k o → o.getD 0 default = 0 → (b ≠ [] → IsOrd gs.length b) → Sp.srch gs k o b ≠ [] → IsOrd gs.length (Sp.srch gs k o b)
  | 0, o, b, h, h0, hb, hne => by
    rw [Sp.srch] at hne ⊢
    split
    · exact ⟨by have := h.1; omega, h.2.1, h.2.2.1, fun _ => h0⟩
    · rename_i hc
      rw [if_neg hc] at hne
      exact hb hne
  | k + 1, o, b, h, h0, hb, hne => by
    rw [srch_succ] at hne ⊢
    have : ∀ (l : List Nat) (b : List Int), (∀ i ∈ l, i < gs.length) → (b ≠ [] → IsOrd gs.length b) → (l.foldl (Sp.step gs k o) b ≠ [] → IsOrd gs.length (l.foldl (Sp.step gs k o) b)) := by
      intro l
      induction l with
      | nil => exact fun b _ hb => hb
      | cons i l ih =>
        intro b hl hb
        rw [List.foldl_cons]
        refine ih _ (fun x hx => hl x (List.mem_cons_of_mem _ hx)) ?_
        unfold Sp.step
        split
        · exact hb
        · rename_i hi
          refine srch_ord k _ b (begins_snoc h (hl i (by simp)) hi) ?_ hb
          have := h.2.2.2
          cases o with
          | nil => simp at this
          | cons x o => simpa using h0
    exact this _ b (fun i hi => by simpa using hi) hb hne

/-- No order that begins so is shorter. -/
theorem srch_least {gs : List G2} (hg : Sp.okG gs) : ∀ (k : Nat) (o b : List Int), Sp.begins gs k o → (b ≠ [] → Sp.way gs (Sp.srch gs k o b) ≤ Sp.way gs b) ∧ ∀ e : List Int, e.length = k → (∀ x ∈ e, 0 ≤ x ∧ x < (gs.length : Int)) → (o ++ e).Nodup → Sp.way gs (Sp.srch gs k o b) ≤ Sp.way gs (o ++ e)
  | 0, o, b, h => by
    rw [Sp.srch]
    refine ⟨fun hb => ?_, fun e he _ _ => ?_⟩
    · have : 0 < b.length := List.length_pos_iff.2 hb
      split <;> omega
    · have : e = [] := List.length_eq_zero_iff.1 he
      subst this
      rw [List.append_nil]
      split <;> omega
  | k + 1, o, b, h => by
    rw [srch_succ]
    have : ∀ (l : List Nat) (b : List Int), (∀ i ∈ l, i < gs.length) → (b ≠ [] → Sp.way gs (l.foldl (Sp.step gs k o) b) ≤ Sp.way gs b) ∧
        ∀ (x : Int) (e : List Int), x.toNat ∈ l → e.length = k → (∀ y ∈ x :: e, 0 ≤ y ∧ y < (gs.length : Int)) → (o ++ x :: e).Nodup → Sp.way gs (l.foldl (Sp.step gs k o) b) ≤ Sp.way gs (o ++ x :: e) := by
      intro l
      induction l with
      | nil => exact fun b _ => ⟨fun _ => Int.le_refl _, fun x e hx => by simp at hx⟩
      | cons i l ih =>
        intro b hl
        rw [List.foldl_cons]
        obtain ⟨i1, i2⟩ := ih (Sp.step gs k o b i) (fun x hx => hl x (List.mem_cons_of_mem _ hx))
        have hstep : b ≠ [] → Sp.step gs k o b i ≠ [] ∧ Sp.way gs (Sp.step gs k o b i) ≤ Sp.way gs b := by
          intro hb
          unfold Sp.step
          split
          · exact ⟨hb, Int.le_refl _⟩
          · rename_i hi
            exact ⟨srch_some k _ b hb (by simp), (srch_least hg k _ b (begins_snoc h (hl i (by simp)) hi)).1 hb⟩
        refine ⟨fun hb => Int.le_trans (i1 (hstep hb).1) (hstep hb).2, fun x e hx he hr hd => ?_⟩
        by_cases hxi : x.toNat = i
        · have hx0 := hr x (by simp)
          have hxe : x = (i : Int) := by omega
          subst hxe
          have hno : ¬(i : Int) ∈ o := fun hm => by
            rw [List.nodup_append] at hd
            exact hd.2.2 _ hm _ (by simp) rfl
          have e1 : Sp.step gs k o b i = Sp.srch gs k (o ++ [(i : Int)]) b := if_neg hno
          have hbeg := begins_snoc h (hl i (by simp)) hno
          have hl2 := (srch_least hg k _ b hbeg).2 e he (fun y hy => hr y (List.mem_cons_of_mem _ hy)) (by simpa using hd)
          have hne : Sp.step gs k o b i ≠ [] := by
            rw [e1]
            by_cases hb : b = []
            · subst hb; exact srch_full k _ hbeg
            · exact srch_some k _ b hb (by simp)
          rw [← e1] at hl2
          refine Int.le_trans (i1 hne) ?_
          simpa using hl2
        · exact i2 x e (by
            rcases List.mem_cons.1 hx with h | h
            · exact absurd h hxi
            · exact h) he hr hd
    obtain ⟨t1, t2⟩ := this (List.range' 0 gs.length) b (fun i hi => by simpa using hi)
    refine ⟨t1, fun e he hr hd => ?_⟩
    cases e with
    | nil => simp at he
    | cons x e => exact t2 x e (by have := hr x (by simp); simp; omega) (by simpa using he) hr hd
end Go.Av

/- PATHS, written by a program of the prover's. -/
namespace Go.Av
open Go.Proofs
set_option maxRecDepth 100000
def fi41 : Fi := ⟨8, [.tmp 2]⟩
def kp41 : List (Nat × List Nat) := [(0, [0]), (1, [0, 4]), (2, [2]), (3, [2])]
def v41e_at (fa : Bool) (Q : AV → Heap → Prop) : Prop := Wp M1 (.run fi41 (atC (cd Try.f41) []) [(0, .vec fa 1 [])] []) Q
def v41c_at (fa : Bool) (y : Int) (a : List Int) (Q : AV → Heap → Prop) : Prop := Wp M1 (.run fi41 (atC (cd Try.f41) []) [(0, .vec fa 1 ((y :: a).map (.int .i64)))] []) Q
def v41f_at (fa : Bool) (y : Int) (a : List Int) (Q : AV → Heap → Prop) : Prop := Wp M1 (.run fi41 (atC (cd Try.f41) []) [(0, .vec fa 1 ((y :: a).map (.int .i64)))] []) Q
theorem call41 {args : List AV} {d : AV} (h : Wp M1 (.run fi41 [.code (cd Try.f41)] (argVars 0 args) []) (PureQ d)) : Ev M1 (.pure 41 args) d [] :=
  pure_pq Try.f41 fi41 (by kernel_rfl) (by kernel_rfl) (by kernel_rfl) (by kernel_rfl) h
theorem owncall41 {args : List AV} {L : Heap} {Q : AV → Heap → Prop} (h : Wp M1 (.run fi41 [.code (cd Try.f41)] (argVars 0 args) L) Q) : Wp M1 (.own 41 args L) Q :=
  own_wp Try.f41 fi41 (by kernel_rfl) (by kernel_rfl) (by kernel_rfl) (by kernel_rfl) h
theorem keepcall41 {args : List AV} {L : Heap} {v : AV} {K : Heap} (hk : keepOk L.length v K = true) (h : Wp M1 (.run fi41 [.code (cd Try.f41)] (argVars 0 args) L) (KeepQ v K)) : Ev M1 (.own 41 args L) v K :=
  own_keep Try.f41 fi41 (by kernel_rfl) (by kernel_rfl) (by kernel_rfl) (by kernel_rfl) hk h
theorem v41e (fa : Bool) (dq : AV) (H :
    (Weak (AV.vnil) dq) ∧
    (Weak (AV.vec true 1 []) dq)) :
  v41e_at fa (PureQ dq) := by
  unfold v41e_at
  refine path_wp (G := given kp41 [] []) 4 [] ⟨(atC (cd Try.f41) [1, 0, 0]), [(0, AV.vec fa 1 [])], [], [], [], []⟩ (by kernel_rfl) allB_nil allP_nil allC_nil (wp_nil 1 [0, 4] (e1 := [(0, AV.vec fa 1 []), (4, AV.bool true)]) (e2 := [(0, AV.vec fa 1 []), (4, AV.bool false)]) (L1 := []) (L2 := []) (a1 := []) (a2 := []) (v1 := [(4, [], AV.bool true), (3, [], AV.vec fa 1 []), (0, [], AV.vec fa 1 [])]) (v2 := [(4, [], AV.bool false), (3, [], AV.vec fa 1 []), (0, [], AV.vec fa 1 [])]) (by kernel_rfl) (by kernel_rfl) allB_nil allB_nil (by kernel_rfl) (by kernel_rfl) ?_ ?_)
  · have H := H.1
    exact path_ret (G := given kp41 [] []) 1000 [true] (k := ((atC (cd Try.f41) [1, 0, 1, 0, 1])).tail) (env' := [(2, AV.vnil)]) (L' := []) (asm := [true == true]) (eqs := []) (calls := []) (AV.vnil) (by kernel_rfl) (by kernel_rfl) (allB_cons rfl allB_nil) allP_nil allC_nil (pq_weak (d := AV.vnil) (bs := []) (by kernel_rfl) (by kernel_rfl) allB_nil (by kernel_rfl) H)
  · have H := H.2
    exact path_ret (G := given kp41 [] []) 1000 [false] (k := ((atC (cd Try.f41) [1, 1, 1])).tail) (env' := [(2, AV.vec true 1 [])]) (L' := []) (asm := [false == false]) (eqs := []) (calls := []) (AV.vec true 1 []) (by kernel_rfl) (by kernel_rfl) (allB_cons rfl allB_nil) allP_nil allC_nil (pq_weak (d := AV.vec true 1 []) (bs := []) (by kernel_rfl) (by kernel_rfl) allB_nil (by kernel_rfl) H)

theorem v41c (fa : Bool) (y : Int) (a : List Int) (dq : AV) (H :
    ((0 + (a.length + 1)) * 8 ≤ 1099511627776) ∧
    Weak (AV.vec false 1 (AV.int IntKind.i64 y :: List.map (AV.int IntKind.i64) a)) dq) :
  v41c_at fa y a (PureQ dq) := by
  unfold v41c_at
  have w1 : (List.map (AV.int IntKind.i64) a).length = a.length := List.length_map ..
  have i2 : (decide ((0 + ((List.map (AV.int IntKind.i64) a).length + 1)) * 8 ≤ 1099511627776)) = true ↔ ((0 + (a.length + 1)) * 8 ≤ 1099511627776) := (by rw [w1] <;> exact i_dec)
  have k3 := H.1; have H := H.2
  exact path_ret (G := given kp41 [] []) 1000 [false] (k := ((atC (cd Try.f41) [1, 1, 1])).tail) (env' := [(2, AV.row 0 0)]) (L' := [{ elems := AV.int IntKind.i64 y :: List.map (AV.int IntKind.i64) a, es := 1, ver := 0, frozen := false, clean := true }]) (asm := [false == false, decide ((0 + ((List.map (AV.int IntKind.i64) a).length + 1)) * 8 ≤ 1099511627776)]) (eqs := []) (calls := []) (AV.row 0 0) (by kernel_rfl) (by kernel_rfl) (allB_cons rfl (allB_cons (i2.2 k3) allB_nil)) allP_nil allC_nil (pq_weak (d := AV.vec false 1 (AV.int IntKind.i64 y :: List.map (AV.int IntKind.i64) a)) (bs := [0 == 0]) (by kernel_rfl) (by kernel_rfl) (allB_cons (beq_self_eq_true _) allB_nil) (by kernel_rfl) H)

theorem v41f (fa : Bool) (y : Int) (a : List Int) (Q : AV → Heap → Prop) (H :
    ((0 + (a.length + 1)) * 8 ≤ 1099511627776) ∧
    Q (AV.row 0 0) [{ elems := AV.int IntKind.i64 y :: List.map (AV.int IntKind.i64) a, es := 1, ver := 0, frozen := false, clean := true }]) :
  v41f_at fa y a Q := by
  unfold v41f_at
  have w1 : (List.map (AV.int IntKind.i64) a).length = a.length := List.length_map ..
  have i2 : (decide ((0 + ((List.map (AV.int IntKind.i64) a).length + 1)) * 8 ≤ 1099511627776)) = true ↔ ((0 + (a.length + 1)) * 8 ≤ 1099511627776) := (by rw [w1] <;> exact i_dec)
  have k3 := H.1; have H := H.2
  exact path_ret (G := given kp41 [] []) 1000 [false] (k := ((atC (cd Try.f41) [1, 1, 1])).tail) (env' := [(2, AV.row 0 0)]) (L' := [{ elems := AV.int IntKind.i64 y :: List.map (AV.int IntKind.i64) a, es := 1, ver := 0, frozen := false, clean := true }]) (asm := [false == false, decide ((0 + ((List.map (AV.int IntKind.i64) a).length + 1)) * 8 ≤ 1099511627776)]) (eqs := []) (calls := []) (AV.row 0 0) (by kernel_rfl) (by kernel_rfl) (allB_cons rfl (allB_cons (i2.2 k3) allB_nil)) allP_nil allC_nil H


end Go.Av

/- WHAT Clone ANSWERS: a value, or a new row. -/
namespace Go.Av
open Go.Proofs
theorem ev41 (fa : Bool) (a : List Int) (h : a.length ≤ 1000000) : Ev M1 (.pure 41 [isA fa a]) (isA false a) [] := by
  cases a with
  | nil => exact call41 (v41e fa _ ⟨.vnil 1, .full 1 []⟩)
  | cons y a => exact call41 (v41c fa y a _ ⟨by simp at h; omega, .refl _⟩)
theorem evf41 (fa : Bool) (a : List Int) (h : a.length ≤ 1000000 ∧ 0 < a.length) : Ev M1 (.own 41 [isA fa a] []) (.row 0 0) [⟨a.map (.int .i64), 1, 0, false, true⟩] := by
  cases a with
  | nil => simp at h
  | cons y a => exact owncall41 (v41f fa y a _ ⟨by simp at h; omega, rfl, rfl⟩)
end Go.Av
