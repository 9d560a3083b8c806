/- PATHS, written by a program of the prover's. -/
import Derived.Test.YtfndgoannijhpaaCycR0
namespace Go.Av
open Go.Proofs
set_option maxRecDepth 100000
def fi43 : Fi := ⟨22, [.tmp 4, .tmp 5]⟩
def kp43 : List (Nat × List Nat) := [(0, [1, 2]), (1, [1, 9, 10, 11]), (2, [1, 9, 10, 11, 12]), (3, [1, 7, 9, 10, 11]), (4, [1, 7, 9, 10, 11, 18]), (5, [4, 5]), (6, [1, 9, 10, 11]), (7, [4, 5])]
def fi67 : Fi := ⟨32, [.tmp 4]⟩
def kp67 : List (Nat × List Nat) := [(0, [1, 2]), (1, [1, 2, 5]), (2, [1, 2, 5, 6]), (3, [1, 2, 5, 6, 11]), (4, [1, 2, 5, 6]), (5, [1, 2, 5, 6, 21]), (6, [1, 2, 5, 6]), (7, [4])]
def v43_at (sk fl : Bool) (ws : List Wd) (cm : List UInt8) (c : Int) (Q : AV → Heap → Prop) : Prop := Wp M1 (.run fi43 (atC (cd Try.f43) []) [(0, .agg [.bool sk, .vec fl 2 (ws.map Wd.a), .str cm]), (1, .int .u8 c)] []) Q
def v43a_at (fl : Bool) (ws : List Wd) (c n i : Int) (Q : AV → Heap → Prop) : Prop := Wp M1 (.run fi43 (atC (cd Try.f43) [1, 0, 1, 0, 0]) [(1, .int .u8 c), (9, .vec fl 2 (ws.map Wd.a)), (10, .int .i64 n), (11, .int .i64 i)] []) Q
def v67_at (sk fl : Bool) (ws : List Wd) (cm : List UInt8) (c : Int) (Q : AV → Heap → Prop) : Prop := Wp M1 (.run fi67 (atC (cd Try.f67) []) [(0, .agg [.bool sk, .vec fl 2 (ws.map Wd.a), .str cm]), (1, .int .u8 c)] []) Q
def v67a_at (sk fl : Bool) (ws : List Wd) (cm : List UInt8) (c i : Int) (Q : AV → Heap → Prop) : Prop := Wp M1 (.run fi67 (atC (cd Try.f67) [1, 1, 0, 1, 0, 0]) [(1, .int .u8 c), (2, .ptr 0 0 0 0), (5, .vnil), (6, .int .i64 i)] [⟨[.agg [.bool sk, .vec fl 2 (ws.map Wd.a), .str cm]], 3, 0, false, false⟩]) Q
def v67b_at (sk fl : Bool) (ws : List Wd) (cm : List UInt8) (c i : Int) (l : List Int) (v : Nat) (Q : AV → Heap → Prop) : Prop := Wp M1 (.run fi67 (atC (cd Try.f67) [1, 1, 0, 1, 0, 0]) [(1, .int .u8 c), (2, .ptr 0 0 0 0), (5, .row 1 v), (6, .int .i64 i)] [⟨[.agg [.bool sk, .vec fl 2 (ws.map Wd.a), .str cm]], 3, 0, false, false⟩, ⟨l.map (.int .i64), 1, v, false, true⟩]) Q
theorem call43 {args : List AV} {d : AV} (h : Wp M1 (.run fi43 [.code (cd Try.f43)] (argVars 0 args) []) (PureQ d)) : Ev M1 (.pure 43 args) d [] :=
  pure_pq Try.f43 fi43 (by kernel_rfl) (by kernel_rfl) (by kernel_rfl) (by kernel_rfl) h
theorem owncall43 {args : List AV} {L : Heap} {Q : AV → Heap → Prop} (h : Wp M1 (.run fi43 [.code (cd Try.f43)] (argVars 0 args) L) Q) : Wp M1 (.own 43 args L) Q :=
  own_wp Try.f43 fi43 (by kernel_rfl) (by kernel_rfl) (by kernel_rfl) (by kernel_rfl) h
theorem call67 {args : List AV} {d : AV} (h : Wp M1 (.run fi67 [.code (cd Try.f67)] (argVars 0 args) []) (PureQ d)) : Ev M1 (.pure 67 args) d [] :=
  pure_pq Try.f67 fi67 (by kernel_rfl) (by kernel_rfl) (by kernel_rfl) (by kernel_rfl) h
theorem owncall67 {args : List AV} {L : Heap} {Q : AV → Heap → Prop} (h : Wp M1 (.run fi67 [.code (cd Try.f67)] (argVars 0 args) L) Q) : Wp M1 (.own 67 args L) Q :=
  own_wp Try.f67 fi67 (by kernel_rfl) (by kernel_rfl) (by kernel_rfl) (by kernel_rfl) h
theorem v43 (sk fl : Bool) (ws : List Wd) (cm : List UInt8) (c : Int) (dq : AV) (H :
    v43a_at (fl) (ws) (c) ((↑ws.length : Int)) (0) (PureQ dq)) :
  v43_at sk fl ws cm c (PureQ dq) := by
  unfold v43_at
  have w1 : (List.map Wd.a ws).length = ws.length := List.length_map ..
  exact path_wp (G := given kp43 [] []) 1000 [] ⟨(atC (cd Try.f43) [1, 0, 1, 0, 0]), [(1, AV.int IntKind.u8 c), (9, AV.vec fl 2 (List.map Wd.a ws)), (10, AV.int IntKind.i64 (↑(List.map Wd.a ws).length : Int)), (11, AV.int IntKind.i64 0)], [{ elems := [AV.agg [AV.bool sk, AV.vec fl 2 (List.map Wd.a ws), AV.str cm]], es := 3, ver := 0, frozen := false, clean := false }], [true], [], []⟩ (by kernel_rfl) (allB_cons rfl allB_nil) allP_nil allC_nil (by rw [w1] <;> exact wp_narrow [] (by kernel_rfl) H)

theorem v43a (fl : Bool) (ws : List Wd) (c n i : Int) (dq : AV) (H :
    ((i < n) → (0 ≤ i) ∧
      (i.toNat < ws.length) ∧
      (((ws.getD i.toNat default).letter = c) → AV.tup [AV.int IntKind.i64 (ws.getD i.toNat default).value, AV.bool true] = dq) ∧
      (¬((ws.getD i.toNat default).letter = c) → (-9223372036854775808 ≤ i + 1 ∧ i + 1 ≤ 9223372036854775807) ∧
        v43a_at (fl) (ws) (c) (n) (i + 1) (PureQ dq))) ∧
    (¬(i < n) → AV.tup [AV.int IntKind.i64 0, AV.bool false] = dq)) :
  v43a_at fl ws c n i (PureQ dq) := by
  unfold v43a_at
  have i1 : (decide (i < n)) = true ↔ (i < n) := i_dec
  rcases Classical.em (i < n) with d2 | d2
  · have H := H.1 d2
    have i3 : (decide (0 ≤ i)) = true ↔ (0 ≤ i) := i_dec
    have k4 := H.1; have H := H.2
    have w5 : (List.map Wd.a ws).length = ws.length := List.length_map ..
    have i6 : (decide (i.toNat < (List.map Wd.a ws).length)) = true ↔ (i.toNat < ws.length) := (by rw [w5] <;> exact i_dec)
    have k7 := H.1; have H := H.2
    have i8 : ((ws.getD i.toNat default).letter == c) = true ↔ ((ws.getD i.toNat default).letter = c) := i_eq
    rcases Classical.em ((ws.getD i.toNat default).letter = c) with d9 | d9
    · have H := H.1 d9
      exact path_ret (G := given kp43 [(3, 1, .elem (AV.agg [AV.int IntKind.u8 (ws.getD i.toNat default).letter, AV.int IntKind.i64 (ws.getD i.toNat default).value]))] []) 1000 [true, true] (k := ((atC (cd Try.f43) [1, 0, 1, 0, 0, 1, 1, 0, 0, 1, 1, 0, 1])).tail) (env' := [(4, AV.int IntKind.i64 (ws.getD i.toNat default).value), (5, AV.bool true)]) (L' := [{ elems := [AV.agg [AV.int IntKind.u8 (ws.getD i.toNat default).letter, AV.int IntKind.i64 (ws.getD i.toNat default).value]], es := 2, ver := 0, frozen := false, clean := false }]) (asm := [(decide (i < n)) == true, decide (0 ≤ i), decide (i.toNat < (List.map Wd.a ws).length), true, true, ((ws.getD i.toNat default).letter == c) == true, true]) (eqs := [((List.map Wd.a ws).get?Internal i.toNat = some (AV.agg [AV.int IntKind.u8 (ws.getD i.toNat default).letter, AV.int IntKind.i64 (ws.getD i.toNat default).value]))]) (calls := []) (AV.tup [AV.int IntKind.i64 (ws.getD i.toNat default).value, AV.bool true]) (by kernel_rfl) (by kernel_rfl) (allB_cons (beq_t (i1.2 d2)) (allB_cons (i3.2 k4) (allB_cons (i6.2 k7) (allB_cons rfl (allB_cons rfl (allB_cons (beq_t (i8.2 d9)) (allB_cons rfl allB_nil))))))) (allP_cons (el_map k7) allP_nil) allC_nil (pq_of (d := AV.tup [AV.int IntKind.i64 (ws.getD i.toNat default).value, AV.bool true]) (bs := []) (by kernel_rfl) (by kernel_rfl) allB_nil (by kernel_rfl) H)
    · have H := H.2 d9
      have k10 := H.1; have H := H.2
      have w11 : IntKind.i64.wrap (i + 1) = i + 1 := wI64 k10
      exact path_wp (G := given kp43 [(3, 1, .elem (AV.agg [AV.int IntKind.u8 (ws.getD i.toNat default).letter, AV.int IntKind.i64 (ws.getD i.toNat default).value]))] []) 1000 [true, false] ⟨(atC (cd Try.f43) [1, 0, 1, 0, 0]), [(1, AV.int IntKind.u8 c), (9, AV.vec fl 2 (List.map Wd.a ws)), (10, AV.int IntKind.i64 n), (11, AV.int IntKind.i64 (IntKind.i64.wrap (i + 1)))], [{ elems := [AV.agg [AV.int IntKind.u8 (ws.getD i.toNat default).letter, AV.int IntKind.i64 (ws.getD i.toNat default).value]], es := 2, ver := 0, frozen := false, clean := false }], [(decide (i < n)) == true, decide (0 ≤ i), decide (i.toNat < (List.map Wd.a ws).length), true, true, ((ws.getD i.toNat default).letter == c) == false], [((List.map Wd.a ws).get?Internal i.toNat = some (AV.agg [AV.int IntKind.u8 (ws.getD i.toNat default).letter, AV.int IntKind.i64 (ws.getD i.toNat default).value]))], []⟩ (by kernel_rfl) (allB_cons (beq_t (i1.2 d2)) (allB_cons (i3.2 k4) (allB_cons (i6.2 k7) (allB_cons rfl (allB_cons rfl (allB_cons (beq_f (fun h => d9 (i8.1 h))) allB_nil)))))) (allP_cons (el_map k7) allP_nil) allC_nil (by rw [w11] <;> exact wp_narrow [] (by kernel_rfl) H)
  · have H := H.2 d2
    exact path_ret (G := given kp43 [] []) 1000 [false] (k := ((atC (cd Try.f43) [1, 1, 1])).tail) (env' := [(4, AV.int IntKind.i64 0), (5, AV.bool false)]) (L' := []) (asm := [(decide (i < n)) == false]) (eqs := []) (calls := []) (AV.tup [AV.int IntKind.i64 0, AV.bool false]) (by kernel_rfl) (by kernel_rfl) (allB_cons (beq_f (fun h => d2 (i1.1 h))) allB_nil) allP_nil allC_nil (pq_of (d := AV.tup [AV.int IntKind.i64 0, AV.bool false]) (bs := []) (by kernel_rfl) (by kernel_rfl) allB_nil (by kernel_rfl) H)

theorem v67 (sk fl : Bool) (ws : List Wd) (cm : List UInt8) (c : Int) (dq : AV) (H :
    v67a_at (sk) (fl) (ws) (cm) (c) (0) (PureQ dq)) :
  v67_at sk fl ws cm c (PureQ dq) := by
  unfold v67_at
  exact path_wp (G := given kp67 [] []) 1000 [] ⟨(atC (cd Try.f67) [1, 1, 0, 1, 0, 0]), [(1, AV.int IntKind.u8 c), (2, AV.ptr 0 0 0 0), (5, AV.vnil), (6, AV.int IntKind.i64 0)], [{ elems := [AV.agg [AV.bool sk, AV.vec fl 2 (List.map Wd.a ws), AV.str cm]], es := 3, ver := 0, frozen := false, clean := false }], [], [], []⟩ (by kernel_rfl) allB_nil allP_nil allC_nil (H)

theorem v67a (sk fl : Bool) (ws : List Wd) (cm : List UInt8) (c i : Int) (dq : AV) (H :
    ((i < (↑ws.length : Int)) → (0 ≤ i) ∧
      (i.toNat < ws.length) ∧
      (((ws.getD i.toNat default).letter = c) → (-9223372036854775808 ≤ i + 1 ∧ i + 1 ≤ 9223372036854775807) ∧
        v67b_at (sk) (fl) (ws) (cm) (c) (i + 1) ([(ws.getD i.toNat default).value]) (0) (PureQ dq)) ∧
      (¬((ws.getD i.toNat default).letter = c) → (-9223372036854775808 ≤ i + 1 ∧ i + 1 ≤ 9223372036854775807) ∧
        v67a_at (sk) (fl) (ws) (cm) (c) (i + 1) (PureQ dq))) ∧
    (¬(i < (↑ws.length : Int)) → Weak (AV.vnil) dq)) :
  v67a_at sk fl ws cm c i (PureQ dq) := by
  unfold v67a_at
  have w1 : (List.map Wd.a ws).length = ws.length := List.length_map ..
  have i2 : (decide (i < (↑(List.map Wd.a ws).length : Int))) = true ↔ (i < (↑ws.length : Int)) := (by rw [w1] <;> exact i_dec)
  rcases Classical.em (i < (↑ws.length : Int)) with d3 | d3
  · have H := H.1 d3
    have i4 : (decide (0 ≤ i)) = true ↔ (0 ≤ i) := i_dec
    have k5 := H.1; have H := H.2
    have i6 : (decide (i.toNat < (List.map Wd.a ws).length)) = true ↔ (i.toNat < ws.length) := (by rw [w1] <;> exact i_dec)
    have k7 := H.1; have H := H.2
    have i8 : ((ws.getD i.toNat default).letter == c) = true ↔ ((ws.getD i.toNat default).letter = c) := i_eq
    rcases Classical.em ((ws.getD i.toNat default).letter = c) with d9 | d9
    · have H := H.1 d9
      have i10 : (decide (0 ≤ i)) = true ↔ (0 ≤ i) := i_dec
      have i11 : (decide (i.toNat < (List.map Wd.a ws).length)) = true ↔ (i.toNat < ws.length) := (by rw [w1] <;> exact i_dec)
      have k12 := H.1; have H := H.2
      have w13 : IntKind.i64.wrap (i + 1) = i + 1 := wI64 k12
      have w14 : [AV.int IntKind.i64 (ws.getD i.toNat default).value] = List.map (AV.int IntKind.i64) [(ws.getD i.toNat default).value] := rfl
      exact path_wp (G := given kp67 [(5, 5, .elem (AV.agg [AV.int IntKind.u8 (ws.getD i.toNat default).letter, AV.int IntKind.i64 (ws.getD i.toNat default).value])), (6, 6, .elem (AV.agg [AV.int IntKind.u8 (ws.getD i.toNat default).letter, AV.int IntKind.i64 (ws.getD i.toNat default).value]))] []) 1000 [true, true] ⟨(atC (cd Try.f67) [1, 1, 0, 1, 0, 0]), [(1, AV.int IntKind.u8 c), (2, AV.ptr 0 0 0 0), (5, AV.row 1 0), (6, AV.int IntKind.i64 (IntKind.i64.wrap (i + 1)))], [{ elems := [AV.agg [AV.bool sk, AV.vec fl 2 (List.map Wd.a ws), AV.str cm]], es := 3, ver := 0, frozen := false, clean := false }, { elems := [AV.int IntKind.i64 (ws.getD i.toNat default).value], es := 1, ver := 0, frozen := false, clean := true }], [true, (decide (i < (↑(List.map Wd.a ws).length : Int))) == true, true, decide (0 ≤ i), decide (i.toNat < (List.map Wd.a ws).length), ((ws.getD i.toNat default).letter == c) == true, true, decide (0 ≤ i), decide (i.toNat < (List.map Wd.a ws).length), true], [((List.map Wd.a ws).get?Internal i.toNat = some (AV.agg [AV.int IntKind.u8 (ws.getD i.toNat default).letter, AV.int IntKind.i64 (ws.getD i.toNat default).value])), ((List.map Wd.a ws).get?Internal i.toNat = some (AV.agg [AV.int IntKind.u8 (ws.getD i.toNat default).letter, AV.int IntKind.i64 (ws.getD i.toNat default).value]))], []⟩ (by kernel_rfl) (allB_cons rfl (allB_cons (beq_t (i2.2 d3)) (allB_cons rfl (allB_cons (i4.2 k5) (allB_cons (i6.2 k7) (allB_cons (beq_t (i8.2 d9)) (allB_cons rfl (allB_cons (i10.2 k5) (allB_cons (i11.2 k7) (allB_cons rfl allB_nil)))))))))) (allP_cons (el_map k7) (allP_cons (el_map k7) allP_nil)) allC_nil (by rw [w13, w14] <;> exact H)
    · have H := H.2 d9
      have k15 := H.1; have H := H.2
      have w16 : IntKind.i64.wrap (i + 1) = i + 1 := wI64 k15
      exact path_wp (G := given kp67 [(5, 5, .elem (AV.agg [AV.int IntKind.u8 (ws.getD i.toNat default).letter, AV.int IntKind.i64 (ws.getD i.toNat default).value]))] []) 1000 [true, false] ⟨(atC (cd Try.f67) [1, 1, 0, 1, 0, 0]), [(1, AV.int IntKind.u8 c), (2, AV.ptr 0 0 0 0), (5, AV.vnil), (6, AV.int IntKind.i64 (IntKind.i64.wrap (i + 1)))], [{ elems := [AV.agg [AV.bool sk, AV.vec fl 2 (List.map Wd.a ws), AV.str cm]], es := 3, ver := 0, frozen := false, clean := false }], [true, (decide (i < (↑(List.map Wd.a ws).length : Int))) == true, true, decide (0 ≤ i), decide (i.toNat < (List.map Wd.a ws).length), ((ws.getD i.toNat default).letter == c) == false], [((List.map Wd.a ws).get?Internal i.toNat = some (AV.agg [AV.int IntKind.u8 (ws.getD i.toNat default).letter, AV.int IntKind.i64 (ws.getD i.toNat default).value]))], []⟩ (by kernel_rfl) (allB_cons rfl (allB_cons (beq_t (i2.2 d3)) (allB_cons rfl (allB_cons (i4.2 k5) (allB_cons (i6.2 k7) (allB_cons (beq_f (fun h => d9 (i8.1 h))) allB_nil)))))) (allP_cons (el_map k7) allP_nil) allC_nil (by rw [w16] <;> exact H)
  · have H := H.2 d3
    exact path_ret (G := given kp67 [] []) 1000 [false] (k := ((atC (cd Try.f67) [1, 1, 1, 1])).tail) (env' := [(4, AV.vnil)]) (L' := [{ elems := [AV.agg [AV.bool sk, AV.vec fl 2 (List.map Wd.a ws), AV.str cm]], es := 3, ver := 0, frozen := false, clean := false }]) (asm := [true, (decide (i < (↑(List.map Wd.a ws).length : Int))) == false]) (eqs := []) (calls := []) (AV.vnil) (by kernel_rfl) (by kernel_rfl) (allB_cons rfl (allB_cons (beq_f (fun h => d3 (i2.1 h))) allB_nil)) allP_nil allC_nil (pq_weak (d := AV.vnil) (bs := []) (by kernel_rfl) (by kernel_rfl) allB_nil (by kernel_rfl) H)

theorem v67b (sk fl : Bool) (ws : List Wd) (cm : List UInt8) (c i : Int) (l : List Int) (v : Nat) (dq : AV) (H :
    ((i < (↑ws.length : Int)) → (0 ≤ i) ∧
      (i.toNat < ws.length) ∧
      (((ws.getD i.toNat default).letter = c) → ((l.length + 1) * 8 ≤ 1099511627776) ∧
        (-9223372036854775808 ≤ i + 1 ∧ i + 1 ≤ 9223372036854775807) ∧
        v67b_at (sk) (fl) (ws) (cm) (c) (i + 1) (l ++ [(ws.getD i.toNat default).value]) (v + 1) (PureQ dq)) ∧
      (¬((ws.getD i.toNat default).letter = c) → (-9223372036854775808 ≤ i + 1 ∧ i + 1 ≤ 9223372036854775807) ∧
        v67b_at (sk) (fl) (ws) (cm) (c) (i + 1) (l) (v) (PureQ dq))) ∧
    (¬(i < (↑ws.length : Int)) → Weak (AV.vec false 1 (List.map (AV.int IntKind.i64) l)) dq)) :
  v67b_at sk fl ws cm c i l v (PureQ dq) := by
  unfold v67b_at
  have w1 : (List.map Wd.a ws).length = ws.length := List.length_map ..
  have i2 : (decide (i < (↑(List.map Wd.a ws).length : Int))) = true ↔ (i < (↑ws.length : Int)) := (by rw [w1] <;> exact i_dec)
  rcases Classical.em (i < (↑ws.length : Int)) with d3 | d3
  · have H := H.1 d3
    have i4 : (decide (0 ≤ i)) = true ↔ (0 ≤ i) := i_dec
    have k5 := H.1; have H := H.2
    have i6 : (decide (i.toNat < (List.map Wd.a ws).length)) = true ↔ (i.toNat < ws.length) := (by rw [w1] <;> exact i_dec)
    have k7 := H.1; have H := H.2
    have i8 : ((ws.getD i.toNat default).letter == c) = true ↔ ((ws.getD i.toNat default).letter = c) := i_eq
    rcases Classical.em ((ws.getD i.toNat default).letter = c) with d9 | d9
    · have H := H.1 d9
      have i10 : (decide (0 ≤ i)) = true ↔ (0 ≤ i) := i_dec
      have i11 : (decide (i.toNat < (List.map Wd.a ws).length)) = true ↔ (i.toNat < ws.length) := (by rw [w1] <;> exact i_dec)
      have w12 : (List.map (AV.int IntKind.i64) l).length = l.length := List.length_map ..
      have i13 : (decide (((List.map (AV.int IntKind.i64) l).length + 1) * 8 ≤ 1099511627776)) = true ↔ ((l.length + 1) * 8 ≤ 1099511627776) := (by rw [w12] <;> exact i_dec)
      have k14 := H.1; have H := H.2
      have w15 : List.map (AV.int IntKind.i64) l ++ [AV.int IntKind.i64 (ws.getD i.toNat default).value] = List.map (AV.int IntKind.i64) (l ++ [(ws.getD i.toNat default).value]) := (lm_app rfl rfl)
      have k16 := H.1; have H := H.2
      have w17 : IntKind.i64.wrap (i + 1) = i + 1 := wI64 k16
      exact path_wp (G := given kp67 [(5, 5, .elem (AV.agg [AV.int IntKind.u8 (ws.getD i.toNat default).letter, AV.int IntKind.i64 (ws.getD i.toNat default).value])), (6, 6, .elem (AV.agg [AV.int IntKind.u8 (ws.getD i.toNat default).letter, AV.int IntKind.i64 (ws.getD i.toNat default).value]))] []) 1000 [true, true] ⟨(atC (cd Try.f67) [1, 1, 0, 1, 0, 0]), [(1, AV.int IntKind.u8 c), (2, AV.ptr 0 0 0 0), (5, AV.row 1 (v + 1)), (6, AV.int IntKind.i64 (IntKind.i64.wrap (i + 1)))], [{ elems := [AV.agg [AV.bool sk, AV.vec fl 2 (List.map Wd.a ws), AV.str cm]], es := 3, ver := 0, frozen := false, clean := false }, { elems := List.map (AV.int IntKind.i64) l ++ [AV.int IntKind.i64 (ws.getD i.toNat default).value], es := 1, ver := v + 1, frozen := false, clean := true }], [true, (decide (i < (↑(List.map Wd.a ws).length : Int))) == true, true, decide (0 ≤ i), decide (i.toNat < (List.map Wd.a ws).length), ((ws.getD i.toNat default).letter == c) == true, true, decide (0 ≤ i), decide (i.toNat < (List.map Wd.a ws).length), v == v, decide (((List.map (AV.int IntKind.i64) l).length + 1) * 8 ≤ 1099511627776)], [((List.map Wd.a ws).get?Internal i.toNat = some (AV.agg [AV.int IntKind.u8 (ws.getD i.toNat default).letter, AV.int IntKind.i64 (ws.getD i.toNat default).value])), ((List.map Wd.a ws).get?Internal i.toNat = some (AV.agg [AV.int IntKind.u8 (ws.getD i.toNat default).letter, AV.int IntKind.i64 (ws.getD i.toNat default).value]))], []⟩ (by kernel_rfl) (allB_cons rfl (allB_cons (beq_t (i2.2 d3)) (allB_cons rfl (allB_cons (i4.2 k5) (allB_cons (i6.2 k7) (allB_cons (beq_t (i8.2 d9)) (allB_cons rfl (allB_cons (i10.2 k5) (allB_cons (i11.2 k7) (allB_cons (beq_self_eq_true _) (allB_cons (i13.2 k14) allB_nil))))))))))) (allP_cons (el_map k7) (allP_cons (el_map k7) allP_nil)) allC_nil (by rw [w15, w17] <;> exact H)
    · have H := H.2 d9
      have k18 := H.1; have H := H.2
      have w19 : IntKind.i64.wrap (i + 1) = i + 1 := wI64 k18
      exact path_wp (G := given kp67 [(5, 5, .elem (AV.agg [AV.int IntKind.u8 (ws.getD i.toNat default).letter, AV.int IntKind.i64 (ws.getD i.toNat default).value]))] []) 1000 [true, false] ⟨(atC (cd Try.f67) [1, 1, 0, 1, 0, 0]), [(1, AV.int IntKind.u8 c), (2, AV.ptr 0 0 0 0), (5, AV.row 1 v), (6, AV.int IntKind.i64 (IntKind.i64.wrap (i + 1)))], [{ elems := [AV.agg [AV.bool sk, AV.vec fl 2 (List.map Wd.a ws), AV.str cm]], es := 3, ver := 0, frozen := false, clean := false }, { elems := List.map (AV.int IntKind.i64) l, es := 1, ver := v, frozen := false, clean := true }], [true, (decide (i < (↑(List.map Wd.a ws).length : Int))) == true, true, decide (0 ≤ i), decide (i.toNat < (List.map Wd.a ws).length), ((ws.getD i.toNat default).letter == c) == false], [((List.map Wd.a ws).get?Internal i.toNat = some (AV.agg [AV.int IntKind.u8 (ws.getD i.toNat default).letter, AV.int IntKind.i64 (ws.getD i.toNat default).value]))], []⟩ (by kernel_rfl) (allB_cons rfl (allB_cons (beq_t (i2.2 d3)) (allB_cons rfl (allB_cons (i4.2 k5) (allB_cons (i6.2 k7) (allB_cons (beq_f (fun h => d9 (i8.1 h))) allB_nil)))))) (allP_cons (el_map k7) allP_nil) allC_nil (by rw [w19] <;> exact H)
  · have H := H.2 d3
    exact path_ret (G := given kp67 [] []) 1000 [false] (k := ((atC (cd Try.f67) [1, 1, 1, 1])).tail) (env' := [(4, AV.row 1 v)]) (L' := [{ elems := [AV.agg [AV.bool sk, AV.vec fl 2 (List.map Wd.a ws), AV.str cm]], es := 3, ver := 0, frozen := false, clean := false }, { elems := List.map (AV.int IntKind.i64) l, es := 1, ver := v, frozen := false, clean := true }]) (asm := [true, (decide (i < (↑(List.map Wd.a ws).length : Int))) == false]) (eqs := []) (calls := []) (AV.row 1 v) (by kernel_rfl) (by kernel_rfl) (allB_cons rfl (allB_cons (beq_f (fun h => d3 (i2.1 h))) allB_nil)) allP_nil allC_nil (pq_weak (d := AV.vec false 1 (List.map (AV.int IntKind.i64) l)) (bs := [v == v]) (by kernel_rfl) (by kernel_rfl) (allB_cons (beq_self_eq_true _) allB_nil) (by kernel_rfl) H)


end Go.Av
