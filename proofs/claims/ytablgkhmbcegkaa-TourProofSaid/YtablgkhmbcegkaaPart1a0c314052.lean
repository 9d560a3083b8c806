/- PART 5 of the texts of a claim, joined by a program: what each part shows stands at its head. -/
import Derived.Test.YtablgkhmbcegkaaPart9dd5d08347

/- PATHS, written by a program of the prover's. -/
namespace Go.Av
open Go.Proofs
set_option maxRecDepth 100000
def fi24 : Fi := ⟨46, [.tmp 4, .tmp 5]⟩
def kp24 : List (Nat × List Nat) := [(0, [0, 1]), (1, [0, 1, 6]), (2, [0, 1, 6, 14]), (3, [4, 5]), (4, [0, 1, 25]), (5, [4, 5]), (6, [0, 1, 26, 27, 28]), (7, [0, 1, 26, 27, 28, 29]), (8, [0, 1, 8, 26, 27, 28]), (9, [0, 1, 26, 27, 28, 37]), (10, [4, 5]), (11, [0, 1, 26, 27, 28]), (12, [9]), (13, [4, 5])]
def fi25 : Fi := ⟨80, [.tmp 4, .tmp 5]⟩
def kp25 : List (Nat × List Nat) := [(0, [0, 1]), (1, [0, 1, 6]), (2, [0, 1, 6, 14]), (3, [4, 5]), (4, [0, 1, 25]), (5, [4, 5]), (6, [0, 1, 7]), (7, [0, 1, 7, 8]), (8, [0, 1, 7, 8, 29]), (9, [0, 1, 7, 8]), (10, [0, 1, 7, 8, 43]), (11, [4, 5]), (12, [0, 1, 7, 8]), (13, [0, 1, 7, 52]), (14, [4, 5]), (15, [0, 1, 7, 9]), (16, [0, 1, 7, 9, 10]), (17, [0, 1, 7, 9, 10, 59]), (18, [0, 1, 7, 9, 10]), (19, [0, 1, 7, 9, 10]), (20, [4, 5])]
def v24a_at (fl fw : Bool) (gs : List G2) (w : List Int) (fx : Bool) (x : List Int) (n i : Int) (Q : AV → Heap → Prop) : Prop := Wp M1 (.run fi24 (atC (cd Try.f24) [1, 1, 1, 0, 1, 0, 0]) [(0, .vec fl 2 (gs.map G2.a)), (1, .vec fw 1 (w.map (.int .i64))), (26, .vec fx 1 (x.map (.int .i64))), (27, .int .i64 n), (28, .int .i64 i)] []) Q
def v25a_at (fl fw : Bool) (gs : List G2) (w : List Int) (s i : Int) (Q : AV → Heap → Prop) : Prop := Wp M1 (.run fi25 (atC (cd Try.f25) [1, 1, 1, 1, 0, 1, 0, 0]) [(0, .vec fl 2 (gs.map G2.a)), (1, .vec fw 1 (w.map (.int .i64))), (7, .int .i64 s), (8, .int .i64 i)] []) Q
def v25b_at (fl fw : Bool) (gs : List G2) (w : List Int) (s m i : Int) (Q : AV → Heap → Prop) : Prop := Wp M1 (.run fi25 (atC (cd Try.f25) [1, 1, 1, 1, 1, 1, 1, 0, 1, 0, 0]) [(0, .vec fl 2 (gs.map G2.a)), (1, .vec fw 1 (w.map (.int .i64))), (7, .int .i64 s), (9, .int .i64 m), (10, .int .i64 i)] []) Q
def v24_at (fl fw : Bool) (gs : List G2) (w : List Int) (Q : AV → Heap → Prop) : Prop := Wp M1 (.run fi24 (atC (cd Try.f24) []) [(0, .vec fl 2 (gs.map G2.a)), (1, .vec fw 1 (w.map (.int .i64)))] []) Q
def v25_at (fl fw : Bool) (gs : List G2) (w : List Int) (Q : AV → Heap → Prop) : Prop := Wp M1 (.run fi25 (atC (cd Try.f25) []) [(0, .vec fl 2 (gs.map G2.a)), (1, .vec fw 1 (w.map (.int .i64)))] []) Q
theorem call24 {args : List AV} {d : AV} (h : Wp M1 (.run fi24 [.code (cd Try.f24)] (argVars 0 args) []) (PureQ d)) : Ev M1 (.pure 24 args) d [] :=
  pure_pq Try.f24 fi24 (by kernel_rfl) (by kernel_rfl) (by kernel_rfl) (by kernel_rfl) h
theorem owncall24 {args : List AV} {L : Heap} {Q : AV → Heap → Prop} (h : Wp M1 (.run fi24 [.code (cd Try.f24)] (argVars 0 args) L) Q) : Wp M1 (.own 24 args L) Q :=
  own_wp Try.f24 fi24 (by kernel_rfl) (by kernel_rfl) (by kernel_rfl) (by kernel_rfl) h
theorem keepcall24 {args : List AV} {L : Heap} {v : AV} {K : Heap} (hk : keepOk L.length v K = true) (h : Wp M1 (.run fi24 [.code (cd Try.f24)] (argVars 0 args) L) (KeepQ v K)) : Ev M1 (.own 24 args L) v K :=
  own_keep Try.f24 fi24 (by kernel_rfl) (by kernel_rfl) (by kernel_rfl) (by kernel_rfl) hk h
theorem call25 {args : List AV} {d : AV} (h : Wp M1 (.run fi25 [.code (cd Try.f25)] (argVars 0 args) []) (PureQ d)) : Ev M1 (.pure 25 args) d [] :=
  pure_pq Try.f25 fi25 (by kernel_rfl) (by kernel_rfl) (by kernel_rfl) (by kernel_rfl) h
theorem owncall25 {args : List AV} {L : Heap} {Q : AV → Heap → Prop} (h : Wp M1 (.run fi25 [.code (cd Try.f25)] (argVars 0 args) L) Q) : Wp M1 (.own 25 args L) Q :=
  own_wp Try.f25 fi25 (by kernel_rfl) (by kernel_rfl) (by kernel_rfl) (by kernel_rfl) h
theorem keepcall25 {args : List AV} {L : Heap} {v : AV} {K : Heap} (hk : keepOk L.length v K = true) (h : Wp M1 (.run fi25 [.code (cd Try.f25)] (argVars 0 args) L) (KeepQ v K)) : Ev M1 (.own 25 args L) v K :=
  own_keep Try.f25 fi25 (by kernel_rfl) (by kernel_rfl) (by kernel_rfl) (by kernel_rfl) hk h
theorem v24a (fl fw : Bool) (gs : List G2) (w : List Int) (fx : Bool) (x : List Int) (n i : Int) (dq : AV) (H :
    ((i < n) → (0 ≤ i) ∧
      (i.toNat < x.length) ∧
      (((x.getD i.toNat default > 20000000) ∨ (x.getD i.toNat default < -20000000)) → AV.tup [AV.int IntKind.i64 0, AV.int IntKind.i64 11] = dq) ∧
      (¬((x.getD i.toNat default > 20000000) ∨ (x.getD i.toNat default < -20000000)) → (-9223372036854775808 ≤ i + 1 ∧ i + 1 ≤ 9223372036854775807) ∧
        v24a_at (fl) (fw) (gs) (w) (fx) (x) (n) (i + 1) (PureQ dq))) ∧
    (¬(i < n) → (Sp.okG gs ∧ gs.length ≤ 1000 ∧ Sp.okW w ∧ w.length = gs.length) ∧
      AV.tup [AV.int IntKind.i64 (if (↑gs.length : Int) < 2 then 0 else Sp.boundV gs w), AV.int IntKind.i64 0] = dq)) :
  v24a_at fl fw gs w fx x n i (PureQ dq) := by
  unfold v24a_at
  have i1 : (decide (i < n)) = true ↔ (i < n) := i_dec
  rcases Classical.em (i < n) with d2 | d2
  · have H := H.1 d2
    have i3 : (decide (0 ≤ i)) = true ↔ (0 ≤ i) := i_dec
    have k4 := H.1; have H := H.2
    have w5 : (List.map (AV.int IntKind.i64) x).length = x.length := List.length_map ..
    have i6 : (decide (i.toNat < (List.map (AV.int IntKind.i64) x).length)) = true ↔ (i.toNat < x.length) := (by rw [w5] <;> exact i_dec)
    have k7 := H.1; have H := H.2
    have i8 : (bif decide (x.getD i.toNat default > 20000000) then true else decide (x.getD i.toNat default < -20000000)) = true ↔ ((x.getD i.toNat default > 20000000) ∨ (x.getD i.toNat default < -20000000)) := (i_bor i_dec i_dec)
    rcases Classical.em ((x.getD i.toNat default > 20000000) ∨ (x.getD i.toNat default < -20000000)) with d9 | d9
    · have H := H.1 d9
      exact path_ret (G := given kp24 [(8, 1, .elem (AV.int IntKind.i64 (x.getD i.toNat default)))] []) 1000 [true, true] (k := ((atC (cd Try.f24) [1, 1, 1, 0, 1, 0, 0, 1, 1, 0, 0, 1, 1, 0, 1])).tail) (env' := [(4, AV.int IntKind.i64 0), (5, AV.int IntKind.i64 11)]) (L' := []) (asm := [(decide (i < n)) == true, decide (0 ≤ i), decide (i.toNat < (List.map (AV.int IntKind.i64) x).length), (bif decide (x.getD i.toNat default > 20000000) then true else decide (x.getD i.toNat default < -20000000)) == true]) (eqs := [((List.map (AV.int IntKind.i64) x).get?Internal i.toNat = some (AV.int IntKind.i64 (x.getD i.toNat default)))]) (calls := []) (AV.tup [AV.int IntKind.i64 0, AV.int IntKind.i64 11]) (by kernel_rfl) (by kernel_rfl) (allB_cons (beq_t (i1.2 d2)) (allB_cons (i3.2 k4) (allB_cons (i6.2 k7) (allB_cons (beq_t (i8.2 d9)) allB_nil)))) (allP_cons (el_map k7) allP_nil) allC_nil (pq_of (d := AV.tup [AV.int IntKind.i64 0, AV.int IntKind.i64 11]) (bs := []) (by kernel_rfl) (by kernel_rfl) allB_nil (by kernel_rfl) H)
    · have H := H.2 d9
      have k10 := H.1; have H := H.2
      have w11 : IntKind.i64.wrap (i + 1) = i + 1 := wI64 k10
      exact path_wp (G := given kp24 [(8, 1, .elem (AV.int IntKind.i64 (x.getD i.toNat default)))] []) 1000 [true, false] ⟨(atC (cd Try.f24) [1, 1, 1, 0, 1, 0, 0]), [(0, AV.vec fl 2 (List.map G2.a gs)), (1, AV.vec fw 1 (List.map (AV.int IntKind.i64) w)), (26, AV.vec fx 1 (List.map (AV.int IntKind.i64) x)), (27, AV.int IntKind.i64 n), (28, AV.int IntKind.i64 (IntKind.i64.wrap (i + 1)))], [], [(decide (i < n)) == true, decide (0 ≤ i), decide (i.toNat < (List.map (AV.int IntKind.i64) x).length), (bif decide (x.getD i.toNat default > 20000000) then true else decide (x.getD i.toNat default < -20000000)) == false], [((List.map (AV.int IntKind.i64) x).get?Internal i.toNat = some (AV.int IntKind.i64 (x.getD i.toNat default)))], []⟩ (by kernel_rfl) (allB_cons (beq_t (i1.2 d2)) (allB_cons (i3.2 k4) (allB_cons (i6.2 k7) (allB_cons (beq_f (fun h => d9 (i8.1 h))) allB_nil)))) (allP_cons (el_map k7) allP_nil) allC_nil (by rw [w11] <;> exact H)
  · have H := H.2 d2
    have k12 := H.1; have H := H.2
    exact path_ret (G := given kp24 [(12, 2, .call (AV.tup [AV.int IntKind.i64 (if (↑gs.length : Int) < 2 then 0 else Sp.boundV gs w), AV.vec false 1 (List.map (AV.int IntKind.i64) (Sp.spanPairs gs w))]) none)] []) 1000 [false] (k := ((atC (cd Try.f24) [1, 1, 1, 1, 1, 1])).tail) (env' := [(4, AV.int IntKind.i64 (if (↑gs.length : Int) < 2 then 0 else Sp.boundV gs w)), (5, AV.int IntKind.i64 0)]) (L' := []) (asm := [(decide (i < n)) == false]) (eqs := []) (calls := [⟨true, false, 40, [AV.vec fl 2 (List.map G2.a gs), AV.vec fw 1 (List.map (AV.int IntKind.i64) w)], [], AV.tup [AV.int IntKind.i64 (if (↑gs.length : Int) < 2 then 0 else Sp.boundV gs w), AV.vec false 1 (List.map (AV.int IntKind.i64) (Sp.spanPairs gs w))], []⟩]) (AV.tup [AV.int IntKind.i64 (if (↑gs.length : Int) < 2 then 0 else Sp.boundV gs w), AV.int IntKind.i64 0]) (by kernel_rfl) (by kernel_rfl) (allB_cons (beq_f (fun h => d2 (i1.1 h))) allB_nil) allP_nil (allC_cons (fun _ => ((@ev40 (fl) (fw) (gs) (w) k12) : Ev M1 (Conf.pure 40 [AV.vec fl 2 (List.map G2.a gs), AV.vec fw 1 (List.map (AV.int IntKind.i64) w)]) (AV.tup [AV.int IntKind.i64 (if (↑gs.length : Int) < 2 then 0 else Sp.boundV gs w), AV.vec false 1 (List.map (AV.int IntKind.i64) (Sp.spanPairs gs w))]) [])) allC_nil) (pq_of (d := AV.tup [AV.int IntKind.i64 (if (↑gs.length : Int) < 2 then 0 else Sp.boundV gs w), AV.int IntKind.i64 0]) (bs := []) (by kernel_rfl) (by kernel_rfl) allB_nil (by kernel_rfl) H)

theorem v25a (fl fw : Bool) (gs : List G2) (w : List Int) (s i : Int) (dq : AV) (H :
    ((i < (↑w.length : Int)) → (0 ≤ i) ∧
      (i.toNat < w.length) ∧
      (((w.getD i.toNat default > 20000000) ∨ (w.getD i.toNat default < -20000000)) → AV.tup [AV.int IntKind.i64 0, AV.int IntKind.i64 11] = dq) ∧
      (¬((w.getD i.toNat default > 20000000) ∨ (w.getD i.toNat default < -20000000)) → (-9223372036854775808 ≤ s + w.getD i.toNat default ∧ s + w.getD i.toNat default ≤ 9223372036854775807) ∧
        (-9223372036854775808 ≤ i + 1 ∧ i + 1 ≤ 9223372036854775807) ∧
        v25a_at (fl) (fw) (gs) (w) (s + w.getD i.toNat default) (i + 1) (PureQ dq))) ∧
    (¬(i < (↑w.length : Int)) → (((↑gs.length : Int) = 1) → AV.tup [AV.int IntKind.i64 0, AV.int IntKind.i64 0] = dq) ∧
      (¬((↑gs.length : Int) = 1) → (1 < w.length) ∧
        v25b_at (fl) (fw) (gs) (w) (s) (w.getD 1 default) (1) (PureQ dq)))) :
  v25a_at fl fw gs w s i (PureQ dq) := by
  unfold v25a_at
  have w1 : (List.map (AV.int IntKind.i64) w).length = w.length := List.length_map ..
  have i2 : (decide (i < (↑(List.map (AV.int IntKind.i64) w).length : Int))) = true ↔ (i < (↑w.length : Int)) := (by rw [w1] <;> exact i_dec)
  rcases Classical.em (i < (↑w.length : Int)) with d3 | d3
  · have H := H.1 d3
    have i4 : (decide (0 ≤ i)) = true ↔ (0 ≤ i) := i_dec
    have k5 := H.1; have H := H.2
    have i6 : (decide (i.toNat < (List.map (AV.int IntKind.i64) w).length)) = true ↔ (i.toNat < w.length) := (by rw [w1] <;> exact i_dec)
    have k7 := H.1; have H := H.2
    have i8 : (!(decide (w.getD i.toNat default > 20000000) == false && true) || decide (0 ≤ i)) = true ↔ ((¬(w.getD i.toNat default > 20000000)) → (0 ≤ i)) := (i_imp (i_at (i_bf i_dec)) i_dec)
    have i9 : (!(decide (w.getD i.toNat default > 20000000) == false && true) || decide (i.toNat < (List.map (AV.int IntKind.i64) w).length)) = true ↔ ((¬(w.getD i.toNat default > 20000000)) → (i.toNat < w.length)) := (by rw [w1] <;> exact (i_imp (i_at (i_bf i_dec)) i_dec))
    have i10 : (decide (w.getD i.toNat default > 20000000) == false && true) = true ↔ (¬(w.getD i.toNat default > 20000000)) := (i_at (i_bf i_dec))
    have i11 : (bif decide (w.getD i.toNat default > 20000000) then true else decide (w.getD i.toNat default < -20000000)) = true ↔ ((w.getD i.toNat default > 20000000) ∨ (w.getD i.toNat default < -20000000)) := (i_bor i_dec i_dec)
    rcases Classical.em ((w.getD i.toNat default > 20000000) ∨ (w.getD i.toNat default < -20000000)) with d12 | d12
    · have H := H.1 d12
      exact path_ret (G := given kp25 [(10, 3, .elem (AV.int IntKind.i64 (w.getD i.toNat default))), (10, 9, .elem (AV.int IntKind.i64 (w.getD i.toNat default)))] []) 1000 [true, true] (k := ((atC (cd Try.f25) [1, 1, 1, 1, 0, 1, 0, 0, 1, 0, 0, 0, 1, 0, 1])).tail) (env' := [(4, AV.int IntKind.i64 0), (5, AV.int IntKind.i64 11)]) (L' := []) (asm := [(decide (i < (↑(List.map (AV.int IntKind.i64) w).length : Int))) == true, decide (0 ≤ i), decide (i.toNat < (List.map (AV.int IntKind.i64) w).length), !(decide (w.getD i.toNat default > 20000000) == false && true) || decide (0 ≤ i), !(decide (w.getD i.toNat default > 20000000) == false && true) || decide (i.toNat < (List.map (AV.int IntKind.i64) w).length), (bif decide (w.getD i.toNat default > 20000000) then true else decide (w.getD i.toNat default < -20000000)) == true]) (eqs := [((List.map (AV.int IntKind.i64) w).get?Internal i.toNat = some (AV.int IntKind.i64 (w.getD i.toNat default))), ((decide (w.getD i.toNat default > 20000000) == false && true) = true → (List.map (AV.int IntKind.i64) w).get?Internal i.toNat = some (AV.int IntKind.i64 (w.getD i.toNat default)))]) (calls := []) (AV.tup [AV.int IntKind.i64 0, AV.int IntKind.i64 11]) (by kernel_rfl) (by kernel_rfl) (allB_cons (beq_t (i2.2 d3)) (allB_cons (i4.2 k5) (allB_cons (i6.2 k7) (allB_cons (i8.2 (fun _ => k5)) (allB_cons (i9.2 (fun _ => k7)) (allB_cons (beq_t (i11.2 d12)) allB_nil)))))) (allP_cons (el_map k7) (allP_cons (fun h => el_map k7) allP_nil)) allC_nil (pq_of (d := AV.tup [AV.int IntKind.i64 0, AV.int IntKind.i64 11]) (bs := []) (by kernel_rfl) (by kernel_rfl) allB_nil (by kernel_rfl) H)
    · have H := H.2 d12
      have i13 : (decide (0 ≤ i)) = true ↔ (0 ≤ i) := i_dec
      have i14 : (decide (i.toNat < (List.map (AV.int IntKind.i64) w).length)) = true ↔ (i.toNat < w.length) := (by rw [w1] <;> exact i_dec)
      have k15 := H.1; have H := H.2
      have w16 : IntKind.i64.wrap (s + w.getD i.toNat default) = s + w.getD i.toNat default := wI64 k15
      have k17 := H.1; have H := H.2
      have w18 : IntKind.i64.wrap (i + 1) = i + 1 := wI64 k17
      exact path_wp (G := given kp25 [(10, 3, .elem (AV.int IntKind.i64 (w.getD i.toNat default))), (10, 9, .elem (AV.int IntKind.i64 (w.getD i.toNat default))), (12, 4, .elem (AV.int IntKind.i64 (w.getD i.toNat default)))] []) 1000 [true, false] ⟨(atC (cd Try.f25) [1, 1, 1, 1, 0, 1, 0, 0]), [(0, AV.vec fl 2 (List.map G2.a gs)), (1, AV.vec fw 1 (List.map (AV.int IntKind.i64) w)), (7, AV.int IntKind.i64 (IntKind.i64.wrap (s + w.getD i.toNat default))), (8, AV.int IntKind.i64 (IntKind.i64.wrap (i + 1)))], [], [(decide (i < (↑(List.map (AV.int IntKind.i64) w).length : Int))) == true, decide (0 ≤ i), decide (i.toNat < (List.map (AV.int IntKind.i64) w).length), !(decide (w.getD i.toNat default > 20000000) == false && true) || decide (0 ≤ i), !(decide (w.getD i.toNat default > 20000000) == false && true) || decide (i.toNat < (List.map (AV.int IntKind.i64) w).length), (bif decide (w.getD i.toNat default > 20000000) then true else decide (w.getD i.toNat default < -20000000)) == false, decide (0 ≤ i), decide (i.toNat < (List.map (AV.int IntKind.i64) w).length)], [((List.map (AV.int IntKind.i64) w).get?Internal i.toNat = some (AV.int IntKind.i64 (w.getD i.toNat default))), ((decide (w.getD i.toNat default > 20000000) == false && true) = true → (List.map (AV.int IntKind.i64) w).get?Internal i.toNat = some (AV.int IntKind.i64 (w.getD i.toNat default))), ((List.map (AV.int IntKind.i64) w).get?Internal i.toNat = some (AV.int IntKind.i64 (w.getD i.toNat default)))], []⟩ (by kernel_rfl) (allB_cons (beq_t (i2.2 d3)) (allB_cons (i4.2 k5) (allB_cons (i6.2 k7) (allB_cons (i8.2 (fun _ => k5)) (allB_cons (i9.2 (fun _ => k7)) (allB_cons (beq_f (fun h => d12 (i11.1 h))) (allB_cons (i13.2 k5) (allB_cons (i14.2 k7) allB_nil)))))))) (allP_cons (el_map k7) (allP_cons (fun h => el_map k7) (allP_cons (el_map k7) allP_nil))) allC_nil (by rw [w16, w18] <;> exact H)
  · have H := H.2 d3
    have w19 : (List.map G2.a gs).length = gs.length := List.length_map ..
    have i20 : ((↑(List.map G2.a gs).length : Int) == 1) = true ↔ ((↑gs.length : Int) = 1) := (by rw [w19] <;> exact i_eq)
    rcases Classical.em ((↑gs.length : Int) = 1) with d21 | d21
    · have H := H.1 d21
      exact path_ret (G := given kp25 [] []) 1000 [false, true] (k := ((atC (cd Try.f25) [1, 1, 1, 1, 1, 0, 1, 0, 1])).tail) (env' := [(4, AV.int IntKind.i64 0), (5, AV.int IntKind.i64 0)]) (L' := []) (asm := [(decide (i < (↑(List.map (AV.int IntKind.i64) w).length : Int))) == false, ((↑(List.map G2.a gs).length : Int) == 1) == true]) (eqs := []) (calls := []) (AV.tup [AV.int IntKind.i64 0, AV.int IntKind.i64 0]) (by kernel_rfl) (by kernel_rfl) (allB_cons (beq_f (fun h => d3 (i2.1 h))) (allB_cons (beq_t (i20.2 d21)) allB_nil)) allP_nil allC_nil (pq_of (d := AV.tup [AV.int IntKind.i64 0, AV.int IntKind.i64 0]) (bs := []) (by kernel_rfl) (by kernel_rfl) allB_nil (by kernel_rfl) H)
    · have H := H.2 d21
      have i22 : (decide (1 < (List.map (AV.int IntKind.i64) w).length)) = true ↔ (1 < w.length) := (by rw [w1] <;> exact i_dec)
      have k23 := H.1; have H := H.2
      exact path_wp (G := given kp25 [(15, 2, .elem (AV.int IntKind.i64 (w.getD 1 default)))] []) 1000 [false, false] ⟨(atC (cd Try.f25) [1, 1, 1, 1, 1, 1, 1, 0, 1, 0, 0]), [(0, AV.vec fl 2 (List.map G2.a gs)), (1, AV.vec fw 1 (List.map (AV.int IntKind.i64) w)), (7, AV.int IntKind.i64 s), (9, AV.int IntKind.i64 (w.getD 1 default)), (10, AV.int IntKind.i64 1)], [], [(decide (i < (↑(List.map (AV.int IntKind.i64) w).length : Int))) == false, ((↑(List.map G2.a gs).length : Int) == 1) == false, true, decide (1 < (List.map (AV.int IntKind.i64) w).length)], [((List.map (AV.int IntKind.i64) w).get?Internal 1 = some (AV.int IntKind.i64 (w.getD 1 default)))], []⟩ (by kernel_rfl) (allB_cons (beq_f (fun h => d3 (i2.1 h))) (allB_cons (beq_f (fun h => d21 (i20.1 h))) (allB_cons rfl (allB_cons (i22.2 k23) allB_nil)))) (allP_cons (el_map k23) allP_nil) allC_nil (H)

theorem v25b (fl fw : Bool) (gs : List G2) (w : List Int) (s m i : Int) (dq : AV) (H :
    ((i < (↑w.length : Int)) → (0 ≤ i) ∧
      (i.toNat < w.length) ∧
      (-9223372036854775808 ≤ i + 1 ∧ i + 1 ≤ 9223372036854775807) ∧
      v25b_at (fl) (fw) (gs) (w) (s) (if w.getD i.toNat default < m then w.getD i.toNat default else m) (i + 1) (PureQ dq)) ∧
    (¬(i < (↑w.length : Int)) → (Sp.okG gs ∧ gs.length ≤ 1000 ∧ Sp.okW w ∧ w.length = gs.length) ∧
      (0 < w.length) ∧
      (-9223372036854775808 ≤ 2 * s ∧ 2 * s ≤ 9223372036854775807) ∧
      (-9223372036854775808 ≤ Sp.mst gs w - 2 * s ∧ Sp.mst gs w - 2 * s ≤ 9223372036854775807) ∧
      (-9223372036854775808 ≤ Sp.mst gs w - 2 * s + w.getD 0 default ∧ Sp.mst gs w - 2 * s + w.getD 0 default ≤ 9223372036854775807) ∧
      (-9223372036854775808 ≤ Sp.mst gs w - 2 * s + w.getD 0 default + m ∧ Sp.mst gs w - 2 * s + w.getD 0 default + m ≤ 9223372036854775807) ∧
      AV.tup [AV.int IntKind.i64 (Sp.mst gs w - 2 * s + w.getD 0 default + m), AV.int IntKind.i64 0] = dq)) :
  v25b_at fl fw gs w s m i (PureQ dq) := by
  unfold v25b_at
  have w1 : (List.map (AV.int IntKind.i64) w).length = w.length := List.length_map ..
  have i2 : (decide (i < (↑(List.map (AV.int IntKind.i64) w).length : Int))) = true ↔ (i < (↑w.length : Int)) := (by rw [w1] <;> exact i_dec)
  rcases Classical.em (i < (↑w.length : Int)) with d3 | d3
  · have H := H.1 d3
    have i4 : (decide (0 ≤ i)) = true ↔ (0 ≤ i) := i_dec
    have k5 := H.1; have H := H.2
    have i6 : (decide (i.toNat < (List.map (AV.int IntKind.i64) w).length)) = true ↔ (i.toNat < w.length) := (by rw [w1] <;> exact i_dec)
    have k7 := H.1; have H := H.2
    have k8 := H.1; have H := H.2
    have w9 : IntKind.i64.wrap (i + 1) = i + 1 := wI64 k8
    exact path_wp (G := given kp25 [(19, 4, .elem (AV.int IntKind.i64 (w.getD i.toNat default)))] []) 1000 [true] ⟨(atC (cd Try.f25) [1, 1, 1, 1, 1, 1, 1, 0, 1, 0, 0]), [(0, AV.vec fl 2 (List.map G2.a gs)), (1, AV.vec fw 1 (List.map (AV.int IntKind.i64) w)), (7, AV.int IntKind.i64 s), (9, AV.int IntKind.i64 (if w.getD i.toNat default < m then w.getD i.toNat default else m)), (10, AV.int IntKind.i64 (IntKind.i64.wrap (i + 1)))], [], [(decide (i < (↑(List.map (AV.int IntKind.i64) w).length : Int))) == true, decide (0 ≤ i), decide (i.toNat < (List.map (AV.int IntKind.i64) w).length)], [((List.map (AV.int IntKind.i64) w).get?Internal i.toNat = some (AV.int IntKind.i64 (w.getD i.toNat default)))], []⟩ (by kernel_rfl) (allB_cons (beq_t (i2.2 d3)) (allB_cons (i4.2 k5) (allB_cons (i6.2 k7) allB_nil))) (allP_cons (el_map k7) allP_nil) allC_nil (by rw [w9] <;> exact H)
  · have H := H.2 d3
    have k10 := H.1; have H := H.2
    have i11 : (decide (0 < (List.map (AV.int IntKind.i64) w).length)) = true ↔ (0 < w.length) := (by rw [w1] <;> exact i_dec)
    have k12 := H.1; have H := H.2
    have k13 := H.1; have H := H.2
    have w14 : IntKind.i64.wrap (2 * s) = 2 * s := wI64 k13
    have k15 := H.1; have H := H.2
    have w16 : IntKind.i64.wrap (Sp.mst gs w - 2 * s) = Sp.mst gs w - 2 * s := wI64 k15
    have k17 := H.1; have H := H.2
    have w18 : IntKind.i64.wrap (Sp.mst gs w - 2 * s + w.getD 0 default) = Sp.mst gs w - 2 * s + w.getD 0 default := wI64 k17
    have k19 := H.1; have H := H.2
    have w20 : IntKind.i64.wrap (Sp.mst gs w - 2 * s + w.getD 0 default + m) = Sp.mst gs w - 2 * s + w.getD 0 default + m := wI64 k19
    exact path_ret (G := given kp25 [(20, 2, .call (AV.int IntKind.i64 (Sp.mst gs w)) none), (20, 8, .elem (AV.int IntKind.i64 (w.getD 0 default)))] []) 1000 [false] (k := ((atC (cd Try.f25) [1, 1, 1, 1, 1, 1, 1, 1, 1])).tail) (env' := [(4, AV.int IntKind.i64 (IntKind.i64.wrap (IntKind.i64.wrap (IntKind.i64.wrap (Sp.mst gs w - IntKind.i64.wrap (2 * s)) + w.getD 0 default) + m))), (5, AV.int IntKind.i64 0)]) (L' := []) (asm := [(decide (i < (↑(List.map (AV.int IntKind.i64) w).length : Int))) == false, true, decide (0 < (List.map (AV.int IntKind.i64) w).length)]) (eqs := [((List.map (AV.int IntKind.i64) w).get?Internal 0 = some (AV.int IntKind.i64 (w.getD 0 default)))]) (calls := [⟨true, false, 37, [AV.vec fl 2 (List.map G2.a gs), AV.vec fw 1 (List.map (AV.int IntKind.i64) w)], [], AV.int IntKind.i64 (Sp.mst gs w), []⟩]) (AV.tup [AV.int IntKind.i64 (IntKind.i64.wrap (IntKind.i64.wrap (IntKind.i64.wrap (Sp.mst gs w - IntKind.i64.wrap (2 * s)) + w.getD 0 default) + m)), AV.int IntKind.i64 0]) (by kernel_rfl) (by kernel_rfl) (allB_cons (beq_f (fun h => d3 (i2.1 h))) (allB_cons rfl (allB_cons (i11.2 k12) allB_nil))) (allP_cons (el_map k12) allP_nil) (allC_cons (fun _ => ((@ev37 (fl) (fw) (gs) (w) k10) : Ev M1 (Conf.pure 37 [AV.vec fl 2 (List.map G2.a gs), AV.vec fw 1 (List.map (AV.int IntKind.i64) w)]) (AV.int IntKind.i64 (Sp.mst gs w)) [])) allC_nil) (pq_of (d := AV.tup [AV.int IntKind.i64 (IntKind.i64.wrap (IntKind.i64.wrap (IntKind.i64.wrap (Sp.mst gs w - IntKind.i64.wrap (2 * s)) + w.getD 0 default) + m)), AV.int IntKind.i64 0]) (bs := []) (by kernel_rfl) (by kernel_rfl) allB_nil (by kernel_rfl) (by rw [w14, w16, w18, w20] <;> exact H))

theorem v24 (fl fw : Bool) (gs : List G2) (w : List Int) (dq : AV) (H :
    (Sp.mOk 200) ∧
    ((¬Sp.checkE gs 200 = 0) → AV.tup [AV.int IntKind.i64 0, AV.int IntKind.i64 (Sp.checkE gs 200)] = dq) ∧
    (¬(¬Sp.checkE gs 200 = 0) → ((((↑gs.length : Int) = 0) ∨ (¬(↑w.length : Int) = (↑gs.length : Int))) → AV.tup [AV.int IntKind.i64 0, AV.int IntKind.i64 1] = dq) ∧
      (¬(((↑gs.length : Int) = 0) ∨ (¬(↑w.length : Int) = (↑gs.length : Int))) → v24a_at (fl) (fw) (gs) (w) (fw) (w) ((↑w.length : Int)) (0) (PureQ dq)))) :
  v24_at fl fw gs w (PureQ dq) := by
  unfold v24_at
  have k1 := H.1; have H := H.2
  have i2 : (Sp.checkE gs 200 != 0) = true ↔ (¬Sp.checkE gs 200 = 0) := i_ne
  rcases Classical.em (¬Sp.checkE gs 200 = 0) with d3 | d3
  · have H := H.1 d3
    exact path_ret (G := given kp24 [(1, 1, .call (AV.int IntKind.i64 (Sp.checkE gs 200)) none)] []) 1000 [true] (k := ((atC (cd Try.f24) [1, 0, 1, 1, 0, 1])).tail) (env' := [(4, AV.int IntKind.i64 0), (5, AV.int IntKind.i64 (Sp.checkE gs 200))]) (L' := []) (asm := [(Sp.checkE gs 200 != 0) == true]) (eqs := []) (calls := [⟨true, false, 28, [AV.vec fl 2 (List.map G2.a gs), AV.int IntKind.i64 200], [], AV.int IntKind.i64 (Sp.checkE gs 200), []⟩]) (AV.tup [AV.int IntKind.i64 0, AV.int IntKind.i64 (Sp.checkE gs 200)]) (by kernel_rfl) (by kernel_rfl) (allB_cons (beq_t (i2.2 d3)) allB_nil) allP_nil (allC_cons (fun _ => ((@ev28 (fl) (gs) (200) k1) : Ev M1 (Conf.pure 28 [AV.vec fl 2 (List.map G2.a gs), AV.int IntKind.i64 200]) (AV.int IntKind.i64 (Sp.checkE gs 200)) [])) allC_nil) (pq_of (d := AV.tup [AV.int IntKind.i64 0, AV.int IntKind.i64 (Sp.checkE gs 200)]) (bs := []) (by kernel_rfl) (by kernel_rfl) allB_nil (by kernel_rfl) H)
  · have H := H.2 d3
    have w4 : (List.map G2.a gs).length = gs.length := List.length_map ..
    have w5 : (List.map (AV.int IntKind.i64) w).length = w.length := List.length_map ..
    have i6 : (bif (↑(List.map G2.a gs).length : Int) == 0 then true else (↑(List.map (AV.int IntKind.i64) w).length : Int) != (↑(List.map G2.a gs).length : Int)) = true ↔ (((↑gs.length : Int) = 0) ∨ (¬(↑w.length : Int) = (↑gs.length : Int))) := (by rw [w4, w5] <;> exact (i_bor i_eq i_ne))
    rcases Classical.em (((↑gs.length : Int) = 0) ∨ (¬(↑w.length : Int) = (↑gs.length : Int))) with d7 | d7
    · have H := H.1 d7
      exact path_ret (G := given kp24 [(1, 1, .call (AV.int IntKind.i64 (Sp.checkE gs 200)) none)] []) 1000 [false, true] (k := ((atC (cd Try.f24) [1, 1, 0, 1, 0, 1])).tail) (env' := [(4, AV.int IntKind.i64 0), (5, AV.int IntKind.i64 1)]) (L' := []) (asm := [(Sp.checkE gs 200 != 0) == false, (bif (↑(List.map G2.a gs).length : Int) == 0 then true else (↑(List.map (AV.int IntKind.i64) w).length : Int) != (↑(List.map G2.a gs).length : Int)) == true]) (eqs := []) (calls := [⟨true, false, 28, [AV.vec fl 2 (List.map G2.a gs), AV.int IntKind.i64 200], [], AV.int IntKind.i64 (Sp.checkE gs 200), []⟩]) (AV.tup [AV.int IntKind.i64 0, AV.int IntKind.i64 1]) (by kernel_rfl) (by kernel_rfl) (allB_cons (beq_f (fun h => d3 (i2.1 h))) (allB_cons (beq_t (i6.2 d7)) allB_nil)) allP_nil (allC_cons (fun _ => ((@ev28 (fl) (gs) (200) k1) : Ev M1 (Conf.pure 28 [AV.vec fl 2 (List.map G2.a gs), AV.int IntKind.i64 200]) (AV.int IntKind.i64 (Sp.checkE gs 200)) [])) allC_nil) (pq_of (d := AV.tup [AV.int IntKind.i64 0, AV.int IntKind.i64 1]) (bs := []) (by kernel_rfl) (by kernel_rfl) allB_nil (by kernel_rfl) H)
    · have H := H.2 d7
      exact path_wp (G := given kp24 [(1, 1, .call (AV.int IntKind.i64 (Sp.checkE gs 200)) none)] []) 1000 [false, false] ⟨(atC (cd Try.f24) [1, 1, 1, 0, 1, 0, 0]), [(0, AV.vec fl 2 (List.map G2.a gs)), (1, AV.vec fw 1 (List.map (AV.int IntKind.i64) w)), (26, AV.vec fw 1 (List.map (AV.int IntKind.i64) w)), (27, AV.int IntKind.i64 (↑(List.map (AV.int IntKind.i64) w).length : Int)), (28, AV.int IntKind.i64 0)], [], [(Sp.checkE gs 200 != 0) == false, (bif (↑(List.map G2.a gs).length : Int) == 0 then true else (↑(List.map (AV.int IntKind.i64) w).length : Int) != (↑(List.map G2.a gs).length : Int)) == false], [], [⟨true, false, 28, [AV.vec fl 2 (List.map G2.a gs), AV.int IntKind.i64 200], [], AV.int IntKind.i64 (Sp.checkE gs 200), []⟩]⟩ (by kernel_rfl) (allB_cons (beq_f (fun h => d3 (i2.1 h))) (allB_cons (beq_f (fun h => d7 (i6.1 h))) allB_nil)) allP_nil (allC_cons (fun _ => ((@ev28 (fl) (gs) (200) k1) : Ev M1 (Conf.pure 28 [AV.vec fl 2 (List.map G2.a gs), AV.int IntKind.i64 200]) (AV.int IntKind.i64 (Sp.checkE gs 200)) [])) allC_nil) (by rw [w5] <;> exact H)

theorem v25 (fl fw : Bool) (gs : List G2) (w : List Int) (dq : AV) (H :
    (Sp.mOk 200) ∧
    ((¬Sp.checkE gs 200 = 0) → AV.tup [AV.int IntKind.i64 0, AV.int IntKind.i64 (Sp.checkE gs 200)] = dq) ∧
    (¬(¬Sp.checkE gs 200 = 0) → ((((↑gs.length : Int) = 0) ∨ (¬(↑w.length : Int) = (↑gs.length : Int))) → AV.tup [AV.int IntKind.i64 0, AV.int IntKind.i64 1] = dq) ∧
      (¬(((↑gs.length : Int) = 0) ∨ (¬(↑w.length : Int) = (↑gs.length : Int))) → v25a_at (fl) (fw) (gs) (w) (0) (0) (PureQ dq)))) :
  v25_at fl fw gs w (PureQ dq) := by
  unfold v25_at
  have k1 := H.1; have H := H.2
  have i2 : (Sp.checkE gs 200 != 0) = true ↔ (¬Sp.checkE gs 200 = 0) := i_ne
  rcases Classical.em (¬Sp.checkE gs 200 = 0) with d3 | d3
  · have H := H.1 d3
    exact path_ret (G := given kp25 [(1, 1, .call (AV.int IntKind.i64 (Sp.checkE gs 200)) none)] []) 1000 [true] (k := ((atC (cd Try.f25) [1, 0, 1, 1, 0, 1])).tail) (env' := [(4, AV.int IntKind.i64 0), (5, AV.int IntKind.i64 (Sp.checkE gs 200))]) (L' := []) (asm := [(Sp.checkE gs 200 != 0) == true]) (eqs := []) (calls := [⟨true, false, 31, [AV.vec fl 2 (List.map G2.a gs), AV.int IntKind.i64 200], [], AV.int IntKind.i64 (Sp.checkE gs 200), []⟩]) (AV.tup [AV.int IntKind.i64 0, AV.int IntKind.i64 (Sp.checkE gs 200)]) (by kernel_rfl) (by kernel_rfl) (allB_cons (beq_t (i2.2 d3)) allB_nil) allP_nil (allC_cons (fun _ => ((@ev31 (fl) (gs) (200) k1) : Ev M1 (Conf.pure 31 [AV.vec fl 2 (List.map G2.a gs), AV.int IntKind.i64 200]) (AV.int IntKind.i64 (Sp.checkE gs 200)) [])) allC_nil) (pq_of (d := AV.tup [AV.int IntKind.i64 0, AV.int IntKind.i64 (Sp.checkE gs 200)]) (bs := []) (by kernel_rfl) (by kernel_rfl) allB_nil (by kernel_rfl) H)
  · have H := H.2 d3
    have w4 : (List.map G2.a gs).length = gs.length := List.length_map ..
    have w5 : (List.map (AV.int IntKind.i64) w).length = w.length := List.length_map ..
    have i6 : (bif (↑(List.map G2.a gs).length : Int) == 0 then true else (↑(List.map (AV.int IntKind.i64) w).length : Int) != (↑(List.map G2.a gs).length : Int)) = true ↔ (((↑gs.length : Int) = 0) ∨ (¬(↑w.length : Int) = (↑gs.length : Int))) := (by rw [w4, w5] <;> exact (i_bor i_eq i_ne))
    rcases Classical.em (((↑gs.length : Int) = 0) ∨ (¬(↑w.length : Int) = (↑gs.length : Int))) with d7 | d7
    · have H := H.1 d7
      exact path_ret (G := given kp25 [(1, 1, .call (AV.int IntKind.i64 (Sp.checkE gs 200)) none)] []) 1000 [false, true] (k := ((atC (cd Try.f25) [1, 1, 0, 1, 0, 1])).tail) (env' := [(4, AV.int IntKind.i64 0), (5, AV.int IntKind.i64 1)]) (L' := []) (asm := [(Sp.checkE gs 200 != 0) == false, (bif (↑(List.map G2.a gs).length : Int) == 0 then true else (↑(List.map (AV.int IntKind.i64) w).length : Int) != (↑(List.map G2.a gs).length : Int)) == true]) (eqs := []) (calls := [⟨true, false, 31, [AV.vec fl 2 (List.map G2.a gs), AV.int IntKind.i64 200], [], AV.int IntKind.i64 (Sp.checkE gs 200), []⟩]) (AV.tup [AV.int IntKind.i64 0, AV.int IntKind.i64 1]) (by kernel_rfl) (by kernel_rfl) (allB_cons (beq_f (fun h => d3 (i2.1 h))) (allB_cons (beq_t (i6.2 d7)) allB_nil)) allP_nil (allC_cons (fun _ => ((@ev31 (fl) (gs) (200) k1) : Ev M1 (Conf.pure 31 [AV.vec fl 2 (List.map G2.a gs), AV.int IntKind.i64 200]) (AV.int IntKind.i64 (Sp.checkE gs 200)) [])) allC_nil) (pq_of (d := AV.tup [AV.int IntKind.i64 0, AV.int IntKind.i64 1]) (bs := []) (by kernel_rfl) (by kernel_rfl) allB_nil (by kernel_rfl) H)
    · have H := H.2 d7
      exact path_wp (G := given kp25 [(1, 1, .call (AV.int IntKind.i64 (Sp.checkE gs 200)) none)] []) 1000 [false, false] ⟨(atC (cd Try.f25) [1, 1, 1, 1, 0, 1, 0, 0]), [(0, AV.vec fl 2 (List.map G2.a gs)), (1, AV.vec fw 1 (List.map (AV.int IntKind.i64) w)), (7, AV.int IntKind.i64 0), (8, AV.int IntKind.i64 0)], [], [(Sp.checkE gs 200 != 0) == false, (bif (↑(List.map G2.a gs).length : Int) == 0 then true else (↑(List.map (AV.int IntKind.i64) w).length : Int) != (↑(List.map G2.a gs).length : Int)) == false], [], [⟨true, false, 31, [AV.vec fl 2 (List.map G2.a gs), AV.int IntKind.i64 200], [], AV.int IntKind.i64 (Sp.checkE gs 200), []⟩]⟩ (by kernel_rfl) (allB_cons (beq_f (fun h => d3 (i2.1 h))) (allB_cons (beq_f (fun h => d7 (i6.1 h))) allB_nil)) allP_nil (allC_cons (fun _ => ((@ev31 (fl) (gs) (200) k1) : Ev M1 (Conf.pure 31 [AV.vec fl 2 (List.map G2.a gs), AV.int IntKind.i64 200]) (AV.int IntKind.i64 (Sp.checkE gs 200)) [])) allC_nil) (H)


end Go.Av

/- WHAT Bound ANSWERS. -/
namespace Go.Av
open Go.Proofs

namespace Sp
def badW (x : Int) : Bool := decide (x > 20000000) || decide (x < -20000000)
def boundE (gs : List G2) (w : List Int) : Int :=
  if checkE gs 200 = 0 then (if (gs.length : Int) = 0 ∨ ¬(w.length : Int) = gs.length then 1 else if w.any badW = true then 11 else 0) else checkE gs 200
noncomputable def boundR (gs : List G2) (w : List Int) : Int := if boundE gs w = 0 ∧ ¬(gs.length : Int) < 2 then boundV gs w else 0
end Sp

theorem any_okW {w : List Int} (h : ¬w.any Sp.badW = true) : Sp.okW w := by
  intro x hx
  have hb : ¬Sp.badW x = true := fun k => h (List.any_eq_true.2 ⟨x, hx, k⟩)
  simp only [Sp.badW, Bool.or_eq_true, decide_eq_true_eq, not_or] at hb
  omega

theorem boundE_facts {gs : List G2} {w : List Int} (h : Sp.boundE gs w = 0) : Sp.okG gs ∧ gs.length ≤ 200 ∧ 0 < gs.length ∧ w.length = gs.length ∧ Sp.okW w := by
  unfold Sp.boundE at h
  split at h
  · rename_i hc
    split at h
    · simp at h
    · rename_i h2
      split at h
      · simp at h
      · rename_i h3
        obtain ⟨c1, c2⟩ := check_okG hc
        exact ⟨c1, by omega, by omega, by omega, any_okW h3⟩
  · rename_i hc; exact absurd h hc

theorem badW_iff {x : Int} : Sp.badW x = true ↔ (x > 20000000 ∨ x < -20000000) := by
  simp only [Sp.badW, Bool.or_eq_true, decide_eq_true_eq]

theorem loop24 {fl fw fx : Bool} {gs : List G2} {w x : List Int} {dq : AV} (hg : Sp.okG gs) (hl : gs.length ≤ 1000) (hwl : w.length = gs.length) (hxl : x.length ≤ 1000)
    (hq0 : ¬x.any Sp.badW = true → Sp.okW w ∧ AV.tup [.int .i64 (if (gs.length : Int) < 2 then 0 else Sp.boundV gs w), .int .i64 0] = dq) (hq1 : x.any Sp.badW = true → AV.tup [.int .i64 0, .int .i64 11] = dq) :
    ∀ (k i : Nat), i + k = x.length → (∀ j : Nat, j < i → ¬Sp.badW (x.getD j default) = true) → v24a_at fl fw gs w fx x x.length i (PureQ dq) := by
  intro k
  induction k with
  | zero =>
    intro i hi hp
    have hn : ¬x.any Sp.badW = true := by
      intro h
      obtain ⟨y, hy, hb⟩ := List.any_eq_true.1 h
      obtain ⟨j, hj, rfl⟩ := mem_getD hy
      exact hp j (by omega) hb
    obtain ⟨hw, hq⟩ := hq0 hn
    exact v24a _ _ _ _ _ _ _ _ _ ⟨fun h => by omega, fun _ => ⟨⟨hg, hl, hw, hwl⟩, hq⟩⟩
  | succ k ih =>
    intro i hi hp
    refine v24a _ _ _ _ _ _ _ _ _ ⟨fun _ => ⟨by omega, by omega, fun h => ?_, fun h => ⟨by omega, ih (i + 1) (by omega) ?_⟩⟩, fun h => by omega⟩
    · rw [Int.toNat_natCast] at h
      exact hq1 (List.any_eq_true.2 ⟨_, getD_mem (show i < x.length by omega), badW_iff.2 h⟩)
    · rw [Int.toNat_natCast] at h
      intro j hj
      by_cases hji : j = i
      · subst hji; exact fun k => h (badW_iff.1 k)
      · exact hp j (by omega)

theorem ev24 (fl fw : Bool) (gs : List G2) (w : List Int) : Ev M1 (.pure 24 [gsA fl gs, isA fw w]) (.tup [.int .i64 (Sp.boundR gs w), .int .i64 (Sp.boundE gs w)]) [] := by
  refine call24 (v24 fl fw gs w _ ⟨by simp [Sp.mOk], fun h => ?_, fun h => ⟨fun k => ?_, fun k => ?_⟩⟩)
  · have e : Sp.boundE gs w = Sp.checkE gs 200 := if_neg h
    rw [Sp.boundR, e, if_neg (fun x => h x.1)]
  · have h := Classical.not_not.1 h
    have e : Sp.boundE gs w = 1 := by rw [Sp.boundE, if_pos h, if_pos k]
    rw [Sp.boundR, e, if_neg (by simp)]
  · have h := Classical.not_not.1 h
    obtain ⟨c1, c2⟩ := check_okG h
    refine loop24 c1 (by omega) (by omega) (by omega) (fun hw => ⟨any_okW hw, ?_⟩) (fun hw => ?_) _ 0 (Nat.zero_add _) (fun j hj => by omega)
    · have e : Sp.boundE gs w = 0 := by rw [Sp.boundE, if_pos h, if_neg k, if_neg hw]
      rw [Sp.boundR, e]
      by_cases h2 : (gs.length : Int) < 2
      · rw [if_pos h2, if_neg (fun x => x.2 h2)]
      · rw [if_neg h2, if_pos ⟨rfl, h2⟩]
    · have e : Sp.boundE gs w = 11 := by rw [Sp.boundE, if_pos h, if_neg k, if_pos hw]
      rw [Sp.boundR, e, if_neg (by simp)]

theorem loop25b {fl fw : Bool} {gs : List G2} {w : List Int} {s : Int} {dq : AV} (hg : Sp.okG gs) (hl : gs.length ≤ 1000) (hw : Sp.okW w) (hwl : w.length = gs.length) (h2 : 2 ≤ gs.length) (hs : s = w.sum) (hq : AV.tup [.int .i64 (Sp.boundV gs w), .int .i64 0] = dq) :
    ∀ (k i : Nat) (m : Int), i + k = w.length → (-20000000 ≤ m ∧ m ≤ 20000000) → (w.drop i).foldl (fun m x => if x < m then x else m) m = Sp.minL (w.drop 1) → v25b_at fl fw gs w s m i (PureQ dq) := by
  intro k
  induction k with
  | zero =>
    intro i m hi hm he
    rw [List.drop_eq_nil_of_le (by omega), List.foldl_nil] at he
    have h1 := mst_le hg hl hw
    have h2 := okW_sum hw
    have h3 := okW_at hw 0
    refine v25b _ _ _ _ _ _ _ _ ⟨fun h => by omega, fun _ => ⟨⟨hg, hl, hw, hwl⟩, by omega, by omega, by omega, by omega, by omega, ?_⟩⟩
    rw [he, hs]; exact hq
  | succ k ih =>
    intro i m hi hm he
    rw [drop_getD (show i < w.length by omega), List.foldl_cons] at he
    have h1 := okW_at hw i
    refine v25b _ _ _ _ _ _ _ _ ⟨fun _ => ?_, fun h => by omega⟩
    rw [Int.toNat_natCast]
    refine ⟨by omega, by omega, by omega, ih (i + 1) _ (by omega) ?_ he⟩
    split <;> omega

theorem loop25a {fl fw : Bool} {gs : List G2} {w : List Int} {dq : AV} (hg : Sp.okG gs) (hl : gs.length ≤ 1000) (hwl : w.length = gs.length) (h0 : 0 < gs.length)
    (hq0 : ¬w.any Sp.badW = true → AV.tup [.int .i64 (if (gs.length : Int) < 2 then 0 else Sp.boundV gs w), .int .i64 0] = dq) (hq1 : w.any Sp.badW = true → AV.tup [.int .i64 0, .int .i64 11] = dq) :
    ∀ (k i : Nat) (s : Int), i + k = w.length → s + (w.drop i).sum = w.sum → (-20000000 * (i : Int) ≤ s ∧ s ≤ 20000000 * (i : Int)) → (∀ j : Nat, j < i → ¬Sp.badW (w.getD j default) = true) → v25a_at fl fw gs w s i (PureQ dq) := by
  intro k
  induction k with
  | zero =>
    intro i s hi hs hb hp
    rw [List.drop_eq_nil_of_le (by omega), List.sum_nil, Int.add_zero] at hs
    have hn : ¬w.any Sp.badW = true := by
      intro h
      obtain ⟨y, hy, hb⟩ := List.any_eq_true.1 h
      obtain ⟨j, hj, rfl⟩ := mem_getD hy
      exact hp j (by omega) hb
    have hw := any_okW hn
    have hq := hq0 hn
    refine v25a _ _ _ _ _ _ _ ⟨fun h => by omega, fun _ => ⟨fun h1 => ?_, fun h1 => ⟨by omega, ?_⟩⟩⟩
    · rw [if_pos (by omega)] at hq; exact hq
    · rw [if_neg (by omega)] at hq
      refine loop25b hg hl hw hwl (by omega) hs hq (w.length - 1) 1 _ (by omega) (okW_at hw 1) ?_
      unfold Sp.minL
      rw [drop_getD (show 1 < w.length by omega)]
      simp
  | succ k ih =>
    intro i s hi hs hb hp
    rw [drop_getD (show i < w.length by omega), List.sum_cons] at hs
    refine v25a _ _ _ _ _ _ _ ⟨fun _ => ?_, fun h => by omega⟩
    rw [Int.toNat_natCast]
    refine ⟨by omega, by omega, fun h => ?_, fun h => ?_⟩
    · exact hq1 (List.any_eq_true.2 ⟨_, getD_mem (show i < w.length by omega), badW_iff.2 h⟩)
    · refine ⟨by omega, by omega, ih (i + 1) _ (by omega) (by omega) (by omega) ?_⟩
      intro j hj
      by_cases hji : j = i
      · subst hji; exact fun k => h (badW_iff.1 k)
      · exact hp j (by omega)

theorem ev25 (fl fw : Bool) (gs : List G2) (w : List Int) : Ev M1 (.pure 25 [gsA fl gs, isA fw w]) (.tup [.int .i64 (Sp.boundR gs w), .int .i64 (Sp.boundE gs w)]) [] := by
  refine call25 (v25 fl fw gs w _ ⟨by simp [Sp.mOk], fun h => ?_, fun h => ⟨fun k => ?_, fun k => ?_⟩⟩)
  · have e : Sp.boundE gs w = Sp.checkE gs 200 := if_neg h
    rw [Sp.boundR, e, if_neg (fun x => h x.1)]
  · have h := Classical.not_not.1 h
    have e : Sp.boundE gs w = 1 := by rw [Sp.boundE, if_pos h, if_pos k]
    rw [Sp.boundR, e, if_neg (by simp)]
  · have h := Classical.not_not.1 h
    obtain ⟨c1, c2⟩ := check_okG h
    refine loop25a c1 (by omega) (by omega) (by omega) (fun hw => ?_) (fun hw => ?_) w.length 0 0 (Nat.zero_add _) (by simp) (by omega) (fun j hj => by omega)
    · have e : Sp.boundE gs w = 0 := by rw [Sp.boundE, if_pos h, if_neg k, if_neg hw]
      rw [Sp.boundR, e]
      by_cases h2 : (gs.length : Int) < 2
      · rw [if_pos h2, if_neg (fun x => x.2 h2)]
      · rw [if_neg h2, if_pos ⟨rfl, h2⟩]
    · have e : Sp.boundE gs w = 11 := by rw [Sp.boundE, if_pos h, if_neg k, if_pos hw]
      rw [Sp.boundR, e, if_neg (by simp)]
end Go.Av

/- RUNS WITHOUT UNKNOWNS: an evaluator with fuel, and that it gives the evaluation relation. No program in sight. -/
namespace Go.Av

section
variable {P : Unit → Program} {inl : FuncId → Bool} {call : Answer}

/-- A call's facts come from the answers. -/
def FromCall (inl : FuncId → Bool) (call : Answer) (c : CF) : Prop :=
  match c.own with
  | true => ∃ o, call c.f c.args c.L = some (c.v, o) ∧ c.L' = o.getD c.L ∧ (inl c.f = true ∨ (inl c.f = false ∧ ∃ L1, o = some L1))
  | false => inl c.f = false ∧ call c.f c.args [] = some (c.v, none)

theorem callF_from {L : Heap} {g : FuncId} {args : List AV} {r : SR} (h : callF inl call L g args = some r) : ∀ c ∈ r.calls, FromCall inl call c := by
  unfold callF at h
  cases hin : inl g with
  | true =>
    simp only [hin, cond_true] at h
    split at h
    · split at h
      · rename_i v o hc
        split at h
        · simp only [Option.some.injEq] at h; subst h
          intro c hcm
          simp only [List.mem_singleton] at hcm; subst hcm
          exact ⟨o, hc, rfl, .inl hin⟩
        · simp at h
      · simp at h
    · simp at h
  | false =>
    simp only [hin, cond_false] at h
    split at h
    · rename_i ds _
      split at h
      · rename_i d hc
        split at h
        · have : ∀ r' : SR, r'.calls = [⟨true, false, g, ds, [], d, []⟩] → ∀ c ∈ r'.calls, FromCall inl call c := by
            intro r' e c hcm
            rw [e] at hcm
            simp only [List.mem_singleton] at hcm; subst hcm
            exact ⟨hin, hc⟩
          split at h <;> (simp only [Option.some.injEq] at h; subst h; exact this _ rfl)
        · simp at h
      · rename_i v L1 hc
        split at h
        · split at h
          · split at h
            · simp only [Option.some.injEq] at h; subst h
              intro c hcm
              simp only [List.mem_singleton] at hcm; subst hcm
              exact ⟨some L1, hc, rfl, .inr ⟨hin, L1, rfl⟩⟩
            · simp at h
          · simp at h
        · simp at h
      · simp at h
    · simp at h

theorem quiet_calls {x : Option AV} {r : SR} (h : quiet x = some r) : r.calls = [] := by
  unfold quiet at h
  split at h
  · simp only [Option.some.injEq] at h; subst h; rfl
  · simp at h

theorem loadA_calls {el : Option AV} {L : Heap} {T : TypeId} {p : AV} {r : SR} (h : loadA P el L T p = some r) : r.calls = [] := by
  unfold loadA at h
  repeat' split at h
  all_goals first | (simp only [Option.some.injEq] at h; subst h; rfl) | simp at h
theorem storeA_calls {el : Option AV} {L : Heap} {T : TypeId} {p v : AV} {r : SR} (h : storeA P el L T p v = some r) : r.calls = [] := by
  unfold storeA at h
  repeat' split at h
  all_goals first | (simp only [Option.some.injEq] at h; subst h; rfl) | simp at h
theorem boxA_calls {L : Heap} {x : AV} {r : SR} (h : boxA L x = some r) : r.calls = [] := by
  unfold boxA at h
  repeat' split at h
  all_goals first | (simp only [Option.some.injEq] at h; subst h; rfl) | simp at h
theorem binA_calls {op : BinOp} {T : TypeId} {x y : AV} {r : SR} (h : binA P op T x y = some r) : r.calls = [] := by
  unfold binA intBin strBin at h
  repeat' split at h
  all_goals first | exact quiet_calls h | (simp only [Option.some.injEq] at h; subst h; rfl) | simp at h
theorem indexA_calls {T : TypeId} {x y : AV} {r : SR} (h : indexA P T x y = some r) : r.calls = [] := by
  unfold indexA at h
  repeat' split at h
  all_goals first | (simp only [Option.some.injEq] at h; subst h; rfl) | simp at h
theorem indexAddrA_calls {L : Heap} {T : TypeId} {x y : AV} {r : SR} (h : indexAddrA P L T x y = some r) : r.calls = [] := by
  unfold indexAddrA at h
  repeat' split at h
  all_goals first | (simp only [Option.some.injEq] at h; subst h; rfl) | simp at h
theorem sliceA_calls {L : Heap} {T : TypeId} {x : AV} {a b c : Option AV} {r : SR} (h : sliceA P L T x a b c = some r) : r.calls = [] := by
  unfold sliceA at h
  repeat' split at h
  all_goals first | (simp only [Option.some.injEq] at h; subst h; rfl) | simp at h
theorem makeSliceA_calls {L : Heap} {T : TypeId} {x y : AV} {r : SR} (h : makeSliceA P L T x y = some r) : r.calls = [] := by
  unfold makeSliceA at h
  repeat' split at h
  all_goals first | (simp only [Option.some.injEq] at h; subst h; rfl) | simp at h
theorem buildSliceA_calls {keep : Bool} {L : Heap} {T : TypeId} {n : Nat} {ps : List (Nat × AV)} {r : SR} (h : buildSliceA P keep L T n ps = some r) : r.calls = [] := by
  unfold buildSliceA at h
  cases keep <;> simp only [cond_true, cond_false] at h <;> (repeat' split at h) <;> first | (simp only [Option.some.injEq] at h; subst h; rfl) | simp at h
theorem appendA_calls {L : Heap} {T : TypeId} {x y : AV} {r : SR} (h : appendA P L T x y = some r) : r.calls = [] := by
  unfold appendA at h
  repeat' split at h
  all_goals first | (simp only [Option.some.injEq] at h; subst h; rfl) | simp at h
theorem clearA_calls {L : Heap} {T : TypeId} {x : AV} {r : SR} (h : clearA P L T x = some r) : r.calls = [] := by
  unfold clearA at h
  repeat' split at h
  all_goals first | (simp only [Option.some.injEq] at h; subst h; rfl) | simp at h
theorem lenA_calls {L : Heap} {T : TypeId} {x : AV} {r : SR} (h : lenA P L T x = some r) : r.calls = [] := by
  unfold lenA at h
  repeat' split at h
  all_goals first | (simp only [Option.some.injEq] at h; subst h; rfl) | simp at h

theorem stepA_from {ρ : Chain → Operand → AV} {L : Heap} {o : Oper} {r : SR} (h : stepA P inl call none ρ L o = some r) : ∀ c ∈ r.calls, FromCall inl call c := by
  have nil : r.calls = [] → ∀ c ∈ r.calls, FromCall inl call c := fun e => by rw [e]; simp
  have hc : ∀ c : Call, callA P inl call (ρ []) L c = some r → ∀ c ∈ r.calls, FromCall inl call c := by
    intro c h
    unfold callA at h
    repeat' split at h
    all_goals first
      | exact callF_from h
      | exact nil (appendA_calls h)
      | exact nil (clearA_calls h)
      | exact nil (lenA_calls h)
      | exact nil (quiet_calls h)
      | simp at h
  obtain ⟨dst, op, type, pos, after, guard⟩ := o
  cases op <;> simp only [stepA] at h
  all_goals first
    | exact nil (quiet_calls h)
    | exact nil (boxA_calls h)
    | exact nil (loadA_calls h)
    | exact nil (storeA_calls h)
    | exact nil (binA_calls h)
    | exact nil (buildSliceA_calls h)
    | exact nil (makeSliceA_calls h)
    | exact nil (sliceA_calls h)
    | exact nil (indexAddrA_calls h)
    | exact nil (indexA_calls h)
    | exact hc _ h
    | (simp only [Option.some.injEq] at h; subst h; exact nil rfl)
    | (split at h <;> first
        | exact nil (quiet_calls h)
        | exact nil (boxA_calls h)
        | (simp only [Option.some.injEq] at h; subst h; exact nil rfl)
        | simp at h)
    | simp at h

theorem runOp_from {n : Nat} {ops : Array Oper} {hot : Nat} {o : Oper} {s s' : RS} (h : runOp P inl call n ops none hot o s = some s') (hs : ∀ c ∈ s.calls, c.cond = true → FromCall inl call c) :
    ∀ c ∈ s'.calls, c.cond = true → FromCall inl call c := by
  unfold runOp at h
  split at h
  · simp at h
  · split at h
    · simp only [Option.some.injEq] at h; subst h; exact hs
    · simp at h
  · rename_i c hc
    split at h
    · split at h
      · simp at h
      · split at h
        · simp only [Option.some.injEq] at h; subst h; exact hs
        · simp at h
    · rename_i r hr
      have hfrom := stepA_from hr
      split at h
      · simp at h
      · split at h
        · simp at h
        · split at h
          · simp only [Option.some.injEq] at h; subst h
            intro c hcm hcc
            rcases List.mem_append.1 hcm with hcm | hcm
            · exact hs c hcm hcc
            · exact hfrom c hcm
          · simp only [Option.some.injEq] at h; subst h
            intro c hcm hcc
            rcases List.mem_append.1 hcm with hcm | hcm
            · exact hs c hcm hcc
            · obtain ⟨c', h1, rfl⟩ := List.mem_map.1 hcm
              exact hfrom c' h1

theorem runOps_from {n : Nat} {ops : Array Oper} {hot : Nat → Nat} : ∀ (l : List Nat) {s s' : RS}, runOps P inl call n ops (fun _ => none) hot l s = some s' → (∀ c ∈ s.calls, c.cond = true → FromCall inl call c) →
    ∀ c ∈ s'.calls, c.cond = true → FromCall inl call c
  | [], s, s', h, hs => by simp only [runOps, Option.some.injEq] at h; subst h; exact hs
  | i :: l, s, s', h, hs => by
    simp only [runOps] at h
    split at h
    · exact runOps_from l h hs
    · split at h
      · rename_i s1 h1
        exact runOps_from l h (runOp_from h1 hs)
      · simp at h
end

/-- What is told for a run: the temporaries that are read later, by function and region; the calls that change the memory. -/
structure Told where
  keep : FuncId → Nat → List Nat
  hot : FuncId → Nat → Nat → List Nat := fun _ _ _ => []
  fresh : FuncId → Bool := fun _ => false

def pureC (r : Option (AV × Heap)) : Option AV :=
  match r with
  | some (v, L') => match pureA L' v with
    | some d => if (versA L' v).all (fun b => b) = true ∧ d.clean = true then some d else none
    | none => none
  | none => none

def runC (M : Mach) (T : Told) : Nat → FuncId → Fi → List Item → Vars → Heap → Option (AV × Heap)
  | 0, _, _, _, _, _ => none
  | n + 1, f, fi, todo, env, L =>
    match todo with
    | [] => match finish M.P fi env L with
      | some v => some (v, L)
      | none => none
    | .inBlock _ :: k => runC M T n f fi k env L
    | .inLoop b :: k => runC M T n f fi (.code b :: .inLoop b :: k) env L
    | .code c :: k =>
      match c with
      | .skip => runC M T n f fi k env L
      | .seq a b => runC M T n f fi (.code a :: .code b :: k) env L
      | .cond c a b => match evV env c with
        | .bool t => runC M T n f fi (.code (bif t then a else b) :: k) env L
        | _ => none
      | .block id b => runC M T n f fi (.code b :: .inBlock id :: k) env L
      | .loop b => runC M T n f fi (.code b :: .inLoop b :: k) env L
      | .exit id => match exitTo id k with
        | some k' => runC M T n f fi k' env L
        | none => none
      | .ret => match finish M.P fi env L with
        | some v => some (v, L)
        | none => none
      | .region id ops draw =>
        match (bif draw then drawOk (hotOf ops (T.hot f id L.length)) ops else true) with
        | false => none
        | true =>
          match runOps M.P M.inl (fun g args L =>
              let r := match (M.P ()).funcs[g]? with
                | some fn => match fn.body, fn.name == "runtime.NumGoroutine" with
                  | some c, false => runC M T n g ⟨fn.ntmps, fn.results.toList⟩ [.code c] (argVars 0 args) L
                  | _, _ => none
                | none => none
              bif M.inl g || T.fresh g then (match r with | some (v, L') => some (v, some L') | none => none) else (match pureC r with | some d => some (d, none) | none => none))
              fi.n ops (fun _ => none) (bif draw then hotOf ops (T.hot f id L.length) else fun _ => 2) (List.range ops.size) ⟨lift env, L, [], [], []⟩ with
          | some s => match s.asm.all (fun b => b), s.eqs with
            | true, [] => runC M T n f fi k (forget (T.keep f id) s.env) s.L
            | _, _ => none
          | none => none
      | _ => none
    | _ => none

def ownC (M : Mach) (T : Told) (n : Nat) (g : FuncId) (args : List AV) (L : Heap) : Option (AV × Heap) :=
  match (M.P ()).funcs[g]? with
  | some fn => match fn.body, fn.name == "runtime.NumGoroutine" with
    | some c, false => runC M T n g ⟨fn.ntmps, fn.results.toList⟩ [.code c] (argVars 0 args) L
    | _, _ => none
  | none => none

theorem own_of {M : Mach} {T : Told} {n : Nat} (ih : ∀ f fi todo env L v L', runC M T n f fi todo env L = some (v, L') → Ev M (.run fi todo env L) v L') {g : FuncId} {args : List AV} {L L' : Heap} {v : AV}
    (h : ownC M T n g args L = some (v, L')) : Ev M (.own g args L) v L' := by
  unfold ownC at h
  split at h
  · rename_i fn hf
    split at h
    · rename_i c hb hn
      exact .own fn c hf hb hn (ih _ _ _ _ _ _ _ h)
    · simp at h
  · simp at h

theorem pure_of_own {M : Mach} {g : FuncId} {args : List AV} {r : Option (AV × Heap)} {d : AV} (hr : ∀ v L', r = some (v, L') → Ev M (.own g args []) v L') (h : pureC r = some d) : Ev M (.pure g args) d [] := by
  unfold pureC at h
  split at h
  · rename_i v L'
    split at h
    · rename_i d' hd
      split at h
      · rename_i hc
        simp only [Option.some.injEq] at h; subst h
        exact .pure (.mono (hr v L' rfl) fun v' K' ⟨e1, e2⟩ => by subst e1; subst e2; exact ⟨d', d', hd, by simpa using hc.1, hc.2, .refl _, rfl, rfl⟩)
      · simp at h
    · simp at h
  · simp at h

theorem runC_sound {M : Mach} {T : Told} : ∀ (n : Nat) (f : FuncId) (fi : Fi) (todo : List Item) (env : Vars) (L : Heap) (v : AV) (L' : Heap), runC M T n f fi todo env L = some (v, L') → Ev M (.run fi todo env L) v L' := by
  intro n
  induction n with
  | zero => intro f fi todo env L v L' h; simp [runC] at h
  | succ n ih =>
    intro f fi todo env L v L' h
    unfold runC at h
    split at h
    · split at h
      · rename_i v' hf
        simp only [Option.some.injEq, Prod.mk.injEq] at h
        obtain ⟨rfl, rfl⟩ := h
        exact .done hf ⟨rfl, rfl⟩
      · simp at h
    · exact .inBlock (ih _ _ _ _ _ _ _ h)
    · exact .inLoop (ih _ _ _ _ _ _ _ h)
    · split at h
      · exact .skip (ih _ _ _ _ _ _ _ h)
      · exact .seq (ih _ _ _ _ _ _ _ h)
      · split at h
        · rename_i t ht
          exact .cond t ht (ih _ _ _ _ _ _ _ h)
        · simp at h
      · exact .block (ih _ _ _ _ _ _ _ h)
      · exact .loop (ih _ _ _ _ _ _ _ h)
      · split at h
        · rename_i k' hk
          exact .exit hk (ih _ _ _ _ _ _ _ h)
        · simp at h
      · split at h
        · rename_i v' hf
          simp only [Option.some.injEq, Prod.mk.injEq] at h
          obtain ⟨rfl, rfl⟩ := h
          exact .ret hf ⟨rfl, rfl⟩
        · simp at h
      · split at h
        · simp at h
        · rename_i id ops draw k hd
          split at h
          · rename_i s hr
            split at h
            · rename_i hA hE
              have hfrom := runOps_from _ hr (by simp)
              refine .region _ (fun _ => none) _ (T.keep f id) s (fun e => ?_) hr (by simpa using hA) (by rw [hE]; simp) (fun c hc h1 h2 => ?_) (fun c hc h1 h2 => ?_) (ih _ _ _ _ _ _ _ h)
              · subst e; simpa using hd
              · have := hfrom c hc h1
                unfold FromCall at this
                rw [h2] at this
                obtain ⟨o, k2, k3, k1⟩ := this
                cases hif : M.inl c.f || T.fresh c.f with
                | true =>
                  simp only [hif, cond_true] at k2
                  split at k2
                  · rename_i v' L2 hown
                    simp only [Option.some.injEq, Prod.mk.injEq] at k2
                    obtain ⟨rfl, rfl⟩ := k2
                    rw [k3]
                    exact own_of ih hown
                  · simp at k2
                | false =>
                  simp only [hif, cond_false] at k2
                  rcases k1 with k1 | ⟨k1, L3, k4⟩
                  · rw [k1] at hif; simp at hif
                  · subst k4
                    split at k2
                    · simp at k2
                    · simp at k2
              · have := hfrom c hc h1
                unfold FromCall at this
                rw [h2] at this
                obtain ⟨hin, k2⟩ := this
                cases hif : M.inl c.f || T.fresh c.f with
                | true =>
                  simp only [hif, cond_true] at k2
                  split at k2
                  · simp at k2
                  · simp at k2
                | false =>
                  simp only [hif, cond_false] at k2
                  split at k2
                  · rename_i d hp
                    simp only [Option.some.injEq, Prod.mk.injEq] at k2
                    obtain ⟨rfl, _⟩ := k2
                    exact pure_of_own (fun v' L2 hown => own_of ih hown) hp
                  · simp at k2
            · simp at h
          · simp at h
      · simp at h
    · simp at h

/-- A call without unknowns. -/
theorem closed {M : Mach} (T : Told) (n : Nat) {g : FuncId} {args : List AV} {d : AV} (h : pureC (ownC M T n g args []) = some d) : Ev M (.pure g args) d [] :=
  pure_of_own (fun _ _ hown => own_of (runC_sound n) hown) h
end Go.Av

/- THE EXAMPLES of the chapter hold: a run without unknowns. -/
namespace Go.Av
open Go.Proofs
def kw10 : List (Nat × List Nat) := [(0, []), (1, [1]), (2, [1, 2, 3]), (3, [1, 2, 3, 4]), (4, [1, 2, 3, 4, 5, 6, 7]), (5, [1, 2, 3, 4, 5, 6, 7, 8, 9]), (6, [0])]
def kw12 : List (Nat × List Nat) := [(0, [0, 1]), (1, [0, 1, 6]), (2, [0, 1, 6, 10]), (3, [4, 5]), (4, [0, 1, 16]), (5, [4, 5]), (6, [4, 5])]
def kw15 : List (Nat × List Nat) := [(0, [2, 3]), (1, [4])]
def kw17 : List (Nat × List Nat) := [(0, [0]), (1, [0, 3]), (2, [0, 3, 4]), (3, [0, 3, 4, 5]), (4, [0, 3, 4, 5, 19]), (5, [0, 3, 4, 5]), (6, [0, 3, 4, 5, 6]), (7, [0, 3, 4, 5, 6, 27, 28, 29]), (8, [0, 3, 4, 5, 6, 27, 28, 29, 30]), (9, [0, 3, 4, 5, 6, 7, 8, 27, 28, 29]), (10, [0, 3, 4, 5, 6, 7, 27, 28, 29, 60]), (11, [0, 3, 4, 5, 6, 27, 28, 29]), (12, [0, 3, 4, 5, 6, 27, 28, 29]), (13, [0, 3, 4, 5]), (14, [2])]
def kw18 : List (Nat × List Nat) := [(0, [0, 1]), (1, [0, 1, 10]), (2, [4]), (3, [0, 1, 5]), (4, [0, 1, 5, 14]), (5, [0, 1, 5]), (6, [0, 1, 5, 25]), (7, [4]), (8, [4])]
def kw20 : List (Nat × List Nat) := [(0, [0]), (1, [3]), (2, [2])]
def kw22 : List (Nat × List Nat) := [(0, [0]), (1, [0, 5]), (2, [0, 5, 10]), (3, [2, 3, 4]), (4, [0, 14]), (5, [2, 3, 4]), (6, [6]), (7, [6]), (8, [2, 3, 4])]
def kw24 : List (Nat × List Nat) := [(0, [0, 1]), (1, [0, 1, 6]), (2, [0, 1, 6, 14]), (3, [4, 5]), (4, [0, 1, 25]), (5, [4, 5]), (6, [0, 1, 26, 27, 28]), (7, [0, 1, 26, 27, 28, 29]), (8, [0, 1, 8, 26, 27, 28]), (9, [0, 1, 26, 27, 28, 37]), (10, [4, 5]), (11, [0, 1, 26, 27, 28]), (12, [9]), (13, [4, 5])]
def kw28 : List (Nat × List Nat) := [(0, [0, 1]), (1, [0, 10]), (2, [4]), (3, [11, 12, 13]), (4, [11, 12, 13, 14]), (5, [6, 11, 12, 13]), (6, [11, 12, 13, 30]), (7, [4]), (8, [11, 12, 13]), (9, [4])]
def kw29 : List (Nat × List Nat) := [(0, [0, 1]), (1, [0, 1, 21]), (2, [4]), (3, [0, 1, 5]), (4, [1, 5, 24, 25, 26]), (5, [1, 5, 24, 25, 26, 27]), (6, [1, 5, 7, 24, 25, 26]), (7, [1, 5, 7, 24, 25, 26, 42]), (8, [4]), (9, [1, 5, 24, 25, 26]), (10, [1, 5, 24, 25, 26]), (11, [4])]
def kw30 : List (Nat × List Nat) := [(0, [0, 1]), (1, [0, 1, 5]), (2, [0, 1, 5, 6]), (3, [0, 1, 5, 6, 10]), (4, [0, 1, 5, 6]), (5, [0, 1, 5, 6]), (6, [4])]
def kw36 : List (Nat × List Nat) := [(0, [0, 1]), (1, [0, 1, 6]), (2, [0, 1, 6, 21]), (3, [4, 5]), (4, [0, 1, 6, 7]), (5, [0, 1, 6, 7, 8]), (6, [0, 1, 6, 7, 8, 9]), (7, [0, 1, 6, 7, 8, 9]), (8, [0, 1, 6, 7, 8, 9, 35, 36]), (9, [0, 1, 6, 7, 8, 9, 35, 36, 37]), (10, [0, 1, 6, 7, 8, 9, 10, 35, 36]), (11, [0, 1, 6, 7, 8, 9, 35, 36]), (12, [0, 1, 6, 7, 8, 9, 35, 36]), (13, [0, 1, 6, 7, 8, 9, 11]), (14, [0, 1, 6, 7, 8, 9, 11, 62, 63]), (15, [0, 1, 6, 7, 8, 9, 11, 62, 63, 64]), (16, [0, 1, 6, 7, 8, 9, 11, 12, 62, 63]), (17, [0, 1, 6, 7, 8, 9, 11, 12, 62, 63, 66, 67]), (18, [0, 1, 6, 7, 8, 9, 11, 12, 62, 63, 66, 67, 68]), (19, [0, 1, 6, 7, 8, 9, 11, 12, 13, 62, 63, 66, 67]), (20, [0, 1, 6, 7, 8, 9, 11, 12, 13, 62, 63, 66, 67, 89]), (21, [0, 1, 6, 7, 8, 9, 11, 12, 62, 63, 66, 67]), (22, [0, 1, 6, 7, 8, 9, 11, 12, 62, 63, 66, 67]), (23, [0, 1, 6, 7, 8, 9, 11, 12, 62, 63]), (24, [0, 1, 6, 7, 8, 9, 11, 12, 62, 63]), (25, [0, 1, 6, 7, 8, 9, 11, 12, 62, 63]), (26, [0, 1, 6, 7, 8, 9, 11, 12, 62, 63]), (27, [0, 1, 6, 7, 8, 9, 11, 12, 62, 63, 117, 118]), (28, [0, 1, 6, 7, 8, 9, 11, 12, 62, 63, 117, 118, 119]), (29, [0, 1, 6, 7, 8, 9, 11, 12, 14, 62, 63, 117, 118]), (30, [0, 1, 6, 7, 8, 9, 11, 12, 14, 15, 62, 63, 117, 118]), (31, [0, 1, 6, 7, 8, 9, 11, 12, 14, 15, 62, 63, 117, 118, 152]), (32, [0, 1, 6, 7, 8, 9, 11, 12, 62, 63, 117, 118]), (33, [0, 1, 6, 7, 8, 9, 11, 12, 62, 63, 117, 118]), (34, [0, 1, 6, 7, 8, 9, 11, 62, 63]), (35, [4, 5])]
def kw38 : List (Nat × List Nat) := [(0, [0, 1, 2, 19]), (1, [0, 1, 2, 27]), (2, []), (3, [0, 1, 2, 41, 42]), (4, [0, 1, 2, 41, 42, 43]), (5, [0, 1, 2, 6, 41, 42]), (6, [0, 1, 2, 6, 41, 42, 48]), (7, [0, 1, 2, 41, 42]), (8, [0, 1, 2, 41, 42])]
def kw40 : List (Nat × List Nat) := [(0, [0, 1]), (1, [0, 1, 6, 7]), (2, [1, 6, 7, 18]), (3, [4, 5]), (4, [1, 6, 7, 20, 21, 22]), (5, [1, 6, 7, 20, 21, 22, 23]), (6, [1, 6, 7, 9, 20, 21, 22]), (7, [1, 6, 7, 20, 21, 22]), (8, [1, 6, 7, 20, 21, 22]), (9, [4, 5])]
def kw41 : List (Nat × List Nat) := [(0, [0]), (1, [0, 4]), (2, [2]), (3, [2])]
def kw45 : List (Nat × List Nat) := [(0, [0, 1]), (1, [4])]
def kw46 : List (Nat × List Nat) := [(0, [0]), (1, [0, 7]), (2, [0]), (3, [0, 3]), (4, [0, 3, 4]), (5, [0, 3, 4, 15]), (6, [0, 3, 4]), (7, [0, 3, 4]), (8, [2])]
def kw47 : List (Nat × List Nat) := [(0, [0, 1]), (1, [0, 1, 7, 8]), (2, [0, 1, 7, 8, 9]), (3, [0, 1, 5, 7, 8]), (4, [0, 1, 5, 7, 8, 16]), (5, [4]), (6, [0, 1, 7, 8]), (7, [4])]
def keeps : FuncId → Nat → List Nat
  | 10 => hotCalls kw10
  | 12 => hotCalls kw12
  | 15 => hotCalls kw15
  | 17 => hotCalls kw17
  | 18 => hotCalls kw18
  | 20 => hotCalls kw20
  | 22 => hotCalls kw22
  | 24 => hotCalls kw24
  | 28 => hotCalls kw28
  | 29 => hotCalls kw29
  | 30 => hotCalls kw30
  | 36 => hotCalls kw36
  | 38 => hotCalls kw38
  | 40 => hotCalls kw40
  | 41 => hotCalls kw41
  | 45 => hotCalls kw45
  | 46 => hotCalls kw46
  | 47 => hotCalls kw47
  | _ => fun _ => []
/-- Which rows the operations of a region whose order is drawn concern. -/
def hots : FuncId → Nat → Nat → List Nat
  | 38, 7, n =>
    let o := 1000 * (2 + bif Nat.beq n 1 then 900 else 1)
    [2, 2 + 1000 * (n + 2), 5 + 1000 * (n + 2), 4 + 1000 * 900, 10 + 1000 * 2, 13 + o, 15 + o, 16 + o, 17 + 1000 * 900, 18 + 1000 * 900, 22 + 1000 * 2, 24 + 1000 * 900, 25 + 1000 * 900, 26 + 1000 * 900, 28]
  | _, _, _ => []
set_option maxRecDepth 1000000 in
theorem ev10 : Ev M1 (.pure 10 []) (.bool true) [] := closed { keep := keeps, hot := hots, fresh := fun f => Nat.beq f 41 } 100000 (by kernel_rfl)
end Go.Av

/- PATHS, written by a program of the prover's. -/
namespace Go.Av
open Go.Proofs
set_option maxRecDepth 100000
def fi13 : Fi := ⟨20, [.tmp 4, .tmp 5]⟩
def kp13 : List (Nat × List Nat) := [(0, [0, 1]), (1, [0, 1, 6]), (2, [0, 1, 6, 10]), (3, [4, 5]), (4, [0, 1, 16]), (5, [4, 5]), (6, [4, 5])]
def v13_at (fl fm : Bool) (gs : List G2) (o : List Int) (Q : AV → Heap → Prop) : Prop := Wp M1 (.run fi13 (atC (cd Try.f13) []) [(0, .vec fl 2 (gs.map G2.a)), (1, .vec fm 1 (o.map (.int .i64)))] []) Q
theorem call13 {args : List AV} {d : AV} (h : Wp M1 (.run fi13 [.code (cd Try.f13)] (argVars 0 args) []) (PureQ d)) : Ev M1 (.pure 13 args) d [] :=
  pure_pq Try.f13 fi13 (by kernel_rfl) (by kernel_rfl) (by kernel_rfl) (by kernel_rfl) h
theorem owncall13 {args : List AV} {L : Heap} {Q : AV → Heap → Prop} (h : Wp M1 (.run fi13 [.code (cd Try.f13)] (argVars 0 args) L) Q) : Wp M1 (.own 13 args L) Q :=
  own_wp Try.f13 fi13 (by kernel_rfl) (by kernel_rfl) (by kernel_rfl) (by kernel_rfl) h
theorem keepcall13 {args : List AV} {L : Heap} {v : AV} {K : Heap} (hk : keepOk L.length v K = true) (h : Wp M1 (.run fi13 [.code (cd Try.f13)] (argVars 0 args) L) (KeepQ v K)) : Ev M1 (.own 13 args L) v K :=
  own_keep Try.f13 fi13 (by kernel_rfl) (by kernel_rfl) (by kernel_rfl) (by kernel_rfl) hk h
theorem v13 (fl fm : Bool) (gs : List G2) (o : List Int) (dq : AV) (H :
    (Sp.mOk 200) ∧
    ((¬Sp.checkE gs 200 = 0) → AV.tup [AV.int IntKind.i64 0, AV.int IntKind.i64 (Sp.checkE gs 200)] = dq) ∧
    (¬(¬Sp.checkE gs 200 = 0) → (0 ≤ (↑gs.length : Int) ∧ (↑gs.length : Int) ≤ 1000000) ∧
      ((¬(Sp.isOrd o (↑gs.length : Int) = true)) → AV.tup [AV.int IntKind.i64 0, AV.int IntKind.i64 1] = dq) ∧
      (¬(¬(Sp.isOrd o (↑gs.length : Int) = true)) → (Sp.okG gs) ∧
        (Sp.okO gs o) ∧
        (o.length ≤ 1000) ∧
        AV.tup [AV.int IntKind.i64 (Sp.way gs o), AV.int IntKind.i64 0] = dq))) :
  v13_at fl fm gs o (PureQ dq) := by
  unfold v13_at
  have k1 := H.1; have H := H.2
  have i2 : (Sp.checkE gs 200 != 0) = true ↔ (¬Sp.checkE gs 200 = 0) := i_ne
  rcases Classical.em (¬Sp.checkE gs 200 = 0) with d3 | d3
  · have H := H.1 d3
    exact path_ret (G := given kp13 [(1, 1, .call (AV.int IntKind.i64 (Sp.checkE gs 200)) none)] []) 1000 [true] (k := ((atC (cd Try.f13) [1, 0, 1, 1, 0, 1])).tail) (env' := [(4, AV.int IntKind.i64 0), (5, AV.int IntKind.i64 (Sp.checkE gs 200))]) (L' := []) (asm := [(Sp.checkE gs 200 != 0) == true]) (eqs := []) (calls := [⟨true, false, 31, [AV.vec fl 2 (List.map G2.a gs), AV.int IntKind.i64 200], [], AV.int IntKind.i64 (Sp.checkE gs 200), []⟩]) (AV.tup [AV.int IntKind.i64 0, AV.int IntKind.i64 (Sp.checkE gs 200)]) (by kernel_rfl) (by kernel_rfl) (allB_cons (beq_t (i2.2 d3)) allB_nil) allP_nil (allC_cons (fun _ => ((@ev31 (fl) (gs) (200) k1) : Ev M1 (Conf.pure 31 [AV.vec fl 2 (List.map G2.a gs), AV.int IntKind.i64 200]) (AV.int IntKind.i64 (Sp.checkE gs 200)) [])) allC_nil) (pq_of (d := AV.tup [AV.int IntKind.i64 0, AV.int IntKind.i64 (Sp.checkE gs 200)]) (bs := []) (by kernel_rfl) (by kernel_rfl) allB_nil (by kernel_rfl) H)
  · have H := H.2 d3
    have w4 : (List.map G2.a gs).length = gs.length := List.length_map ..
    have k5 := H.1; have H := H.2
    have i6 : (!Sp.isOrd o (↑gs.length : Int)) = true ↔ (¬(Sp.isOrd o (↑gs.length : Int) = true)) := (i_not (i_var _))
    rcases Classical.em (¬(Sp.isOrd o (↑gs.length : Int) = true)) with d7 | d7
    · have H := H.1 d7
      exact path_ret (G := given kp13 [(1, 1, .call (AV.int IntKind.i64 (Sp.checkE gs 200)) none), (4, 3, .call (AV.bool (Sp.isOrd o (↑gs.length : Int))) none)] []) 1000 [false, true] (k := ((atC (cd Try.f13) [1, 1, 0, 1, 0, 1])).tail) (env' := [(4, AV.int IntKind.i64 0), (5, AV.int IntKind.i64 1)]) (L' := []) (asm := [(Sp.checkE gs 200 != 0) == false, (!Sp.isOrd o (↑gs.length : Int)) == true]) (eqs := []) (calls := [⟨true, false, 31, [AV.vec fl 2 (List.map G2.a gs), AV.int IntKind.i64 200], [], AV.int IntKind.i64 (Sp.checkE gs 200), []⟩, ⟨true, false, 32, [AV.int IntKind.i64 (↑(List.map G2.a gs).length : Int), AV.vec fm 1 (List.map (AV.int IntKind.i64) o)], [], AV.bool (Sp.isOrd o (↑gs.length : Int)), []⟩]) (AV.tup [AV.int IntKind.i64 0, AV.int IntKind.i64 1]) (by kernel_rfl) (by kernel_rfl) (allB_cons (beq_f (fun h => d3 (i2.1 h))) (allB_cons (beq_t (i6.2 d7)) allB_nil)) allP_nil (allC_cons (fun _ => ((@ev31 (fl) (gs) (200) k1) : Ev M1 (Conf.pure 31 [AV.vec fl 2 (List.map G2.a gs), AV.int IntKind.i64 200]) (AV.int IntKind.i64 (Sp.checkE gs 200)) [])) (allC_cons (fun _ => ((by rw [w4] <;> exact (@ev32 (fm) (o) ((↑gs.length : Int)) k5)) : Ev M1 (Conf.pure 32 [AV.int IntKind.i64 (↑(List.map G2.a gs).length : Int), AV.vec fm 1 (List.map (AV.int IntKind.i64) o)]) (AV.bool (Sp.isOrd o (↑gs.length : Int))) [])) allC_nil)) (pq_of (d := AV.tup [AV.int IntKind.i64 0, AV.int IntKind.i64 1]) (bs := []) (by kernel_rfl) (by kernel_rfl) allB_nil (by kernel_rfl) H)
    · have H := H.2 d7
      have k8 := H.1; have H := H.2
      have k9 := H.1; have H := H.2
      have k10 := H.1; have H := H.2
      exact path_ret (G := given kp13 [(1, 1, .call (AV.int IntKind.i64 (Sp.checkE gs 200)) none), (4, 3, .call (AV.bool (Sp.isOrd o (↑gs.length : Int))) none), (6, 2, .call (AV.int IntKind.i64 (Sp.way gs o)) none)] []) 1000 [false, false] (k := ((atC (cd Try.f13) [1, 1, 1, 1])).tail) (env' := [(4, AV.int IntKind.i64 (Sp.way gs o)), (5, AV.int IntKind.i64 0)]) (L' := []) (asm := [(Sp.checkE gs 200 != 0) == false, (!Sp.isOrd o (↑gs.length : Int)) == false]) (eqs := []) (calls := [⟨true, false, 31, [AV.vec fl 2 (List.map G2.a gs), AV.int IntKind.i64 200], [], AV.int IntKind.i64 (Sp.checkE gs 200), []⟩, ⟨true, false, 32, [AV.int IntKind.i64 (↑(List.map G2.a gs).length : Int), AV.vec fm 1 (List.map (AV.int IntKind.i64) o)], [], AV.bool (Sp.isOrd o (↑gs.length : Int)), []⟩, ⟨true, false, 33, [AV.vec fl 2 (List.map G2.a gs), AV.vec fm 1 (List.map (AV.int IntKind.i64) o)], [], AV.int IntKind.i64 (Sp.way gs o), []⟩]) (AV.tup [AV.int IntKind.i64 (Sp.way gs o), AV.int IntKind.i64 0]) (by kernel_rfl) (by kernel_rfl) (allB_cons (beq_f (fun h => d3 (i2.1 h))) (allB_cons (beq_f (fun h => d7 (i6.1 h))) allB_nil)) allP_nil (allC_cons (fun _ => ((@ev31 (fl) (gs) (200) k1) : Ev M1 (Conf.pure 31 [AV.vec fl 2 (List.map G2.a gs), AV.int IntKind.i64 200]) (AV.int IntKind.i64 (Sp.checkE gs 200)) [])) (allC_cons (fun _ => ((by rw [w4] <;> exact (@ev32 (fm) (o) ((↑gs.length : Int)) k5)) : Ev M1 (Conf.pure 32 [AV.int IntKind.i64 (↑(List.map G2.a gs).length : Int), AV.vec fm 1 (List.map (AV.int IntKind.i64) o)]) (AV.bool (Sp.isOrd o (↑gs.length : Int))) [])) (allC_cons (fun _ => ((@ev33 (fl) (fm) (gs) (o) k8 k9 k10) : Ev M1 (Conf.pure 33 [AV.vec fl 2 (List.map G2.a gs), AV.vec fm 1 (List.map (AV.int IntKind.i64) o)]) (AV.int IntKind.i64 (Sp.way gs o)) [])) allC_nil))) (pq_of (d := AV.tup [AV.int IntKind.i64 (Sp.way gs o), AV.int IntKind.i64 0]) (bs := []) (by kernel_rfl) (by kernel_rfl) allB_nil (by kernel_rfl) H)


end Go.Av

/- WHAT Length OF THE REFERENCE ANSWERS. -/
namespace Go.Av
open Go.Proofs

theorem ev13 (fl fm : Bool) (gs : List G2) (o : List Int) : Ev M1 (.pure 13 [gsA fl gs, isA fm o]) (.tup [.int .i64 (Sp.lengthV gs o), .int .i64 (Sp.lengthE gs o)]) [] := by
  refine call13 (v13 fl fm gs o _ ⟨by simp [Sp.mOk], fun h => ?_, fun h => ⟨by have := (check_okG (Classical.not_not.1 h)).2; omega, fun k => ?_, fun k => ?_⟩⟩)
  · have e : Sp.lengthE gs o = Sp.checkE gs 200 := if_neg h
    rw [Sp.lengthV, e, if_neg h]
  · have h := Classical.not_not.1 h
    have e : Sp.lengthE gs o = 1 := by rw [Sp.lengthE, if_pos h, if_neg k]
    rw [Sp.lengthV, e, if_neg (by simp)]
  · have h := Classical.not_not.1 h
    have k := Classical.not_not.1 k
    have e : Sp.lengthE gs o = 0 := by rw [Sp.lengthE, if_pos h, if_pos k]
    obtain ⟨c1, c2⟩ := check_okG h
    obtain ⟨c3, c4⟩ := isOrd_okO k
    exact ⟨c1, c3, by omega, by rw [Sp.lengthV, e, if_pos rfl]⟩
end Go.Av

/- PATHS, written by a program of the prover's. -/
namespace Go.Av
open Go.Proofs
set_option maxRecDepth 100000
def fi4 : Fi := ⟨42, [.tmp 2]⟩
def kp4 : List (Nat × List Nat) := [(0, [0]), (1, [0, 12]), (2, [2]), (3, [0, 3]), (4, [0, 3, 20]), (5, [2]), (6, [0, 4, 5]), (7, [2])]
def fi6 : Fi := ⟨42, [.tmp 4]⟩
def kp6 : List (Nat × List Nat) := [(0, [0, 1]), (1, [0, 1, 20]), (2, [4]), (3, [0, 1, 5, 6]), (4, [5, 6, 7, 8]), (5, [4])]
def v4_at (fl : Bool) (gs : List G2) (Q : AV → Heap → Prop) : Prop := Wp M1 (.run fi4 (atC (cd Try.f4) []) [(0, .vec fl 2 (gs.map G2.a))] []) Q
def v6_at (fl fw : Bool) (gs : List G2) (w : List Int) (Q : AV → Heap → Prop) : Prop := Wp M1 (.run fi6 (atC (cd Try.f6) []) [(0, .vec fl 2 (gs.map G2.a)), (1, .vec fw 1 (w.map (.int .i64)))] []) Q
theorem call4 {args : List AV} {d : AV} (h : Wp M1 (.run fi4 [.code (cd Try.f4)] (argVars 0 args) []) (PureQ d)) : Ev M1 (.pure 4 args) d [] :=
  pure_pq Try.f4 fi4 (by kernel_rfl) (by kernel_rfl) (by kernel_rfl) (by kernel_rfl) h
theorem owncall4 {args : List AV} {L : Heap} {Q : AV → Heap → Prop} (h : Wp M1 (.run fi4 [.code (cd Try.f4)] (argVars 0 args) L) Q) : Wp M1 (.own 4 args L) Q :=
  own_wp Try.f4 fi4 (by kernel_rfl) (by kernel_rfl) (by kernel_rfl) (by kernel_rfl) h
theorem keepcall4 {args : List AV} {L : Heap} {v : AV} {K : Heap} (hk : keepOk L.length v K = true) (h : Wp M1 (.run fi4 [.code (cd Try.f4)] (argVars 0 args) L) (KeepQ v K)) : Ev M1 (.own 4 args L) v K :=
  own_keep Try.f4 fi4 (by kernel_rfl) (by kernel_rfl) (by kernel_rfl) (by kernel_rfl) hk h
theorem call6 {args : List AV} {d : AV} (h : Wp M1 (.run fi6 [.code (cd Try.f6)] (argVars 0 args) []) (PureQ d)) : Ev M1 (.pure 6 args) d [] :=
  pure_pq Try.f6 fi6 (by kernel_rfl) (by kernel_rfl) (by kernel_rfl) (by kernel_rfl) h
theorem owncall6 {args : List AV} {L : Heap} {Q : AV → Heap → Prop} (h : Wp M1 (.run fi6 [.code (cd Try.f6)] (argVars 0 args) L) Q) : Wp M1 (.own 6 args L) Q :=
  own_wp Try.f6 fi6 (by kernel_rfl) (by kernel_rfl) (by kernel_rfl) (by kernel_rfl) h
theorem keepcall6 {args : List AV} {L : Heap} {v : AV} {K : Heap} (hk : keepOk L.length v K = true) (h : Wp M1 (.run fi6 [.code (cd Try.f6)] (argVars 0 args) L) (KeepQ v K)) : Ev M1 (.own 6 args L) v K :=
  own_keep Try.f6 fi6 (by kernel_rfl) (by kernel_rfl) (by kernel_rfl) (by kernel_rfl) hk h
theorem v4 (fl : Bool) (gs : List G2) (dq : AV) (H :
    (Sp.mOk 12) ∧
    ((¬Sp.checkE gs 12 = 0) → AV.bool true = dq) ∧
    (¬(¬Sp.checkE gs 12 = 0) → (Sp.okG gs ∧ gs.length ≤ 1000) ∧
      ((Sp.nearest gs).length ≤ 1000000) ∧
      ((¬(Sp.same (Sp.nearest gs) (Sp.nearest gs) = true)) → AV.bool false = dq) ∧
      (¬(¬(Sp.same (Sp.nearest gs) (Sp.nearest gs) = true)) → AV.bool (bif bif Sp.lengthE gs (Sp.nearest gs) == 0 then Sp.tree gs == Sp.tree gs else false then decide (Sp.tree gs ≤ Sp.lengthV gs (Sp.nearest gs)) else false) = dq))) :
  v4_at fl gs (PureQ dq) := by
  unfold v4_at
  have k1 := H.1; have H := H.2
  have i2 : (!Sp.checkE gs 12 == 0) = true ↔ (¬Sp.checkE gs 12 = 0) := i_neq
  rcases Classical.em (¬Sp.checkE gs 12 = 0) with d3 | d3
  · have H := H.1 d3
    exact path_ret (G := given kp4 [(1, 0, .call (AV.bool true) none), (1, 4, .call (AV.bool (Sp.checkE gs 12 == 0)) none), (2, 0, .call (AV.bool true) none)] []) 1000 [true] (k := ((atC (cd Try.f4) [1, 0, 1, 0, 1])).tail) (env' := [(2, AV.bool true)]) (L' := []) (asm := [(!Sp.checkE gs 12 == 0) == true]) (eqs := []) (calls := [⟨true, false, 10, [], [], AV.bool true, []⟩, ⟨true, false, 14, [AV.vec fl 2 (List.map G2.a gs), AV.int IntKind.i64 12], [], AV.bool (Sp.checkE gs 12 == 0), []⟩, ⟨true, false, 10, [], [], AV.bool true, []⟩]) (AV.bool true) (by kernel_rfl) (by kernel_rfl) (allB_cons (beq_t (i2.2 d3)) allB_nil) allP_nil (allC_cons (fun _ => ((@ev10 ) : Ev M1 (Conf.pure 10 []) (AV.bool true) [])) (allC_cons (fun _ => ((@ev14 (fl) (gs) (12) k1) : Ev M1 (Conf.pure 14 [AV.vec fl 2 (List.map G2.a gs), AV.int IntKind.i64 12]) (AV.bool (Sp.checkE gs 12 == 0)) [])) (allC_cons (fun _ => ((@ev10 ) : Ev M1 (Conf.pure 10 []) (AV.bool true) [])) allC_nil))) (pq_of (d := AV.bool true) (bs := []) (by kernel_rfl) (by kernel_rfl) allB_nil (by kernel_rfl) H)
  · have H := H.2 d3
    have k4 := H.1; have H := H.2
    have k5 := H.1; have H := H.2
    have i6 : (!Sp.same (Sp.nearest gs) (Sp.nearest gs)) = true ↔ (¬(Sp.same (Sp.nearest gs) (Sp.nearest gs) = true)) := (i_not (i_var _))
    rcases Classical.em (¬(Sp.same (Sp.nearest gs) (Sp.nearest gs) = true)) with d7 | d7
    · have H := H.1 d7
      exact path_ret (G := given kp4 [(1, 0, .call (AV.bool true) none), (1, 4, .call (AV.bool (Sp.checkE gs 12 == 0)) none), (3, 1, .call (AV.vec false 1 (List.map (AV.int IntKind.i64) (Sp.nearest gs))) none), (4, 2, .call (AV.vec false 1 (List.map (AV.int IntKind.i64) (Sp.nearest gs))) none), (4, 3, .call (AV.bool (Sp.same (Sp.nearest gs) (Sp.nearest gs))) none)] []) 1000 [false, true] (k := ((atC (cd Try.f4) [1, 1, 1, 0, 1, 0, 1])).tail) (env' := [(2, AV.bool false)]) (L' := []) (asm := [(!Sp.checkE gs 12 == 0) == false, (!Sp.same (Sp.nearest gs) (Sp.nearest gs)) == true]) (eqs := []) (calls := [⟨true, false, 10, [], [], AV.bool true, []⟩, ⟨true, false, 14, [AV.vec fl 2 (List.map G2.a gs), AV.int IntKind.i64 12], [], AV.bool (Sp.checkE gs 12 == 0), []⟩, ⟨true, false, 17, [AV.vec fl 2 (List.map G2.a gs)], [], AV.vec false 1 (List.map (AV.int IntKind.i64) (Sp.nearest gs)), []⟩, ⟨true, false, 19, [AV.vec fl 2 (List.map G2.a gs)], [], AV.vec false 1 (List.map (AV.int IntKind.i64) (Sp.nearest gs)), []⟩, ⟨true, false, 18, [AV.vec false 1 (List.map (AV.int IntKind.i64) (Sp.nearest gs)), AV.vec false 1 (List.map (AV.int IntKind.i64) (Sp.nearest gs))], [], AV.bool (Sp.same (Sp.nearest gs) (Sp.nearest gs)), []⟩]) (AV.bool false) (by kernel_rfl) (by kernel_rfl) (allB_cons (beq_f (fun h => d3 (i2.1 h))) (allB_cons (beq_t (i6.2 d7)) allB_nil)) allP_nil (allC_cons (fun _ => ((@ev10 ) : Ev M1 (Conf.pure 10 []) (AV.bool true) [])) (allC_cons (fun _ => ((@ev14 (fl) (gs) (12) k1) : Ev M1 (Conf.pure 14 [AV.vec fl 2 (List.map G2.a gs), AV.int IntKind.i64 12]) (AV.bool (Sp.checkE gs 12 == 0)) [])) (allC_cons (fun _ => ((@ev17 (fl) (gs) k4) : Ev M1 (Conf.pure 17 [AV.vec fl 2 (List.map G2.a gs)]) (AV.vec false 1 (List.map (AV.int IntKind.i64) (Sp.nearest gs))) [])) (allC_cons (fun _ => ((@ev19 (fl) (gs) k4) : Ev M1 (Conf.pure 19 [AV.vec fl 2 (List.map G2.a gs)]) (AV.vec false 1 (List.map (AV.int IntKind.i64) (Sp.nearest gs))) [])) (allC_cons (fun _ => ((@ev18 (false) (false) (Sp.nearest gs) (Sp.nearest gs) k5) : Ev M1 (Conf.pure 18 [AV.vec false 1 (List.map (AV.int IntKind.i64) (Sp.nearest gs)), AV.vec false 1 (List.map (AV.int IntKind.i64) (Sp.nearest gs))]) (AV.bool (Sp.same (Sp.nearest gs) (Sp.nearest gs))) [])) allC_nil))))) (pq_of (d := AV.bool false) (bs := []) (by kernel_rfl) (by kernel_rfl) allB_nil (by kernel_rfl) H)
    · have H := H.2 d7
      have i8 : ((Sp.lengthE gs (Sp.nearest gs) == 0) == true && true && true) = true ↔ (Sp.lengthE gs (Sp.nearest gs) = 0) := (i_at (i_at (i_bt i_eq)))
      have i9 : ((Sp.lengthE gs (Sp.nearest gs) == 0) == true && true && true) = true ↔ (Sp.lengthE gs (Sp.nearest gs) = 0) := (i_at (i_at (i_bt i_eq)))
      have i10 : ((bif Sp.lengthE gs (Sp.nearest gs) == 0 then Sp.tree gs == Sp.tree gs else false) == true && true && true) = true ↔ ((Sp.lengthE gs (Sp.nearest gs) = 0) ∧ (Sp.tree gs = Sp.tree gs)) := (i_at (i_at (i_bt (i_band i_eq i_eq))))
      exact path_ret (G := given kp4 [(1, 0, .call (AV.bool true) none), (1, 4, .call (AV.bool (Sp.checkE gs 12 == 0)) none), (3, 1, .call (AV.vec false 1 (List.map (AV.int IntKind.i64) (Sp.nearest gs))) none), (4, 2, .call (AV.vec false 1 (List.map (AV.int IntKind.i64) (Sp.nearest gs))) none), (4, 3, .call (AV.bool (Sp.same (Sp.nearest gs) (Sp.nearest gs))) none), (6, 2, .call (AV.tup [AV.int IntKind.i64 (Sp.lengthV gs (Sp.nearest gs)), AV.int IntKind.i64 (Sp.lengthE gs (Sp.nearest gs))]) none), (7, 4, .call (AV.int IntKind.i64 (Sp.tree gs)) none), (7, 6, .call (AV.int IntKind.i64 (Sp.tree gs)) none), (7, 11, .call (AV.int IntKind.i64 (Sp.tree gs)) none)] []) 1000 [false, false] (k := ((atC (cd Try.f4) [1, 1, 1, 1, 1, 1])).tail) (env' := [(2, AV.bool (bif bif Sp.lengthE gs (Sp.nearest gs) == 0 then Sp.tree gs == Sp.tree gs else false then decide (Sp.tree gs ≤ Sp.lengthV gs (Sp.nearest gs)) else false))]) (L' := []) (asm := [(!Sp.checkE gs 12 == 0) == false, (!Sp.same (Sp.nearest gs) (Sp.nearest gs)) == false]) (eqs := []) (calls := [⟨true, false, 10, [], [], AV.bool true, []⟩, ⟨true, false, 14, [AV.vec fl 2 (List.map G2.a gs), AV.int IntKind.i64 12], [], AV.bool (Sp.checkE gs 12 == 0), []⟩, ⟨true, false, 17, [AV.vec fl 2 (List.map G2.a gs)], [], AV.vec false 1 (List.map (AV.int IntKind.i64) (Sp.nearest gs)), []⟩, ⟨true, false, 19, [AV.vec fl 2 (List.map G2.a gs)], [], AV.vec false 1 (List.map (AV.int IntKind.i64) (Sp.nearest gs)), []⟩, ⟨true, false, 18, [AV.vec false 1 (List.map (AV.int IntKind.i64) (Sp.nearest gs)), AV.vec false 1 (List.map (AV.int IntKind.i64) (Sp.nearest gs))], [], AV.bool (Sp.same (Sp.nearest gs) (Sp.nearest gs)), []⟩, ⟨true, false, 12, [AV.vec fl 2 (List.map G2.a gs), AV.vec false 1 (List.map (AV.int IntKind.i64) (Sp.nearest gs))], [], AV.tup [AV.int IntKind.i64 (Sp.lengthV gs (Sp.nearest gs)), AV.int IntKind.i64 (Sp.lengthE gs (Sp.nearest gs))], []⟩, ⟨(Sp.lengthE gs (Sp.nearest gs) == 0) == true && true && true, false, 20, [AV.vec fl 2 (List.map G2.a gs)], [], AV.int IntKind.i64 (Sp.tree gs), []⟩, ⟨(Sp.lengthE gs (Sp.nearest gs) == 0) == true && true && true, false, 21, [AV.vec fl 2 (List.map G2.a gs)], [], AV.int IntKind.i64 (Sp.tree gs), []⟩, ⟨(bif Sp.lengthE gs (Sp.nearest gs) == 0 then Sp.tree gs == Sp.tree gs else false) == true && true && true, false, 20, [AV.vec fl 2 (List.map G2.a gs)], [], AV.int IntKind.i64 (Sp.tree gs), []⟩]) (AV.bool (bif bif Sp.lengthE gs (Sp.nearest gs) == 0 then Sp.tree gs == Sp.tree gs else false then decide (Sp.tree gs ≤ Sp.lengthV gs (Sp.nearest gs)) else false)) (by kernel_rfl) (by kernel_rfl) (allB_cons (beq_f (fun h => d3 (i2.1 h))) (allB_cons (beq_f (fun h => d7 (i6.1 h))) allB_nil)) allP_nil (allC_cons (fun _ => ((@ev10 ) : Ev M1 (Conf.pure 10 []) (AV.bool true) [])) (allC_cons (fun _ => ((@ev14 (fl) (gs) (12) k1) : Ev M1 (Conf.pure 14 [AV.vec fl 2 (List.map G2.a gs), AV.int IntKind.i64 12]) (AV.bool (Sp.checkE gs 12 == 0)) [])) (allC_cons (fun _ => ((@ev17 (fl) (gs) k4) : Ev M1 (Conf.pure 17 [AV.vec fl 2 (List.map G2.a gs)]) (AV.vec false 1 (List.map (AV.int IntKind.i64) (Sp.nearest gs))) [])) (allC_cons (fun _ => ((@ev19 (fl) (gs) k4) : Ev M1 (Conf.pure 19 [AV.vec fl 2 (List.map G2.a gs)]) (AV.vec false 1 (List.map (AV.int IntKind.i64) (Sp.nearest gs))) [])) (allC_cons (fun _ => ((@ev18 (false) (false) (Sp.nearest gs) (Sp.nearest gs) k5) : Ev M1 (Conf.pure 18 [AV.vec false 1 (List.map (AV.int IntKind.i64) (Sp.nearest gs)), AV.vec false 1 (List.map (AV.int IntKind.i64) (Sp.nearest gs))]) (AV.bool (Sp.same (Sp.nearest gs) (Sp.nearest gs))) [])) (allC_cons (fun _ => ((@ev12 (fl) (false) (gs) (Sp.nearest gs)) : Ev M1 (Conf.pure 12 [AV.vec fl 2 (List.map G2.a gs), AV.vec false 1 (List.map (AV.int IntKind.i64) (Sp.nearest gs))]) (AV.tup [AV.int IntKind.i64 (Sp.lengthV gs (Sp.nearest gs)), AV.int IntKind.i64 (Sp.lengthE gs (Sp.nearest gs))]) [])) (allC_cons (fun hc => ((@ev20 (fl) (gs) k4) : Ev M1 (Conf.pure 20 [AV.vec fl 2 (List.map G2.a gs)]) (AV.int IntKind.i64 (Sp.tree gs)) [])) (allC_cons (fun hc => ((@ev21 (fl) (gs) k4) : Ev M1 (Conf.pure 21 [AV.vec fl 2 (List.map G2.a gs)]) (AV.int IntKind.i64 (Sp.tree gs)) [])) (allC_cons (fun hc => ((@ev20 (fl) (gs) k4) : Ev M1 (Conf.pure 20 [AV.vec fl 2 (List.map G2.a gs)]) (AV.int IntKind.i64 (Sp.tree gs)) [])) allC_nil))))))))) (pq_of (d := AV.bool (bif bif Sp.lengthE gs (Sp.nearest gs) == 0 then Sp.tree gs == Sp.tree gs else false then decide (Sp.tree gs ≤ Sp.lengthV gs (Sp.nearest gs)) else false)) (bs := []) (by kernel_rfl) (by kernel_rfl) allB_nil (by kernel_rfl) H)

theorem v6 (fl fw : Bool) (gs : List G2) (w : List Int) (dq : AV) (H :
    (((¬(((↑gs.length : Int) ≤ 12) ∨ (((↑gs.length : Int) > 199) ∧ ((↑gs.length : Int) < 203)))) ∨ ((↑w.length : Int) > 205)) → AV.bool true = dq) ∧
    (¬((¬(((↑gs.length : Int) ≤ 12) ∨ (((↑gs.length : Int) > 199) ∧ ((↑gs.length : Int) < 203)))) ∨ ((↑w.length : Int) > 205)) → AV.bool (bif Sp.boundR gs w == Sp.boundR gs w then Sp.boundE gs w == Sp.boundE gs w else false) = dq)) :
  v6_at fl fw gs w (PureQ dq) := by
  unfold v6_at
  have w1 : (List.map (AV.int IntKind.i64) w).length = w.length := List.length_map ..
  have i2 : (bif !bif decide ((↑gs.length : Int) ≤ 12) then true else bif decide ((↑gs.length : Int) > 199) then decide ((↑gs.length : Int) < 203) else false then true else decide ((↑(List.map (AV.int IntKind.i64) w).length : Int) > 205)) = true ↔ ((¬(((↑gs.length : Int) ≤ 12) ∨ (((↑gs.length : Int) > 199) ∧ ((↑gs.length : Int) < 203)))) ∨ ((↑w.length : Int) > 205)) := (by rw [w1] <;> exact (i_bor (i_not (i_bor i_dec (i_band i_dec i_dec))) i_dec))
  rcases Classical.em ((¬(((↑gs.length : Int) ≤ 12) ∨ (((↑gs.length : Int) > 199) ∧ ((↑gs.length : Int) < 203)))) ∨ ((↑w.length : Int) > 205)) with d3 | d3
  · have H := H.1 d3
    exact path_ret (G := given kp6 [(1, 0, .call (AV.bool true) none), (1, 4, .call (AV.bool (bif decide ((↑gs.length : Int) ≤ 12) then true else bif decide ((↑gs.length : Int) > 199) then decide ((↑gs.length : Int) < 203) else false)) none), (2, 0, .call (AV.bool true) none)] []) 1000 [true] (k := ((atC (cd Try.f6) [1, 0, 1, 0, 1])).tail) (env' := [(4, AV.bool true)]) (L' := []) (asm := [(bif !bif decide ((↑gs.length : Int) ≤ 12) then true else bif decide ((↑gs.length : Int) > 199) then decide ((↑gs.length : Int) < 203) else false then true else decide ((↑(List.map (AV.int IntKind.i64) w).length : Int) > 205)) == true]) (eqs := []) (calls := [⟨true, false, 10, [], [], AV.bool true, []⟩, ⟨true, false, 11, [AV.vec fl 2 (List.map G2.a gs), AV.int IntKind.i64 12], [], AV.bool (bif decide ((↑gs.length : Int) ≤ 12) then true else bif decide ((↑gs.length : Int) > 199) then decide ((↑gs.length : Int) < 203) else false), []⟩, ⟨true, false, 10, [], [], AV.bool true, []⟩]) (AV.bool true) (by kernel_rfl) (by kernel_rfl) (allB_cons (beq_t (i2.2 d3)) allB_nil) allP_nil (allC_cons (fun _ => ((@ev10 ) : Ev M1 (Conf.pure 10 []) (AV.bool true) [])) (allC_cons (fun _ => ((@ev11 (fl) (gs) (12)) : Ev M1 (Conf.pure 11 [AV.vec fl 2 (List.map G2.a gs), AV.int IntKind.i64 12]) (AV.bool (bif decide ((↑gs.length : Int) ≤ 12) then true else bif decide ((↑gs.length : Int) > 199) then decide ((↑gs.length : Int) < 203) else false)) [])) (allC_cons (fun _ => ((@ev10 ) : Ev M1 (Conf.pure 10 []) (AV.bool true) [])) allC_nil))) (pq_of (d := AV.bool true) (bs := []) (by kernel_rfl) (by kernel_rfl) allB_nil (by kernel_rfl) H)
  · have H := H.2 d3
    exact path_ret (G := given kp6 [(1, 0, .call (AV.bool true) none), (1, 4, .call (AV.bool (bif decide ((↑gs.length : Int) ≤ 12) then true else bif decide ((↑gs.length : Int) > 199) then decide ((↑gs.length : Int) < 203) else false)) none), (3, 2, .call (AV.tup [AV.int IntKind.i64 (Sp.boundR gs w), AV.int IntKind.i64 (Sp.boundE gs w)]) none), (4, 2, .call (AV.tup [AV.int IntKind.i64 (Sp.boundR gs w), AV.int IntKind.i64 (Sp.boundE gs w)]) none)] []) 1000 [false] (k := ((atC (cd Try.f6) [1, 1, 1, 1, 1])).tail) (env' := [(4, AV.bool (bif Sp.boundR gs w == Sp.boundR gs w then Sp.boundE gs w == Sp.boundE gs w else false))]) (L' := []) (asm := [(bif !bif decide ((↑gs.length : Int) ≤ 12) then true else bif decide ((↑gs.length : Int) > 199) then decide ((↑gs.length : Int) < 203) else false then true else decide ((↑(List.map (AV.int IntKind.i64) w).length : Int) > 205)) == false]) (eqs := []) (calls := [⟨true, false, 10, [], [], AV.bool true, []⟩, ⟨true, false, 11, [AV.vec fl 2 (List.map G2.a gs), AV.int IntKind.i64 12], [], AV.bool (bif decide ((↑gs.length : Int) ≤ 12) then true else bif decide ((↑gs.length : Int) > 199) then decide ((↑gs.length : Int) < 203) else false), []⟩, ⟨true, false, 24, [AV.vec fl 2 (List.map G2.a gs), AV.vec fw 1 (List.map (AV.int IntKind.i64) w)], [], AV.tup [AV.int IntKind.i64 (Sp.boundR gs w), AV.int IntKind.i64 (Sp.boundE gs w)], []⟩, ⟨true, false, 25, [AV.vec fl 2 (List.map G2.a gs), AV.vec fw 1 (List.map (AV.int IntKind.i64) w)], [], AV.tup [AV.int IntKind.i64 (Sp.boundR gs w), AV.int IntKind.i64 (Sp.boundE gs w)], []⟩]) (AV.bool (bif Sp.boundR gs w == Sp.boundR gs w then Sp.boundE gs w == Sp.boundE gs w else false)) (by kernel_rfl) (by kernel_rfl) (allB_cons (beq_f (fun h => d3 (i2.1 h))) allB_nil) allP_nil (allC_cons (fun _ => ((@ev10 ) : Ev M1 (Conf.pure 10 []) (AV.bool true) [])) (allC_cons (fun _ => ((@ev11 (fl) (gs) (12)) : Ev M1 (Conf.pure 11 [AV.vec fl 2 (List.map G2.a gs), AV.int IntKind.i64 12]) (AV.bool (bif decide ((↑gs.length : Int) ≤ 12) then true else bif decide ((↑gs.length : Int) > 199) then decide ((↑gs.length : Int) < 203) else false)) [])) (allC_cons (fun _ => ((@ev24 (fl) (fw) (gs) (w)) : Ev M1 (Conf.pure 24 [AV.vec fl 2 (List.map G2.a gs), AV.vec fw 1 (List.map (AV.int IntKind.i64) w)]) (AV.tup [AV.int IntKind.i64 (Sp.boundR gs w), AV.int IntKind.i64 (Sp.boundE gs w)]) [])) (allC_cons (fun _ => ((@ev25 (fl) (fw) (gs) (w)) : Ev M1 (Conf.pure 25 [AV.vec fl 2 (List.map G2.a gs), AV.vec fw 1 (List.map (AV.int IntKind.i64) w)]) (AV.tup [AV.int IntKind.i64 (Sp.boundR gs w), AV.int IntKind.i64 (Sp.boundE gs w)]) [])) allC_nil)))) (pq_of (d := AV.bool (bif Sp.boundR gs w == Sp.boundR gs w then Sp.boundE gs w == Sp.boundE gs w else false)) (bs := []) (by kernel_rfl) (by kernel_rfl) allB_nil (by kernel_rfl) H)


end Go.Av

/- ORDERS AND TREES: what the statements need of them. -/
namespace Go.Av
open Go.Proofs

theorem perm_sum {a b : List Int} (h : List.Perm a b) : a.sum = b.sum := by
  induction h with
  | nil => rfl
  | cons x _ ih => rw [List.sum_cons, List.sum_cons, ih]
  | swap x y l => simp only [List.sum_cons]; omega
  | trans _ _ h1 h2 => rw [h1, h2]

theorem ordFrom_of {n : Int} : ∀ (o : List Int) (sn : List Bool), n ≤ sn.length → (∀ x ∈ o, 0 ≤ x ∧ x < n ∧ sn.getD x.toNat default = false) → o.Nodup → Sp.ordFrom n o sn = true
  | [], _, _, _, _ => rfl
  | x :: o, sn, hs, h, hd => by
    obtain ⟨h1, h2, h3⟩ := h x (by simp)
    rw [List.nodup_cons] at hd
    rw [Sp.ordFrom, if_neg (by rw [h3]; simp; omega)]
    refine ordFrom_of o _ (by simpa using hs) (fun y hy => ?_) hd.2
    obtain ⟨k1, k2, k3⟩ := h y (List.mem_cons_of_mem _ hy)
    refine ⟨k1, k2, ?_⟩
    have hxy : x ≠ y := by rintro rfl; exact hd.1 hy
    rw [getD_set (by omega), if_neg (by omega)]
    exact k3

theorem isOrd_of {n : Nat} {o : List Int} (h : IsOrd n o) : Sp.isOrd o n = true := by
  have := h.len
  unfold Sp.isOrd
  rw [if_neg (by
    intro hc
    rcases hc with hc | hc
    · omega
    · exact hc.2 (h.zero (by omega)))]
  refine ordFrom_of _ _ (by simp) (fun x hx => ⟨(h.rng x hx).1, (h.rng x hx).2, ?_⟩) h.nod
  simp only [List.getD_eq_getElem?_getD, List.getElem?_replicate]
  split <;> rfl
theorem ord_of {n : Nat} {o : List Int} (h : Sp.isOrd o n = true) : IsOrd n o := by
  obtain ⟨h1, h2, h3, h4⟩ := isOrd_facts h
  exact ⟨by omega, h3, h2, fun h0 => h4 (by omega)⟩
theorem IsOrd.okO {gs : List G2} {o : List Int} (h : IsOrd gs.length o) : Sp.okO gs o := fun x hx => h.rng x hx

/-- The cost of a way with weights. -/
theorem cost_way (gs : List G2) (w : List Int) : ∀ (x : Int) (o : List Int), Mst.cost (Sp.cw gs w) (Mst.pairs (x :: o)) = Sp.way gs (x :: o) + 2 * ((x :: o).map fun i => w.getD i.toNat default).sum - w.getD x.toNat default - w.getD ((x :: o).getLast (by simp)).toNat default
  | x, [] => by simp only [Mst.pairs, Mst.cost, Sp.way, List.map_cons, List.map_nil, List.sum_cons, List.sum_nil, List.getLast_singleton]; omega
  | x, y :: o => by
    have ih := cost_way gs w y o
    rw [Mst.pairs, Mst.cost, ih, Sp.way, List.getLast_cons (List.cons_ne_nil y o)]
    simp only [List.map_cons, List.sum_cons]
    show Sp.cw gs w x y + _ = _
    unfold Sp.cw
    omega

theorem range_map_getD (w : List Int) : (List.range w.length).map (fun i => w.getD i default) = w := by
  apply List.ext_getElem (by simp)
  intro i h1 h2
  simp at h1 h2 ⊢
  simp [h2]

theorem ord_sum {n : Nat} {o w : List Int} (h : IsOrd n o) (hw : w.length = n) : (o.map fun i => w.getD i.toNat default).sum = w.sum := by
  have hp : List.Perm o ((List.range n).map fun i : Nat => (i : Int)) := by
    refine (List.perm_ext_iff_of_nodup h.nod ?_).2 fun a => ?_
    · rw [List.nodup_iff_pairwise_ne, List.pairwise_map]
      exact List.Pairwise.imp (fun h => by omega) (List.nodup_iff_pairwise_ne.1 List.nodup_range)
    · constructor
      · intro ha
        obtain ⟨h1, h2⟩ := h.rng a ha
        exact List.mem_map.2 ⟨a.toNat, by simp; omega, by omega⟩
      · intro ha
        obtain ⟨j, hj, rfl⟩ := List.mem_map.1 ha
        exact il_full h.nod h.rng h.len j (by simpa using hj)
  have e := perm_sum (hp.map fun i => w.getD i.toNat default)
  rw [e, List.map_map]
  have : ((fun i : Int => w.getD i.toNat default) ∘ fun i : Nat => (i : Int)) = fun i : Nat => w.getD i default := by funext i; simp
  rw [this, ← hw, range_map_getD]

theorem foldl_min_le : ∀ (w : List Int) (m : Int), w.foldl (fun m x => if x < m then x else m) m ≤ m ∧ ∀ x ∈ w, w.foldl (fun m x => if x < m then x else m) m ≤ x
  | [], m => by simp
  | y :: w, m => by
    obtain ⟨h1, h2⟩ := foldl_min_le w (if y < m then y else m)
    rw [List.foldl_cons]
    refine ⟨?_, fun x hx => ?_⟩
    · by_cases h : y < m
      · rw [if_pos h] at h1 ⊢; omega
      · rw [if_neg h] at h1 ⊢; omega
    · rcases List.mem_cons.1 hx with rfl | hx
      · by_cases h : x < m
        · rw [if_pos h] at h1 ⊢; omega
        · rw [if_neg h] at h1 ⊢; omega
      · exact h2 x hx
theorem minL_mem {w : List Int} {x : Int} (h : x ∈ w) : Sp.minL w ≤ x := by
  obtain ⟨h1, h2⟩ := foldl_min_le (w.drop 1) (w.getD 0 default)
  obtain ⟨j, hj, rfl⟩ := mem_getD h
  unfold Sp.minL
  cases j with
  | zero => exact h1
  | succ j =>
    refine h2 _ ?_
    have e := drop_getD (d := w.drop 1) (i := j) (by rw [List.length_drop]; omega)
    have : w.getD (j + 1) default = (w.drop 1).getD j default := by simp [List.getD_eq_getElem?_getD, List.getElem?_drop, Nat.add_comm]
    rw [this]
    exact getD_mem (by rw [List.length_drop]; omega)

/-- No tree costs more than the way over all. -/
theorem mst_way {gs : List G2} {o w : List Int} (h : IsOrd gs.length o) (hw : w.length = gs.length) (h2 : 2 ≤ gs.length) : Sp.boundV gs w ≤ Sp.way gs o := by
  have hz := h.zero (by omega)
  have hl := h.len
  cases o with
  | nil => simp at hl; omega
  | cons x o =>
    have hx : x = 0 := hz
    subst hx
    cases o with
    | nil => simp at hl; omega
    | cons y o =>
      have h1 := Mst.rem_way (cw_symm gs w) h.nod h.rng h.len
      rw [cost_way, ord_sum h hw] at h1
      have hlast : (0 :: y :: o).getLast (by simp) ∈ y :: o := by
        rw [List.getLast_cons (by simp)]
        exact List.getLast_mem _
      have hne : (0 :: y :: o).getLast (by simp) ≠ 0 := by
        intro e
        rw [e] at hlast
        exact (List.nodup_cons.1 h.nod).1 hlast
      obtain ⟨r1, r2⟩ := h.rng _ (List.mem_cons_of_mem _ hlast)
      generalize (0 :: y :: o).getLast (by simp) = z at *
      have hmin : Sp.minL (w.drop 1) ≤ w.getD z.toNat default := by
        refine minL_mem ?_
        have : w.getD z.toNat default = (w.drop 1).getD (z.toNat - 1) default := by
          simp only [List.getD_eq_getElem?_getD, List.getElem?_drop]
          congr 2; omega
        rw [this]
        exact getD_mem (by rw [List.length_drop]; omega)
      have hm : Sp.mst gs w = Mst.rem (Sp.cw gs w) gs.length [0] := by unfold Sp.mst; rw [if_neg (by omega)]; rfl
      unfold Sp.boundV
      rw [hm]
      have e0 : w.getD (0 : Int).toNat default = w.getD 0 default := rfl
      rw [e0] at h1
      omega

theorem tree_way {gs : List G2} {o : List Int} (h : IsOrd gs.length o) : Sp.tree gs ≤ Sp.way gs o := by
  unfold Sp.tree Sp.mst
  have hl := h.len
  split
  · rename_i h0
    have : o = [] := List.length_eq_zero_iff.1 (by omega)
    subst this; simp [Sp.way]
  · rename_i h0
    cases o with
    | nil => simp at hl; omega
    | cons x o =>
      have hx : x = 0 := h.zero (by omega)
      subst hx
      have h1 := Mst.rem_way (cw_symm gs (Sp.zeros gs.length)) h.nod h.rng h.len
      rw [cost_way, ord_sum h (zeros_ok _).2, zeros_getD, zeros_getD] at h1
      have hs : (Sp.zeros gs.length).sum = 0 := by
        unfold Sp.zeros
        generalize gs.length = n
        induction n with
        | zero => rfl
        | succ n ih => rw [List.replicate_succ, List.sum_cons, ih]; rfl
      rw [hs] at h1
      have e : Sp.rest gs (Sp.zeros gs.length) [0] = Mst.rem (Sp.cw gs (Sp.zeros gs.length)) gs.length [0] := rfl
      rw [e]; omega

theorem ord_length {gs : List G2} {o : List Int} (h : IsOrd gs.length o) (hc : Sp.checkE gs 200 = 0) : Sp.lengthE gs o = 0 ∧ Sp.lengthV gs o = Sp.way gs o := by
  have e : Sp.lengthE gs o = 0 := by rw [Sp.lengthE, if_pos hc, if_pos (isOrd_of h)]
  exact ⟨e, by rw [Sp.lengthV, if_pos e]⟩
theorem check_more {gs : List G2} {m : Int} (h : Sp.checkE gs m = 0) (hm : m ≤ 200) : Sp.checkE gs 200 = 0 := by
  unfold Sp.checkE at h ⊢
  split at h
  · simp at h
  · rename_i h1
    rw [if_neg (by omega)]
    exact h

theorem ev4 (fl : Bool) (gs : List G2) : Ev M1 (.pure 4 [gsA fl gs]) (.bool true) [] := by
  refine call4 (v4 fl gs _ ⟨by simp [Sp.mOk], fun _ => rfl, fun h => ?_⟩)
  have h := Classical.not_not.1 h
  obtain ⟨c1, c2⟩ := check_okG h
  have ho := nearest_ord gs
  have hl := ho.len
  obtain ⟨e1, e2⟩ := ord_length ho (check_more h (by omega))
  refine ⟨⟨c1, by omega⟩, by omega, fun k => absurd (same_iff.2 rfl) k, fun _ => ?_⟩
  rw [e1, e2]
  simp [tree_way ho]

theorem ev6 (fl fw : Bool) (gs : List G2) (w : List Int) : Ev M1 (.pure 6 [gsA fl gs, isA fw w]) (.bool true) [] :=
  call6 (v6 fl fw gs w _ ⟨fun _ => rfl, fun h => by simp⟩)
end Go.Av

/- WHAT Exact ANSWERS. -/
namespace Go.Av
open Go.Proofs

namespace Sp
/-- The first shortest order. -/
def exactL (gs : List G2) : List Int := if checkE gs 10 = 0 ∧ ¬gs.length = 0 then srch gs (gs.length - 1) [0] [] else []
end Sp

theorem weak_tup3 {a a' b c : AV} (h : Weak a a') : Weak (.tup [a, b, c]) (.tup [a', b, c]) := by
  refine .tup _ _ rfl fun i x y hx hy => ?_
  match i with
  | 0 => simp at hx hy; subst hx; subst hy; exact h
  | 1 => simp at hx hy; subst hx; subst hy; exact .refl _
  | 2 => simp at hx hy; subst hx; subst hy; exact .refl _
  | i + 3 => simp at hx

theorem begins0 {gs : List G2} (h : ¬gs.length = 0) : Sp.begins gs (gs.length - 1) [0] := ⟨by simp; omega, by simp, by simp; omega, by simp⟩
theorem exact_eq {gs : List G2} (h : Sp.checkE gs 10 = 0) (h0 : ¬gs.length = 0) : Sp.exactL gs = Sp.srch gs (gs.length - 1) [0] [] := if_pos ⟨h, h0⟩
theorem exact_ord {gs : List G2} (h : Sp.checkE gs 10 = 0) : IsOrd gs.length (Sp.exactL gs) := by
  by_cases h0 : gs.length = 0
  · have e : Sp.exactL gs = [] := if_neg (fun x => x.2 h0)
    rw [e, h0]; exact ⟨rfl, by simp, by simp, fun h => by omega⟩
  · rw [exact_eq h h0]
    exact srch_ord _ _ [] (begins0 h0) rfl (fun h => absurd rfl h) (srch_full _ _ (begins0 h0))
theorem exact_least {gs : List G2} (h : Sp.checkE gs 10 = 0) {o : List Int} (ho : IsOrd gs.length o) : Sp.way gs (Sp.exactL gs) ≤ Sp.way gs o := by
  have hg := (check_okG h).1
  have hl := ho.len
  by_cases h0 : gs.length = 0
  · have e : Sp.exactL gs = [] := if_neg (fun x => x.2 h0)
    have e2 : o = [] := List.length_eq_zero_iff.1 (by omega)
    rw [e, e2]; exact Int.le_refl _
  · rw [exact_eq h h0]
    cases o with
    | nil => simp at hl; omega
    | cons x o =>
      have hx : x = 0 := ho.zero (by omega)
      subst hx
      exact (srch_least hg _ [0] [] (begins0 h0)).2 o (by simp at hl; omega) (fun x hx => ho.rng x (List.mem_cons_of_mem _ hx)) ho.nod

theorem ev22 (fl : Bool) (gs : List G2) : Ev M1 (.pure 22 [gsA fl gs]) (.tup [isA false (Sp.exactL gs), .int .i64 (Sp.way gs (Sp.exactL gs)), .int .i64 (Sp.checkE gs 10)]) [] := by
  by_cases h : Sp.checkE gs 10 = 0
  · obtain ⟨hg, hl⟩ := check_okG h
    by_cases h0 : gs.length = 0
    · have e : Sp.exactL gs = [] := if_neg (fun x => x.2 h0)
      rw [e, h]
      exact call22 (v22 fl gs 0 0 [] false false _ ⟨by simp [Sp.mOk], fun k => absurd h k, fun _ => ⟨fun _ => weak_tup3 (.vnil 1), fun k => by omega⟩⟩)
    · obtain ⟨fb', fz, hE⟩ := (ext38 (fl := fl) hg (by omega) (gs.length - 1) [0] 0 (begins0 h0)).1 0
      have hne := srch_full _ _ (begins0 h0)
      rw [h, exact_eq h h0]
      have e2 : ∀ r : List Int, r ≠ [] → (AV.int .i64 (Sp.hd r) :: (Sp.tl r).map (.int .i64)) = r.map (.int .i64) := fun r hr => by rw [← List.map_cons, hd_tl hr]
      refine call22 (v22 fl gs (Sp.hd (Sp.srch gs (gs.length - 1) [0] [])) (Sp.way gs (Sp.srch gs (gs.length - 1) [0] [])) (Sp.tl (Sp.srch gs (gs.length - 1) [0] [])) fz fb' _ ⟨by simp [Sp.mOk], fun k => absurd h k, fun _ => ⟨fun k => by omega, fun _ => ⟨?_, ?_⟩⟩⟩)
      · rw [e2 _ hne]; exact hE
      · rw [e2 _ hne]
        refine weak_tup3 ?_
        cases fb' with
        | true => exact .full 1 _
        | false => exact .refl _
  · have e : Sp.exactL gs = [] := if_neg (fun x => h x.1)
    rw [e]
    exact call22 (v22 fl gs 0 0 [] false false _ ⟨by simp [Sp.mOk], fun _ => weak_tup3 (.vnil 1), fun k => absurd h k⟩)

theorem ev23 (fl : Bool) (gs : List G2) : Ev M1 (.pure 23 [gsA fl gs]) (.tup [isA false (Sp.exactL gs), .int .i64 (Sp.way gs (Sp.exactL gs)), .int .i64 (Sp.checkE gs 10)]) [] := by
  by_cases h : Sp.checkE gs 10 = 0
  · obtain ⟨hg, hl⟩ := check_okG h
    by_cases h0 : gs.length = 0
    · have e : Sp.exactL gs = [] := if_neg (fun x => x.2 h0)
      rw [e, h]
      exact call23 (v23 fl gs _ ⟨by simp [Sp.mOk], fun k => absurd h k, fun _ => ⟨fun _ => weak_tup3 (.vnil 1), fun k => by omega⟩⟩)
    · have ho := exact_ord h
      have hol := ho.len
      rw [h]
      refine call23 (v23 fl gs _ ⟨by simp [Sp.mOk], fun k => absurd h k, fun _ => ⟨fun k => by omega, fun _ => ⟨Sp.exactL gs, ?_, hg, ho.okO, by omega, .refl _⟩⟩⟩)
      rw [exact_eq h h0]
      exact (srch39 (fl := fl) hg (by omega) (gs.length - 1) true 0 [] rfl (begins0 h0)).1
  · have e : Sp.exactL gs = [] := if_neg (fun x => h x.1)
    rw [e]
    exact call23 (v23 fl gs _ ⟨by simp [Sp.mOk], fun _ => weak_tup3 (.vnil 1), fun k => absurd h k⟩)
end Go.Av

/- PATHS, written by a program of the prover's. -/
namespace Go.Av
open Go.Proofs
set_option maxRecDepth 100000
def fi5 : Fi := ⟨52, [.tmp 2]⟩
def kp5 : List (Nat × List Nat) := [(0, [0]), (1, [0, 25]), (2, [2]), (3, [0, 3, 4, 5]), (4, [3, 4, 5, 6, 7, 8]), (5, [2])]
def fi7 : Fi := ⟨76, [.tmp 4]⟩
def kp7 : List (Nat × List Nat) := [(0, [0, 1]), (1, [0, 1, 28]), (2, [4]), (3, [0, 1, 6, 7]), (4, [0, 6, 7, 8, 9]), (5, [0, 6, 7, 8, 9, 10, 11]), (6, [4])]
def v5_at (fl : Bool) (gs : List G2) (Q : AV → Heap → Prop) : Prop := Wp M1 (.run fi5 (atC (cd Try.f5) []) [(0, .vec fl 2 (gs.map G2.a))] []) Q
def v7_at (fl fw : Bool) (gs : List G2) (w : List Int) (Q : AV → Heap → Prop) : Prop := Wp M1 (.run fi7 (atC (cd Try.f7) []) [(0, .vec fl 2 (gs.map G2.a)), (1, .vec fw 1 (w.map (.int .i64)))] []) Q
theorem call5 {args : List AV} {d : AV} (h : Wp M1 (.run fi5 [.code (cd Try.f5)] (argVars 0 args) []) (PureQ d)) : Ev M1 (.pure 5 args) d [] :=
  pure_pq Try.f5 fi5 (by kernel_rfl) (by kernel_rfl) (by kernel_rfl) (by kernel_rfl) h
theorem owncall5 {args : List AV} {L : Heap} {Q : AV → Heap → Prop} (h : Wp M1 (.run fi5 [.code (cd Try.f5)] (argVars 0 args) L) Q) : Wp M1 (.own 5 args L) Q :=
  own_wp Try.f5 fi5 (by kernel_rfl) (by kernel_rfl) (by kernel_rfl) (by kernel_rfl) h
theorem keepcall5 {args : List AV} {L : Heap} {v : AV} {K : Heap} (hk : keepOk L.length v K = true) (h : Wp M1 (.run fi5 [.code (cd Try.f5)] (argVars 0 args) L) (KeepQ v K)) : Ev M1 (.own 5 args L) v K :=
  own_keep Try.f5 fi5 (by kernel_rfl) (by kernel_rfl) (by kernel_rfl) (by kernel_rfl) hk h
theorem call7 {args : List AV} {d : AV} (h : Wp M1 (.run fi7 [.code (cd Try.f7)] (argVars 0 args) []) (PureQ d)) : Ev M1 (.pure 7 args) d [] :=
  pure_pq Try.f7 fi7 (by kernel_rfl) (by kernel_rfl) (by kernel_rfl) (by kernel_rfl) h
theorem owncall7 {args : List AV} {L : Heap} {Q : AV → Heap → Prop} (h : Wp M1 (.run fi7 [.code (cd Try.f7)] (argVars 0 args) L) Q) : Wp M1 (.own 7 args L) Q :=
  own_wp Try.f7 fi7 (by kernel_rfl) (by kernel_rfl) (by kernel_rfl) (by kernel_rfl) h
theorem keepcall7 {args : List AV} {L : Heap} {v : AV} {K : Heap} (hk : keepOk L.length v K = true) (h : Wp M1 (.run fi7 [.code (cd Try.f7)] (argVars 0 args) L) (KeepQ v K)) : Ev M1 (.own 7 args L) v K :=
  own_keep Try.f7 fi7 (by kernel_rfl) (by kernel_rfl) (by kernel_rfl) (by kernel_rfl) hk h
theorem v5 (fl : Bool) (gs : List G2)  (dq : AV) (H :
    (((((↑gs.length : Int) > 7) ∧ ((↑gs.length : Int) < 11)) ∨ ((↑gs.length : Int) > 12)) → AV.bool true = dq) ∧
    (¬((((↑gs.length : Int) > 7) ∧ ((↑gs.length : Int) < 11)) ∨ ((↑gs.length : Int) > 12)) → (((Sp.checkE gs 10 = Sp.checkE gs 10) ∧ (Sp.way gs (Sp.exactL gs) = Sp.way gs (Sp.exactL gs))) → ((Sp.exactL gs).length ≤ 1000000)) ∧
      AV.bool (bif bif Sp.checkE gs 10 == Sp.checkE gs 10 then Sp.way gs (Sp.exactL gs) == Sp.way gs (Sp.exactL gs) else false then Sp.same (Sp.exactL gs) (Sp.exactL gs) else false) = dq)) :
  v5_at fl gs (PureQ dq) := by
  unfold v5_at
  have w1 : (List.map G2.a gs).length = gs.length := List.length_map ..
  have i2 : (bif bif decide ((↑(List.map G2.a gs).length : Int) > 7) then decide ((↑(List.map G2.a gs).length : Int) < 11) else false then true else decide ((↑(List.map G2.a gs).length : Int) > 12)) = true ↔ ((((↑gs.length : Int) > 7) ∧ ((↑gs.length : Int) < 11)) ∨ ((↑gs.length : Int) > 12)) := (by rw [w1] <;> exact (i_bor (i_band i_dec i_dec) i_dec))
  rcases Classical.em ((((↑gs.length : Int) > 7) ∧ ((↑gs.length : Int) < 11)) ∨ ((↑gs.length : Int) > 12)) with d3 | d3
  · have H := H.1 d3
    exact path_ret (G := given kp5 [(1, 0, .call (AV.bool true) none), (2, 0, .call (AV.bool true) none)] []) 1000 [true] (k := ((atC (cd Try.f5) [1, 0, 1, 0, 1])).tail) (env' := [(2, AV.bool true)]) (L' := []) (asm := [(bif bif decide ((↑(List.map G2.a gs).length : Int) > 7) then decide ((↑(List.map G2.a gs).length : Int) < 11) else false then true else decide ((↑(List.map G2.a gs).length : Int) > 12)) == true]) (eqs := []) (calls := [⟨true, false, 10, [], [], AV.bool true, []⟩, ⟨true, false, 10, [], [], AV.bool true, []⟩]) (AV.bool true) (by kernel_rfl) (by kernel_rfl) (allB_cons (beq_t (i2.2 d3)) allB_nil) allP_nil (allC_cons (fun _ => ((@ev10 ) : Ev M1 (Conf.pure 10 []) (AV.bool true) [])) (allC_cons (fun _ => ((@ev10 ) : Ev M1 (Conf.pure 10 []) (AV.bool true) [])) allC_nil)) (pq_of (d := AV.bool true) (bs := []) (by kernel_rfl) (by kernel_rfl) allB_nil (by kernel_rfl) H)
  · have H := H.2 d3
    have i4 : ((bif Sp.checkE gs 10 == Sp.checkE gs 10 then Sp.way gs (Sp.exactL gs) == Sp.way gs (Sp.exactL gs) else false) == true && true && true) = true ↔ ((Sp.checkE gs 10 = Sp.checkE gs 10) ∧ (Sp.way gs (Sp.exactL gs) = Sp.way gs (Sp.exactL gs))) := (i_at (i_at (i_bt (i_band i_eq i_eq))))
    have k5 := H.1; have H := H.2
    exact path_ret (G := given kp5 [(1, 0, .call (AV.bool true) none), (3, 1, .call (AV.tup [AV.vec false 1 (List.map (AV.int IntKind.i64) (Sp.exactL gs)), AV.int IntKind.i64 (Sp.way gs (Sp.exactL gs)), AV.int IntKind.i64 (Sp.checkE gs 10)]) none), (4, 1, .call (AV.tup [AV.vec false 1 (List.map (AV.int IntKind.i64) (Sp.exactL gs)), AV.int IntKind.i64 (Sp.way gs (Sp.exactL gs)), AV.int IntKind.i64 (Sp.checkE gs 10)]) none), (5, 11, .call (AV.bool (Sp.same (Sp.exactL gs) (Sp.exactL gs))) none)] []) 1000 [false] (k := ((atC (cd Try.f5) [1, 1, 1, 1, 1])).tail) (env' := [(2, AV.bool (bif bif Sp.checkE gs 10 == Sp.checkE gs 10 then Sp.way gs (Sp.exactL gs) == Sp.way gs (Sp.exactL gs) else false then Sp.same (Sp.exactL gs) (Sp.exactL gs) else false))]) (L' := []) (asm := [(bif bif decide ((↑(List.map G2.a gs).length : Int) > 7) then decide ((↑(List.map G2.a gs).length : Int) < 11) else false then true else decide ((↑(List.map G2.a gs).length : Int) > 12)) == false]) (eqs := []) (calls := [⟨true, false, 10, [], [], AV.bool true, []⟩, ⟨true, false, 22, [AV.vec fl 2 (List.map G2.a gs)], [], AV.tup [AV.vec false 1 (List.map (AV.int IntKind.i64) (Sp.exactL gs)), AV.int IntKind.i64 (Sp.way gs (Sp.exactL gs)), AV.int IntKind.i64 (Sp.checkE gs 10)], []⟩, ⟨true, false, 23, [AV.vec fl 2 (List.map G2.a gs)], [], AV.tup [AV.vec false 1 (List.map (AV.int IntKind.i64) (Sp.exactL gs)), AV.int IntKind.i64 (Sp.way gs (Sp.exactL gs)), AV.int IntKind.i64 (Sp.checkE gs 10)], []⟩, ⟨(bif Sp.checkE gs 10 == Sp.checkE gs 10 then Sp.way gs (Sp.exactL gs) == Sp.way gs (Sp.exactL gs) else false) == true && true && true, false, 18, [AV.vec false 1 (List.map (AV.int IntKind.i64) (Sp.exactL gs)), AV.vec false 1 (List.map (AV.int IntKind.i64) (Sp.exactL gs))], [], AV.bool (Sp.same (Sp.exactL gs) (Sp.exactL gs)), []⟩]) (AV.bool (bif bif Sp.checkE gs 10 == Sp.checkE gs 10 then Sp.way gs (Sp.exactL gs) == Sp.way gs (Sp.exactL gs) else false then Sp.same (Sp.exactL gs) (Sp.exactL gs) else false)) (by kernel_rfl) (by kernel_rfl) (allB_cons (beq_f (fun h => d3 (i2.1 h))) allB_nil) allP_nil (allC_cons (fun _ => ((@ev10 ) : Ev M1 (Conf.pure 10 []) (AV.bool true) [])) (allC_cons (fun _ => ((@ev22 (fl) (gs)) : Ev M1 (Conf.pure 22 [AV.vec fl 2 (List.map G2.a gs)]) (AV.tup [AV.vec false 1 (List.map (AV.int IntKind.i64) (Sp.exactL gs)), AV.int IntKind.i64 (Sp.way gs (Sp.exactL gs)), AV.int IntKind.i64 (Sp.checkE gs 10)]) [])) (allC_cons (fun _ => ((@ev23 (fl) (gs)) : Ev M1 (Conf.pure 23 [AV.vec fl 2 (List.map G2.a gs)]) (AV.tup [AV.vec false 1 (List.map (AV.int IntKind.i64) (Sp.exactL gs)), AV.int IntKind.i64 (Sp.way gs (Sp.exactL gs)), AV.int IntKind.i64 (Sp.checkE gs 10)]) [])) (allC_cons (fun hc => ((@ev18 (false) (false) (Sp.exactL gs) (Sp.exactL gs) (k5 (i4.1 hc))) : Ev M1 (Conf.pure 18 [AV.vec false 1 (List.map (AV.int IntKind.i64) (Sp.exactL gs)), AV.vec false 1 (List.map (AV.int IntKind.i64) (Sp.exactL gs))]) (AV.bool (Sp.same (Sp.exactL gs) (Sp.exactL gs))) [])) allC_nil)))) (pq_of (d := AV.bool (bif bif Sp.checkE gs 10 == Sp.checkE gs 10 then Sp.way gs (Sp.exactL gs) == Sp.way gs (Sp.exactL gs) else false then Sp.same (Sp.exactL gs) (Sp.exactL gs) else false)) (bs := []) (by kernel_rfl) (by kernel_rfl) allB_nil (by kernel_rfl) H)

theorem v7 (fl fw : Bool) (gs : List G2) (w : List Int)  (dq : AV) (H :
    (Sp.mOk 7) ∧
    ((((¬Sp.checkE gs 7 = 0) ∨ ((↑gs.length : Int) = 0)) ∨ ((↑w.length : Int) > 20)) → AV.bool true = dq) ∧
    (¬(((¬Sp.checkE gs 7 = 0) ∨ ((↑gs.length : Int) = 0)) ∨ ((↑w.length : Int) > 20)) → (0 ≤ (↑gs.length : Int)) ∧
      ((↑gs.length : Int) * 8 ≤ 1099511627776) ∧
      ((↑gs.length : Int) ≤ 1099511627776) ∧
      ((((Sp.checkE gs 10 = 0) ∧ ((¬Sp.boundE gs w = 0) ∨ (Sp.boundR gs w ≤ Sp.way gs (Sp.exactL gs)))) ∧ (Sp.boundE gs (List.replicate (↑gs.length : Int).toNat (0 : Int)) = 0)) → (Sp.okG gs ∧ gs.length ≤ 1000)) ∧
      AV.bool (bif bif bif bif Sp.checkE gs 10 == 0 then bif Sp.boundE gs w != 0 then true else decide (Sp.boundR gs w ≤ Sp.way gs (Sp.exactL gs)) else false then Sp.boundE gs (List.replicate (↑gs.length : Int).toNat (0 : Int)) == 0 else false then Sp.boundR gs (List.replicate (↑gs.length : Int).toNat (0 : Int)) == Sp.tree gs else false then decide (Sp.boundR gs (List.replicate (↑gs.length : Int).toNat (0 : Int)) ≤ Sp.way gs (Sp.exactL gs)) else false) = dq)) :
  v7_at fl fw gs w (PureQ dq) := by
  unfold v7_at
  have k1 := H.1; have H := H.2
  have w2 : (List.map G2.a gs).length = gs.length := List.length_map ..
  have w3 : (List.map (AV.int IntKind.i64) w).length = w.length := List.length_map ..
  have i4 : (bif bif !Sp.checkE gs 7 == 0 then true else (↑(List.map G2.a gs).length : Int) == 0 then true else decide ((↑(List.map (AV.int IntKind.i64) w).length : Int) > 20)) = true ↔ (((¬Sp.checkE gs 7 = 0) ∨ ((↑gs.length : Int) = 0)) ∨ ((↑w.length : Int) > 20)) := (by rw [w2, w3] <;> exact (i_bor (i_bor i_neq i_eq) i_dec))
  rcases Classical.em (((¬Sp.checkE gs 7 = 0) ∨ ((↑gs.length : Int) = 0)) ∨ ((↑w.length : Int) > 20)) with d5 | d5
  · have H := H.1 d5
    exact path_ret (G := given kp7 [(1, 0, .call (AV.bool true) none), (1, 4, .call (AV.bool (Sp.checkE gs 7 == 0)) none), (2, 0, .call (AV.bool true) none)] []) 1000 [true] (k := ((atC (cd Try.f7) [1, 0, 1, 0, 1])).tail) (env' := [(4, AV.bool true)]) (L' := []) (asm := [(bif bif !Sp.checkE gs 7 == 0 then true else (↑(List.map G2.a gs).length : Int) == 0 then true else decide ((↑(List.map (AV.int IntKind.i64) w).length : Int) > 20)) == true]) (eqs := []) (calls := [⟨true, false, 10, [], [], AV.bool true, []⟩, ⟨true, false, 14, [AV.vec fl 2 (List.map G2.a gs), AV.int IntKind.i64 7], [], AV.bool (Sp.checkE gs 7 == 0), []⟩, ⟨true, false, 10, [], [], AV.bool true, []⟩]) (AV.bool true) (by kernel_rfl) (by kernel_rfl) (allB_cons (beq_t (i4.2 d5)) allB_nil) allP_nil (allC_cons (fun _ => ((@ev10 ) : Ev M1 (Conf.pure 10 []) (AV.bool true) [])) (allC_cons (fun _ => ((@ev14 (fl) (gs) (7) k1) : Ev M1 (Conf.pure 14 [AV.vec fl 2 (List.map G2.a gs), AV.int IntKind.i64 7]) (AV.bool (Sp.checkE gs 7 == 0)) [])) (allC_cons (fun _ => ((@ev10 ) : Ev M1 (Conf.pure 10 []) (AV.bool true) [])) allC_nil))) (pq_of (d := AV.bool true) (bs := []) (by kernel_rfl) (by kernel_rfl) allB_nil (by kernel_rfl) H)
  · have H := H.2 d5
    have w6 : List.replicate (↑gs.length : Int).toNat (AV.int IntKind.i64 0) = List.map (AV.int IntKind.i64) (List.replicate (↑gs.length : Int).toNat (0 : Int)) := (lm_rep rfl)
    have i7 : (decide (0 ≤ (↑(List.map G2.a gs).length : Int))) = true ↔ (0 ≤ (↑gs.length : Int)) := (by rw [w2] <;> exact i_dec)
    have k8 := H.1; have H := H.2
    have i9 : (decide ((↑(List.map G2.a gs).length : Int) ≤ (↑(List.map G2.a gs).length : Int))) = true ↔ ((↑gs.length : Int) ≤ (↑gs.length : Int)) := (by rw [w2] <;> exact i_dec)
    have i10 : (decide ((↑(List.map G2.a gs).length : Int) * 8 ≤ 1099511627776)) = true ↔ ((↑gs.length : Int) * 8 ≤ 1099511627776) := (by rw [w2] <;> exact i_dec)
    have k11 := H.1; have H := H.2
    have i12 : (decide ((↑(List.map G2.a gs).length : Int) ≤ 1099511627776)) = true ↔ ((↑gs.length : Int) ≤ 1099511627776) := (by rw [w2] <;> exact i_dec)
    have k13 := H.1; have H := H.2
    have i14 : ((bif bif Sp.checkE gs 10 == 0 then bif Sp.boundE gs w != 0 then true else decide (Sp.boundR gs w ≤ Sp.way gs (Sp.exactL gs)) else false then Sp.boundE gs (List.replicate (↑gs.length : Int).toNat (0 : Int)) == 0 else false) == true && true && true) = true ↔ (((Sp.checkE gs 10 = 0) ∧ ((¬Sp.boundE gs w = 0) ∨ (Sp.boundR gs w ≤ Sp.way gs (Sp.exactL gs)))) ∧ (Sp.boundE gs (List.replicate (↑gs.length : Int).toNat (0 : Int)) = 0)) := (i_at (i_at (i_bt (i_band (i_band i_eq (i_bor i_ne i_dec)) i_eq))))
    have k15 := H.1; have H := H.2
    exact path_ret (G := given kp7 [(1, 0, .call (AV.bool true) none), (1, 4, .call (AV.bool (Sp.checkE gs 7 == 0)) none), (3, 1, .call (AV.tup [AV.vec false 1 (List.map (AV.int IntKind.i64) (Sp.exactL gs)), AV.int IntKind.i64 (Sp.way gs (Sp.exactL gs)), AV.int IntKind.i64 (Sp.checkE gs 10)]) none), (4, 2, .call (AV.tup [AV.int IntKind.i64 (Sp.boundR gs w), AV.int IntKind.i64 (Sp.boundE gs w)]) none), (5, 4, .call (AV.tup [AV.int IntKind.i64 (Sp.boundR gs (List.replicate (↑gs.length : Int).toNat (0 : Int))), AV.int IntKind.i64 (Sp.boundE gs (List.replicate (↑gs.length : Int).toNat (0 : Int)))]) none), (6, 18, .call (AV.int IntKind.i64 (Sp.tree gs)) none)] []) 1000 [false] (k := ((atC (cd Try.f7) [1, 1, 1, 1, 1, 1])).tail) (env' := [(4, AV.bool (bif bif bif bif Sp.checkE gs 10 == 0 then bif Sp.boundE gs w != 0 then true else decide (Sp.boundR gs w ≤ Sp.way gs (Sp.exactL gs)) else false then Sp.boundE gs (List.replicate (↑gs.length : Int).toNat (0 : Int)) == 0 else false then Sp.boundR gs (List.replicate (↑gs.length : Int).toNat (0 : Int)) == Sp.tree gs else false then decide (Sp.boundR gs (List.replicate (↑gs.length : Int).toNat (0 : Int)) ≤ Sp.way gs (Sp.exactL gs)) else false))]) (L' := [{ elems := List.replicate (↑(List.map G2.a gs).length : Int).toNat (AV.int IntKind.i64 0), es := 1, ver := 0, frozen := false, clean := true }]) (asm := [(bif bif !Sp.checkE gs 7 == 0 then true else (↑(List.map G2.a gs).length : Int) == 0 then true else decide ((↑(List.map (AV.int IntKind.i64) w).length : Int) > 20)) == false, decide (0 ≤ (↑(List.map G2.a gs).length : Int)), decide ((↑(List.map G2.a gs).length : Int) ≤ (↑(List.map G2.a gs).length : Int)), decide ((↑(List.map G2.a gs).length : Int) * 8 ≤ 1099511627776), decide ((↑(List.map G2.a gs).length : Int) ≤ 1099511627776), true]) (eqs := []) (calls := [⟨true, false, 10, [], [], AV.bool true, []⟩, ⟨true, false, 14, [AV.vec fl 2 (List.map G2.a gs), AV.int IntKind.i64 7], [], AV.bool (Sp.checkE gs 7 == 0), []⟩, ⟨true, false, 22, [AV.vec fl 2 (List.map G2.a gs)], [], AV.tup [AV.vec false 1 (List.map (AV.int IntKind.i64) (Sp.exactL gs)), AV.int IntKind.i64 (Sp.way gs (Sp.exactL gs)), AV.int IntKind.i64 (Sp.checkE gs 10)], []⟩, ⟨true, false, 24, [AV.vec fl 2 (List.map G2.a gs), AV.vec fw 1 (List.map (AV.int IntKind.i64) w)], [], AV.tup [AV.int IntKind.i64 (Sp.boundR gs w), AV.int IntKind.i64 (Sp.boundE gs w)], []⟩, ⟨true, false, 24, [AV.vec fl 2 (List.map G2.a gs), AV.vec false 1 (List.replicate (↑(List.map G2.a gs).length : Int).toNat (AV.int IntKind.i64 0))], [], AV.tup [AV.int IntKind.i64 (Sp.boundR gs (List.replicate (↑gs.length : Int).toNat (0 : Int))), AV.int IntKind.i64 (Sp.boundE gs (List.replicate (↑gs.length : Int).toNat (0 : Int)))], []⟩, ⟨(bif bif Sp.checkE gs 10 == 0 then bif Sp.boundE gs w != 0 then true else decide (Sp.boundR gs w ≤ Sp.way gs (Sp.exactL gs)) else false then Sp.boundE gs (List.replicate (↑gs.length : Int).toNat (0 : Int)) == 0 else false) == true && true && true, false, 20, [AV.vec fl 2 (List.map G2.a gs)], [], AV.int IntKind.i64 (Sp.tree gs), []⟩]) (AV.bool (bif bif bif bif Sp.checkE gs 10 == 0 then bif Sp.boundE gs w != 0 then true else decide (Sp.boundR gs w ≤ Sp.way gs (Sp.exactL gs)) else false then Sp.boundE gs (List.replicate (↑gs.length : Int).toNat (0 : Int)) == 0 else false then Sp.boundR gs (List.replicate (↑gs.length : Int).toNat (0 : Int)) == Sp.tree gs else false then decide (Sp.boundR gs (List.replicate (↑gs.length : Int).toNat (0 : Int)) ≤ Sp.way gs (Sp.exactL gs)) else false)) (by kernel_rfl) (by kernel_rfl) (allB_cons (beq_f (fun h => d5 (i4.1 h))) (allB_cons (i7.2 k8) (allB_cons (i9.2 (by omega)) (allB_cons (i10.2 k11) (allB_cons (i12.2 k13) (allB_cons rfl allB_nil)))))) allP_nil (allC_cons (fun _ => ((@ev10 ) : Ev M1 (Conf.pure 10 []) (AV.bool true) [])) (allC_cons (fun _ => ((@ev14 (fl) (gs) (7) k1) : Ev M1 (Conf.pure 14 [AV.vec fl 2 (List.map G2.a gs), AV.int IntKind.i64 7]) (AV.bool (Sp.checkE gs 7 == 0)) [])) (allC_cons (fun _ => ((@ev22 (fl) (gs)) : Ev M1 (Conf.pure 22 [AV.vec fl 2 (List.map G2.a gs)]) (AV.tup [AV.vec false 1 (List.map (AV.int IntKind.i64) (Sp.exactL gs)), AV.int IntKind.i64 (Sp.way gs (Sp.exactL gs)), AV.int IntKind.i64 (Sp.checkE gs 10)]) [])) (allC_cons (fun _ => ((@ev24 (fl) (fw) (gs) (w)) : Ev M1 (Conf.pure 24 [AV.vec fl 2 (List.map G2.a gs), AV.vec fw 1 (List.map (AV.int IntKind.i64) w)]) (AV.tup [AV.int IntKind.i64 (Sp.boundR gs w), AV.int IntKind.i64 (Sp.boundE gs w)]) [])) (allC_cons (fun _ => ((by rw [w2, w6] <;> exact (@ev24 (fl) (false) (gs) (List.replicate (↑gs.length : Int).toNat (0 : Int)))) : Ev M1 (Conf.pure 24 [AV.vec fl 2 (List.map G2.a gs), AV.vec false 1 (List.replicate (↑(List.map G2.a gs).length : Int).toNat (AV.int IntKind.i64 0))]) (AV.tup [AV.int IntKind.i64 (Sp.boundR gs (List.replicate (↑gs.length : Int).toNat (0 : Int))), AV.int IntKind.i64 (Sp.boundE gs (List.replicate (↑gs.length : Int).toNat (0 : Int)))]) [])) (allC_cons (fun hc => ((@ev20 (fl) (gs) (k15 (i14.1 hc))) : Ev M1 (Conf.pure 20 [AV.vec fl 2 (List.map G2.a gs)]) (AV.int IntKind.i64 (Sp.tree gs)) [])) allC_nil)))))) (pq_of (d := AV.bool (bif bif bif bif Sp.checkE gs 10 == 0 then bif Sp.boundE gs w != 0 then true else decide (Sp.boundR gs w ≤ Sp.way gs (Sp.exactL gs)) else false then Sp.boundE gs (List.replicate (↑gs.length : Int).toNat (0 : Int)) == 0 else false then Sp.boundR gs (List.replicate (↑gs.length : Int).toNat (0 : Int)) == Sp.tree gs else false then decide (Sp.boundR gs (List.replicate (↑gs.length : Int).toNat (0 : Int)) ≤ Sp.way gs (Sp.exactL gs)) else false)) (bs := []) (by kernel_rfl) (by kernel_rfl) allB_nil (by kernel_rfl) H)


end Go.Av

/- 'TourExact' and 'TourProof'. -/
namespace Go.Av
open Go.Proofs

theorem check_mono {gs : List G2} {m m' : Int} (h : Sp.checkE gs m = 0) (hm : m ≤ m') : Sp.checkE gs m' = 0 := by
  unfold Sp.checkE at h ⊢
  split at h
  · simp at h
  · rw [if_neg (by omega)]
    exact h

theorem zeros_sum (n : Nat) : (Sp.zeros n).sum = 0 := by
  unfold Sp.zeros
  induction n with
  | zero => rfl
  | succ n ih => rw [List.replicate_succ, List.sum_cons, ih]; rfl
theorem fold_zero : ∀ (w : List Int), (∀ x ∈ w, x = 0) → w.foldl (fun m x => if x < m then x else m) 0 = 0
  | [], _ => rfl
  | x :: w, h => by
    have hx := h x (by simp)
    subst hx
    exact fold_zero w fun y hy => h y (List.mem_cons_of_mem _ hy)
theorem zeros_min (n : Nat) : Sp.minL ((Sp.zeros n).drop 1) = 0 := by
  have h0 : ((Sp.zeros n).drop 1).getD 0 default = 0 := by
    have := zeros_getD n 1
    simp only [List.getD_eq_getElem?_getD, List.getElem?_drop] at this ⊢
    exact this
  unfold Sp.minL
  rw [h0]
  refine fold_zero _ fun x hx => ?_
  have := List.mem_of_mem_drop (List.mem_of_mem_drop hx)
  exact (List.mem_replicate.1 this).2

theorem bound_zeros {gs : List G2} (hc : Sp.checkE gs 200 = 0) (h0 : ¬gs.length = 0) : Sp.boundE gs (Sp.zeros gs.length) = 0 ∧ Sp.boundR gs (Sp.zeros gs.length) = Sp.tree gs := by
  have hz := zeros_ok gs.length
  have hany : ¬(Sp.zeros gs.length).any Sp.badW = true := by
    intro h
    obtain ⟨x, hx, hb⟩ := List.any_eq_true.1 h
    have := (List.mem_replicate.1 hx).2
    subst this
    exact absurd (badW_iff.1 hb) (by omega)
  have e : Sp.boundE gs (Sp.zeros gs.length) = 0 := by
    rw [Sp.boundE, if_pos hc, if_neg (by rw [hz.2]; omega), if_neg hany]
  refine ⟨e, ?_⟩
  unfold Sp.boundR
  rw [e]
  by_cases h2 : (gs.length : Int) < 2
  · rw [if_neg (fun x => x.2 h2)]
    unfold Sp.tree Sp.mst
    rw [if_neg h0]
    exact (Mst.rem_full (cw_symm gs _) (by simp) (by simp; omega) (by simp) (by simp; omega)).symm
  · rw [if_pos ⟨rfl, h2⟩]
    unfold Sp.boundV
    rw [zeros_sum, zeros_getD, zeros_min]
    unfold Sp.tree
    omega

theorem bound_le {gs : List G2} {w o : List Int} (h : Sp.boundE gs w = 0) (ho : IsOrd gs.length o) : Sp.boundR gs w ≤ Sp.way gs o := by
  obtain ⟨hg, hl, h0, hwl, hw⟩ := boundE_facts h
  unfold Sp.boundR
  by_cases h2 : (gs.length : Int) < 2
  · rw [if_neg (fun x => x.2 h2)]; exact (way_le hg o).1
  · rw [if_pos ⟨h, h2⟩]; exact mst_way ho hwl (by omega)

theorem ev5 (fl : Bool) (gs : List G2) : Ev M1 (.pure 5 [gsA fl gs]) (.bool true) [] := by
  refine call5 (v5 fl gs _ ⟨fun _ => rfl, fun h => ⟨fun _ => ?_, ?_⟩⟩)
  · by_cases hc : Sp.checkE gs 10 = 0
    · have := (exact_ord hc).len; omega
    · have e : Sp.exactL gs = [] := if_neg (fun x => hc x.1)
      rw [e]; simp
  · simp [Sp.same]

theorem ev7 (fl fw : Bool) (gs : List G2) (w : List Int) : Ev M1 (.pure 7 [gsA fl gs, isA fw w]) (.bool true) [] := by
  refine call7 (v7 fl fw gs w _ ⟨by simp [Sp.mOk], fun _ => rfl, fun h => ?_⟩)
  have hc : Sp.checkE gs 7 = 0 := Classical.byContradiction fun k => h (.inl (.inl k))
  have h0 : ¬gs.length = 0 := fun k => h (.inl (.inr (by omega)))
  obtain ⟨hg, hl⟩ := check_okG hc
  have ho := exact_ord (check_mono hc (show (7 : Int) ≤ 10 by omega))
  obtain ⟨z1, z2⟩ := bound_zeros (check_mono hc (show (7 : Int) ≤ 200 by omega)) h0
  refine ⟨by omega, by omega, by omega, fun _ => ⟨hg, by omega⟩, ?_⟩
  rw [Int.toNat_natCast]
  have ez : List.replicate gs.length (0 : Int) = Sp.zeros gs.length := rfl
  rw [ez, z1, z2, check_mono hc (show (7 : Int) ≤ 10 by omega)]
  congr 1
  have t := tree_way ho
  by_cases hb : Sp.boundE gs w = 0
  · have := bound_le hb ho
    simp [hb, this, t]
  · simp [hb, t]
end Go.Av
