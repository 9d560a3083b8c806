/- PART 6 of the texts of a claim, joined by a program: what each part shows stands at its head. -/
import Derived.Test.YtablgkhmbcegkaaPart2072212b6a

/- PATHS, written by a program of the prover's. -/
namespace Go.Av
open Go.Proofs
set_option maxRecDepth 100000
def fi5 : Fi := ⟨52, [.tmp 2]⟩
def kp5 : List (Nat × List Nat) := [(0, [0]), (1, [0, 25]), (2, [2]), (3, [0, 3, 4, 5]), (4, [3, 4, 5, 6, 7, 8]), (5, [2])]
def fi7 : Fi := ⟨76, [.tmp 4]⟩
def kp7 : List (Nat × List Nat) := [(0, [0, 1]), (1, [0, 1, 28]), (2, [4]), (3, [0, 1, 6, 7]), (4, [0, 6, 7, 8, 9]), (5, [0, 6, 7, 8, 9, 10, 11]), (6, [4])]
def v5_at (fl : Bool) (gs : List G2) (Q : AV → Heap → Prop) : Prop := Wp M1 (.run fi5 (atC (cd Try.f5) []) [(0, .vec fl 2 (gs.map G2.a))] []) Q
def v7_at (fl fw : Bool) (gs : List G2) (w : List Int) (Q : AV → Heap → Prop) : Prop := Wp M1 (.run fi7 (atC (cd Try.f7) []) [(0, .vec fl 2 (gs.map G2.a)), (1, .vec fw 1 (w.map (.int .i64)))] []) Q
theorem call5 {args : List AV} {d : AV} (h : Wp M1 (.run fi5 [.code (cd Try.f5)] (argVars 0 args) []) (PureQ d)) : Ev M1 (.pure 5 args) d [] :=
  pure_pq Try.f5 fi5 (by kernel_rfl) (by kernel_rfl) (by kernel_rfl) (by kernel_rfl) h
theorem owncall5 {args : List AV} {L : Heap} {Q : AV → Heap → Prop} (h : Wp M1 (.run fi5 [.code (cd Try.f5)] (argVars 0 args) L) Q) : Wp M1 (.own 5 args L) Q :=
  own_wp Try.f5 fi5 (by kernel_rfl) (by kernel_rfl) (by kernel_rfl) (by kernel_rfl) h
theorem keepcall5 {args : List AV} {L : Heap} {v : AV} {K : Heap} (hk : keepOk L.length v K = true) (h : Wp M1 (.run fi5 [.code (cd Try.f5)] (argVars 0 args) L) (KeepQ v K)) : Ev M1 (.own 5 args L) v K :=
  own_keep Try.f5 fi5 (by kernel_rfl) (by kernel_rfl) (by kernel_rfl) (by kernel_rfl) hk h
theorem call7 {args : List AV} {d : AV} (h : Wp M1 (.run fi7 [.code (cd Try.f7)] (argVars 0 args) []) (PureQ d)) : Ev M1 (.pure 7 args) d [] :=
  pure_pq Try.f7 fi7 (by kernel_rfl) (by kernel_rfl) (by kernel_rfl) (by kernel_rfl) h
theorem owncall7 {args : List AV} {L : Heap} {Q : AV → Heap → Prop} (h : Wp M1 (.run fi7 [.code (cd Try.f7)] (argVars 0 args) L) Q) : Wp M1 (.own 7 args L) Q :=
  own_wp Try.f7 fi7 (by kernel_rfl) (by kernel_rfl) (by kernel_rfl) (by kernel_rfl) h
theorem keepcall7 {args : List AV} {L : Heap} {v : AV} {K : Heap} (hk : keepOk L.length v K = true) (h : Wp M1 (.run fi7 [.code (cd Try.f7)] (argVars 0 args) L) (KeepQ v K)) : Ev M1 (.own 7 args L) v K :=
  own_keep Try.f7 fi7 (by kernel_rfl) (by kernel_rfl) (by kernel_rfl) (by kernel_rfl) hk h
theorem v5 (fl : Bool) (gs : List G2)  (dq : AV) (H :
    (((((↑gs.length : Int) > 7) ∧ ((↑gs.length : Int) < 11)) ∨ ((↑gs.length : Int) > 12)) → AV.bool true = dq) ∧
    (¬((((↑gs.length : Int) > 7) ∧ ((↑gs.length : Int) < 11)) ∨ ((↑gs.length : Int) > 12)) → (((Sp.checkE gs 10 = Sp.checkE gs 10) ∧ (Sp.way gs (Sp.exactL gs) = Sp.way gs (Sp.exactL gs))) → ((Sp.exactL gs).length ≤ 1000000)) ∧
      AV.bool (bif bif Sp.checkE gs 10 == Sp.checkE gs 10 then Sp.way gs (Sp.exactL gs) == Sp.way gs (Sp.exactL gs) else false then Sp.same (Sp.exactL gs) (Sp.exactL gs) else false) = dq)) :
  v5_at fl gs (PureQ dq) := by
  unfold v5_at
  have w1 : (List.map G2.a gs).length = gs.length := List.length_map ..
  have i2 : (bif bif decide ((↑(List.map G2.a gs).length : Int) > 7) then decide ((↑(List.map G2.a gs).length : Int) < 11) else false then true else decide ((↑(List.map G2.a gs).length : Int) > 12)) = true ↔ ((((↑gs.length : Int) > 7) ∧ ((↑gs.length : Int) < 11)) ∨ ((↑gs.length : Int) > 12)) := (by rw [w1] <;> exact (i_bor (i_band i_dec i_dec) i_dec))
  rcases Classical.em ((((↑gs.length : Int) > 7) ∧ ((↑gs.length : Int) < 11)) ∨ ((↑gs.length : Int) > 12)) with d3 | d3
  · have H := H.1 d3
    exact path_ret (G := given kp5 [(1, 0, .call (AV.bool true) none), (2, 0, .call (AV.bool true) none)] []) 1000 [true] (k := ((atC (cd Try.f5) [1, 0, 1, 0, 1])).tail) (env' := [(2, AV.bool true)]) (L' := []) (asm := [(bif bif decide ((↑(List.map G2.a gs).length : Int) > 7) then decide ((↑(List.map G2.a gs).length : Int) < 11) else false then true else decide ((↑(List.map G2.a gs).length : Int) > 12)) == true]) (eqs := []) (calls := [⟨true, false, 10, [], [], AV.bool true, []⟩, ⟨true, false, 10, [], [], AV.bool true, []⟩]) (AV.bool true) (by kernel_rfl) (by kernel_rfl) (allB_cons (beq_t (i2.2 d3)) allB_nil) allP_nil (allC_cons (fun _ => ((@ev10 ) : Ev M1 (Conf.pure 10 []) (AV.bool true) [])) (allC_cons (fun _ => ((@ev10 ) : Ev M1 (Conf.pure 10 []) (AV.bool true) [])) allC_nil)) (pq_of (d := AV.bool true) (bs := []) (by kernel_rfl) (by kernel_rfl) allB_nil (by kernel_rfl) H)
  · have H := H.2 d3
    have i4 : ((bif Sp.checkE gs 10 == Sp.checkE gs 10 then Sp.way gs (Sp.exactL gs) == Sp.way gs (Sp.exactL gs) else false) == true && true && true) = true ↔ ((Sp.checkE gs 10 = Sp.checkE gs 10) ∧ (Sp.way gs (Sp.exactL gs) = Sp.way gs (Sp.exactL gs))) := (i_at (i_at (i_bt (i_band i_eq i_eq))))
    have k5 := H.1; have H := H.2
    exact path_ret (G := given kp5 [(1, 0, .call (AV.bool true) none), (3, 1, .call (AV.tup [AV.vec false 1 (List.map (AV.int IntKind.i64) (Sp.exactL gs)), AV.int IntKind.i64 (Sp.way gs (Sp.exactL gs)), AV.int IntKind.i64 (Sp.checkE gs 10)]) none), (4, 1, .call (AV.tup [AV.vec false 1 (List.map (AV.int IntKind.i64) (Sp.exactL gs)), AV.int IntKind.i64 (Sp.way gs (Sp.exactL gs)), AV.int IntKind.i64 (Sp.checkE gs 10)]) none), (5, 11, .call (AV.bool (Sp.same (Sp.exactL gs) (Sp.exactL gs))) none)] []) 1000 [false] (k := ((atC (cd Try.f5) [1, 1, 1, 1, 1])).tail) (env' := [(2, AV.bool (bif bif Sp.checkE gs 10 == Sp.checkE gs 10 then Sp.way gs (Sp.exactL gs) == Sp.way gs (Sp.exactL gs) else false then Sp.same (Sp.exactL gs) (Sp.exactL gs) else false))]) (L' := []) (asm := [(bif bif decide ((↑(List.map G2.a gs).length : Int) > 7) then decide ((↑(List.map G2.a gs).length : Int) < 11) else false then true else decide ((↑(List.map G2.a gs).length : Int) > 12)) == false]) (eqs := []) (calls := [⟨true, false, 10, [], [], AV.bool true, []⟩, ⟨true, false, 22, [AV.vec fl 2 (List.map G2.a gs)], [], AV.tup [AV.vec false 1 (List.map (AV.int IntKind.i64) (Sp.exactL gs)), AV.int IntKind.i64 (Sp.way gs (Sp.exactL gs)), AV.int IntKind.i64 (Sp.checkE gs 10)], []⟩, ⟨true, false, 23, [AV.vec fl 2 (List.map G2.a gs)], [], AV.tup [AV.vec false 1 (List.map (AV.int IntKind.i64) (Sp.exactL gs)), AV.int IntKind.i64 (Sp.way gs (Sp.exactL gs)), AV.int IntKind.i64 (Sp.checkE gs 10)], []⟩, ⟨(bif Sp.checkE gs 10 == Sp.checkE gs 10 then Sp.way gs (Sp.exactL gs) == Sp.way gs (Sp.exactL gs) else false) == true && true && true, false, 18, [AV.vec false 1 (List.map (AV.int IntKind.i64) (Sp.exactL gs)), AV.vec false 1 (List.map (AV.int IntKind.i64) (Sp.exactL gs))], [], AV.bool (Sp.same (Sp.exactL gs) (Sp.exactL gs)), []⟩]) (AV.bool (bif bif Sp.checkE gs 10 == Sp.checkE gs 10 then Sp.way gs (Sp.exactL gs) == Sp.way gs (Sp.exactL gs) else false then Sp.same (Sp.exactL gs) (Sp.exactL gs) else false)) (by kernel_rfl) (by kernel_rfl) (allB_cons (beq_f (fun h => d3 (i2.1 h))) allB_nil) allP_nil (allC_cons (fun _ => ((@ev10 ) : Ev M1 (Conf.pure 10 []) (AV.bool true) [])) (allC_cons (fun _ => ((@ev22 (fl) (gs)) : Ev M1 (Conf.pure 22 [AV.vec fl 2 (List.map G2.a gs)]) (AV.tup [AV.vec false 1 (List.map (AV.int IntKind.i64) (Sp.exactL gs)), AV.int IntKind.i64 (Sp.way gs (Sp.exactL gs)), AV.int IntKind.i64 (Sp.checkE gs 10)]) [])) (allC_cons (fun _ => ((@ev23 (fl) (gs)) : Ev M1 (Conf.pure 23 [AV.vec fl 2 (List.map G2.a gs)]) (AV.tup [AV.vec false 1 (List.map (AV.int IntKind.i64) (Sp.exactL gs)), AV.int IntKind.i64 (Sp.way gs (Sp.exactL gs)), AV.int IntKind.i64 (Sp.checkE gs 10)]) [])) (allC_cons (fun hc => ((@ev18 (false) (false) (Sp.exactL gs) (Sp.exactL gs) (k5 (i4.1 hc))) : Ev M1 (Conf.pure 18 [AV.vec false 1 (List.map (AV.int IntKind.i64) (Sp.exactL gs)), AV.vec false 1 (List.map (AV.int IntKind.i64) (Sp.exactL gs))]) (AV.bool (Sp.same (Sp.exactL gs) (Sp.exactL gs))) [])) allC_nil)))) (pq_of (d := AV.bool (bif bif Sp.checkE gs 10 == Sp.checkE gs 10 then Sp.way gs (Sp.exactL gs) == Sp.way gs (Sp.exactL gs) else false then Sp.same (Sp.exactL gs) (Sp.exactL gs) else false)) (bs := []) (by kernel_rfl) (by kernel_rfl) allB_nil (by kernel_rfl) H)

theorem v7 (fl fw : Bool) (gs : List G2) (w : List Int)  (dq : AV) (H :
    (Sp.mOk 7) ∧
    ((((¬Sp.checkE gs 7 = 0) ∨ ((↑gs.length : Int) = 0)) ∨ ((↑w.length : Int) > 20)) → AV.bool true = dq) ∧
    (¬(((¬Sp.checkE gs 7 = 0) ∨ ((↑gs.length : Int) = 0)) ∨ ((↑w.length : Int) > 20)) → (0 ≤ (↑gs.length : Int)) ∧
      ((↑gs.length : Int) * 8 ≤ 1099511627776) ∧
      ((↑gs.length : Int) ≤ 1099511627776) ∧
      ((((Sp.checkE gs 10 = 0) ∧ ((¬Sp.boundE gs w = 0) ∨ (Sp.boundR gs w ≤ Sp.way gs (Sp.exactL gs)))) ∧ (Sp.boundE gs (List.replicate (↑gs.length : Int).toNat (0 : Int)) = 0)) → (Sp.okG gs ∧ gs.length ≤ 1000)) ∧
      AV.bool (bif bif bif bif Sp.checkE gs 10 == 0 then bif Sp.boundE gs w != 0 then true else decide (Sp.boundR gs w ≤ Sp.way gs (Sp.exactL gs)) else false then Sp.boundE gs (List.replicate (↑gs.length : Int).toNat (0 : Int)) == 0 else false then Sp.boundR gs (List.replicate (↑gs.length : Int).toNat (0 : Int)) == Sp.tree gs else false then decide (Sp.boundR gs (List.replicate (↑gs.length : Int).toNat (0 : Int)) ≤ Sp.way gs (Sp.exactL gs)) else false) = dq)) :
  v7_at fl fw gs w (PureQ dq) := by
  unfold v7_at
  have k1 := H.1; have H := H.2
  have w2 : (List.map G2.a gs).length = gs.length := List.length_map ..
  have w3 : (List.map (AV.int IntKind.i64) w).length = w.length := List.length_map ..
  have i4 : (bif bif !Sp.checkE gs 7 == 0 then true else (↑(List.map G2.a gs).length : Int) == 0 then true else decide ((↑(List.map (AV.int IntKind.i64) w).length : Int) > 20)) = true ↔ (((¬Sp.checkE gs 7 = 0) ∨ ((↑gs.length : Int) = 0)) ∨ ((↑w.length : Int) > 20)) := (by rw [w2, w3] <;> exact (i_bor (i_bor i_neq i_eq) i_dec))
  rcases Classical.em (((¬Sp.checkE gs 7 = 0) ∨ ((↑gs.length : Int) = 0)) ∨ ((↑w.length : Int) > 20)) with d5 | d5
  · have H := H.1 d5
    exact path_ret (G := given kp7 [(1, 0, .call (AV.bool true) none), (1, 4, .call (AV.bool (Sp.checkE gs 7 == 0)) none), (2, 0, .call (AV.bool true) none)] []) 1000 [true] (k := ((atC (cd Try.f7) [1, 0, 1, 0, 1])).tail) (env' := [(4, AV.bool true)]) (L' := []) (asm := [(bif bif !Sp.checkE gs 7 == 0 then true else (↑(List.map G2.a gs).length : Int) == 0 then true else decide ((↑(List.map (AV.int IntKind.i64) w).length : Int) > 20)) == true]) (eqs := []) (calls := [⟨true, false, 10, [], [], AV.bool true, []⟩, ⟨true, false, 14, [AV.vec fl 2 (List.map G2.a gs), AV.int IntKind.i64 7], [], AV.bool (Sp.checkE gs 7 == 0), []⟩, ⟨true, false, 10, [], [], AV.bool true, []⟩]) (AV.bool true) (by kernel_rfl) (by kernel_rfl) (allB_cons (beq_t (i4.2 d5)) allB_nil) allP_nil (allC_cons (fun _ => ((@ev10 ) : Ev M1 (Conf.pure 10 []) (AV.bool true) [])) (allC_cons (fun _ => ((@ev14 (fl) (gs) (7) k1) : Ev M1 (Conf.pure 14 [AV.vec fl 2 (List.map G2.a gs), AV.int IntKind.i64 7]) (AV.bool (Sp.checkE gs 7 == 0)) [])) (allC_cons (fun _ => ((@ev10 ) : Ev M1 (Conf.pure 10 []) (AV.bool true) [])) allC_nil))) (pq_of (d := AV.bool true) (bs := []) (by kernel_rfl) (by kernel_rfl) allB_nil (by kernel_rfl) H)
  · have H := H.2 d5
    have w6 : List.replicate (↑gs.length : Int).toNat (AV.int IntKind.i64 0) = List.map (AV.int IntKind.i64) (List.replicate (↑gs.length : Int).toNat (0 : Int)) := (lm_rep rfl)
    have i7 : (decide (0 ≤ (↑(List.map G2.a gs).length : Int))) = true ↔ (0 ≤ (↑gs.length : Int)) := (by rw [w2] <;> exact i_dec)
    have k8 := H.1; have H := H.2
    have i9 : (decide ((↑(List.map G2.a gs).length : Int) ≤ (↑(List.map G2.a gs).length : Int))) = true ↔ ((↑gs.length : Int) ≤ (↑gs.length : Int)) := (by rw [w2] <;> exact i_dec)
    have i10 : (decide ((↑(List.map G2.a gs).length : Int) * 8 ≤ 1099511627776)) = true ↔ ((↑gs.length : Int) * 8 ≤ 1099511627776) := (by rw [w2] <;> exact i_dec)
    have k11 := H.1; have H := H.2
    have i12 : (decide ((↑(List.map G2.a gs).length : Int) ≤ 1099511627776)) = true ↔ ((↑gs.length : Int) ≤ 1099511627776) := (by rw [w2] <;> exact i_dec)
    have k13 := H.1; have H := H.2
    have i14 : ((bif bif Sp.checkE gs 10 == 0 then bif Sp.boundE gs w != 0 then true else decide (Sp.boundR gs w ≤ Sp.way gs (Sp.exactL gs)) else false then Sp.boundE gs (List.replicate (↑gs.length : Int).toNat (0 : Int)) == 0 else false) == true && true && true) = true ↔ (((Sp.checkE gs 10 = 0) ∧ ((¬Sp.boundE gs w = 0) ∨ (Sp.boundR gs w ≤ Sp.way gs (Sp.exactL gs)))) ∧ (Sp.boundE gs (List.replicate (↑gs.length : Int).toNat (0 : Int)) = 0)) := (i_at (i_at (i_bt (i_band (i_band i_eq (i_bor i_ne i_dec)) i_eq))))
    have k15 := H.1; have H := H.2
    exact path_ret (G := given kp7 [(1, 0, .call (AV.bool true) none), (1, 4, .call (AV.bool (Sp.checkE gs 7 == 0)) none), (3, 1, .call (AV.tup [AV.vec false 1 (List.map (AV.int IntKind.i64) (Sp.exactL gs)), AV.int IntKind.i64 (Sp.way gs (Sp.exactL gs)), AV.int IntKind.i64 (Sp.checkE gs 10)]) none), (4, 2, .call (AV.tup [AV.int IntKind.i64 (Sp.boundR gs w), AV.int IntKind.i64 (Sp.boundE gs w)]) none), (5, 4, .call (AV.tup [AV.int IntKind.i64 (Sp.boundR gs (List.replicate (↑gs.length : Int).toNat (0 : Int))), AV.int IntKind.i64 (Sp.boundE gs (List.replicate (↑gs.length : Int).toNat (0 : Int)))]) none), (6, 18, .call (AV.int IntKind.i64 (Sp.tree gs)) none)] []) 1000 [false] (k := ((atC (cd Try.f7) [1, 1, 1, 1, 1, 1])).tail) (env' := [(4, AV.bool (bif bif bif bif Sp.checkE gs 10 == 0 then bif Sp.boundE gs w != 0 then true else decide (Sp.boundR gs w ≤ Sp.way gs (Sp.exactL gs)) else false then Sp.boundE gs (List.replicate (↑gs.length : Int).toNat (0 : Int)) == 0 else false then Sp.boundR gs (List.replicate (↑gs.length : Int).toNat (0 : Int)) == Sp.tree gs else false then decide (Sp.boundR gs (List.replicate (↑gs.length : Int).toNat (0 : Int)) ≤ Sp.way gs (Sp.exactL gs)) else false))]) (L' := [{ elems := List.replicate (↑(List.map G2.a gs).length : Int).toNat (AV.int IntKind.i64 0), es := 1, ver := 0, frozen := false, clean := true }]) (asm := [(bif bif !Sp.checkE gs 7 == 0 then true else (↑(List.map G2.a gs).length : Int) == 0 then true else decide ((↑(List.map (AV.int IntKind.i64) w).length : Int) > 20)) == false, decide (0 ≤ (↑(List.map G2.a gs).length : Int)), decide ((↑(List.map G2.a gs).length : Int) ≤ (↑(List.map G2.a gs).length : Int)), decide ((↑(List.map G2.a gs).length : Int) * 8 ≤ 1099511627776), decide ((↑(List.map G2.a gs).length : Int) ≤ 1099511627776), true]) (eqs := []) (calls := [⟨true, false, 10, [], [], AV.bool true, []⟩, ⟨true, false, 14, [AV.vec fl 2 (List.map G2.a gs), AV.int IntKind.i64 7], [], AV.bool (Sp.checkE gs 7 == 0), []⟩, ⟨true, false, 22, [AV.vec fl 2 (List.map G2.a gs)], [], AV.tup [AV.vec false 1 (List.map (AV.int IntKind.i64) (Sp.exactL gs)), AV.int IntKind.i64 (Sp.way gs (Sp.exactL gs)), AV.int IntKind.i64 (Sp.checkE gs 10)], []⟩, ⟨true, false, 24, [AV.vec fl 2 (List.map G2.a gs), AV.vec fw 1 (List.map (AV.int IntKind.i64) w)], [], AV.tup [AV.int IntKind.i64 (Sp.boundR gs w), AV.int IntKind.i64 (Sp.boundE gs w)], []⟩, ⟨true, false, 24, [AV.vec fl 2 (List.map G2.a gs), AV.vec false 1 (List.replicate (↑(List.map G2.a gs).length : Int).toNat (AV.int IntKind.i64 0))], [], AV.tup [AV.int IntKind.i64 (Sp.boundR gs (List.replicate (↑gs.length : Int).toNat (0 : Int))), AV.int IntKind.i64 (Sp.boundE gs (List.replicate (↑gs.length : Int).toNat (0 : Int)))], []⟩, ⟨(bif bif Sp.checkE gs 10 == 0 then bif Sp.boundE gs w != 0 then true else decide (Sp.boundR gs w ≤ Sp.way gs (Sp.exactL gs)) else false then Sp.boundE gs (List.replicate (↑gs.length : Int).toNat (0 : Int)) == 0 else false) == true && true && true, false, 20, [AV.vec fl 2 (List.map G2.a gs)], [], AV.int IntKind.i64 (Sp.tree gs), []⟩]) (AV.bool (bif bif bif bif Sp.checkE gs 10 == 0 then bif Sp.boundE gs w != 0 then true else decide (Sp.boundR gs w ≤ Sp.way gs (Sp.exactL gs)) else false then Sp.boundE gs (List.replicate (↑gs.length : Int).toNat (0 : Int)) == 0 else false then Sp.boundR gs (List.replicate (↑gs.length : Int).toNat (0 : Int)) == Sp.tree gs else false then decide (Sp.boundR gs (List.replicate (↑gs.length : Int).toNat (0 : Int)) ≤ Sp.way gs (Sp.exactL gs)) else false)) (by kernel_rfl) (by kernel_rfl) (allB_cons (beq_f (fun h => d5 (i4.1 h))) (allB_cons (i7.2 k8) (allB_cons (i9.2 (by omega)) (allB_cons (i10.2 k11) (allB_cons (i12.2 k13) (allB_cons rfl allB_nil)))))) allP_nil (allC_cons (fun _ => ((@ev10 ) : Ev M1 (Conf.pure 10 []) (AV.bool true) [])) (allC_cons (fun _ => ((@ev14 (fl) (gs) (7) k1) : Ev M1 (Conf.pure 14 [AV.vec fl 2 (List.map G2.a gs), AV.int IntKind.i64 7]) (AV.bool (Sp.checkE gs 7 == 0)) [])) (allC_cons (fun _ => ((@ev22 (fl) (gs)) : Ev M1 (Conf.pure 22 [AV.vec fl 2 (List.map G2.a gs)]) (AV.tup [AV.vec false 1 (List.map (AV.int IntKind.i64) (Sp.exactL gs)), AV.int IntKind.i64 (Sp.way gs (Sp.exactL gs)), AV.int IntKind.i64 (Sp.checkE gs 10)]) [])) (allC_cons (fun _ => ((@ev24 (fl) (fw) (gs) (w)) : Ev M1 (Conf.pure 24 [AV.vec fl 2 (List.map G2.a gs), AV.vec fw 1 (List.map (AV.int IntKind.i64) w)]) (AV.tup [AV.int IntKind.i64 (Sp.boundR gs w), AV.int IntKind.i64 (Sp.boundE gs w)]) [])) (allC_cons (fun _ => ((by rw [w2, w6] <;> exact (@ev24 (fl) (false) (gs) (List.replicate (↑gs.length : Int).toNat (0 : Int)))) : Ev M1 (Conf.pure 24 [AV.vec fl 2 (List.map G2.a gs), AV.vec false 1 (List.replicate (↑(List.map G2.a gs).length : Int).toNat (AV.int IntKind.i64 0))]) (AV.tup [AV.int IntKind.i64 (Sp.boundR gs (List.replicate (↑gs.length : Int).toNat (0 : Int))), AV.int IntKind.i64 (Sp.boundE gs (List.replicate (↑gs.length : Int).toNat (0 : Int)))]) [])) (allC_cons (fun hc => ((@ev20 (fl) (gs) (k15 (i14.1 hc))) : Ev M1 (Conf.pure 20 [AV.vec fl 2 (List.map G2.a gs)]) (AV.int IntKind.i64 (Sp.tree gs)) [])) allC_nil)))))) (pq_of (d := AV.bool (bif bif bif bif Sp.checkE gs 10 == 0 then bif Sp.boundE gs w != 0 then true else decide (Sp.boundR gs w ≤ Sp.way gs (Sp.exactL gs)) else false then Sp.boundE gs (List.replicate (↑gs.length : Int).toNat (0 : Int)) == 0 else false then Sp.boundR gs (List.replicate (↑gs.length : Int).toNat (0 : Int)) == Sp.tree gs else false then decide (Sp.boundR gs (List.replicate (↑gs.length : Int).toNat (0 : Int)) ≤ Sp.way gs (Sp.exactL gs)) else false)) (bs := []) (by kernel_rfl) (by kernel_rfl) allB_nil (by kernel_rfl) H)


end Go.Av

/- 'TourExact' and 'TourProof'. -/
namespace Go.Av
open Go.Proofs

theorem check_mono {gs : List G2} {m m' : Int} (h : Sp.checkE gs m = 0) (hm : m ≤ m') : Sp.checkE gs m' = 0 := by
  unfold Sp.checkE at h ⊢
  split at h
  · simp at h
  · rw [if_neg (by omega)]
    exact h

theorem zeros_sum (n : Nat) : (Sp.zeros n).sum = 0 := by
  unfold Sp.zeros
  induction n with
  | zero => rfl
  | succ n ih => rw [List.replicate_succ, List.sum_cons, ih]; rfl
theorem fold_zero : ∀ (w : List Int), (∀ x ∈ w, x = 0) → w.foldl (fun m x => if x < m then x else m) 0 = 0
  | [], _ => rfl
  | x :: w, h => by
    have hx := h x (by simp)
    subst hx
    exact fold_zero w fun y hy => h y (List.mem_cons_of_mem _ hy)
theorem zeros_min (n : Nat) : Sp.minL ((Sp.zeros n).drop 1) = 0 := by
  have h0 : ((Sp.zeros n).drop 1).getD 0 default = 0 := by
    have := zeros_getD n 1
    simp only [List.getD_eq_getElem?_getD, List.getElem?_drop] at this ⊢
    exact this
  unfold Sp.minL
  rw [h0]
  refine fold_zero _ fun x hx => ?_
  have := List.mem_of_mem_drop (List.mem_of_mem_drop hx)
  exact (List.mem_replicate.1 this).2

theorem bound_zeros {gs : List G2} (hc : Sp.checkE gs 200 = 0) (h0 : ¬gs.length = 0) : Sp.boundE gs (Sp.zeros gs.length) = 0 ∧ Sp.boundR gs (Sp.zeros gs.length) = Sp.tree gs := by
  have hz := zeros_ok gs.length
  have hany : ¬(Sp.zeros gs.length).any Sp.badW = true := by
    intro h
    obtain ⟨x, hx, hb⟩ := List.any_eq_true.1 h
    have := (List.mem_replicate.1 hx).2
    subst this
    exact absurd (badW_iff.1 hb) (by omega)
  have e : Sp.boundE gs (Sp.zeros gs.length) = 0 := by
    rw [Sp.boundE, if_pos hc, if_neg (by rw [hz.2]; omega), if_neg hany]
  refine ⟨e, ?_⟩
  unfold Sp.boundR
  rw [e]
  by_cases h2 : (gs.length : Int) < 2
  · rw [if_neg (fun x => x.2 h2)]
    unfold Sp.tree Sp.mst
    rw [if_neg h0]
    exact (Mst.rem_full (cw_symm gs _) (by simp) (by simp; omega) (by simp) (by simp; omega)).symm
  · rw [if_pos ⟨rfl, h2⟩]
    unfold Sp.boundV
    rw [zeros_sum, zeros_getD, zeros_min]
    unfold Sp.tree
    omega

theorem bound_le {gs : List G2} {w o : List Int} (h : Sp.boundE gs w = 0) (ho : IsOrd gs.length o) : Sp.boundR gs w ≤ Sp.way gs o := by
  obtain ⟨hg, hl, h0, hwl, hw⟩ := boundE_facts h
  unfold Sp.boundR
  by_cases h2 : (gs.length : Int) < 2
  · rw [if_neg (fun x => x.2 h2)]; exact (way_le hg o).1
  · rw [if_pos ⟨h, h2⟩]; exact mst_way ho hwl (by omega)

theorem ev5 (fl : Bool) (gs : List G2) : Ev M1 (.pure 5 [gsA fl gs]) (.bool true) [] := by
  refine call5 (v5 fl gs _ ⟨fun _ => rfl, fun h => ⟨fun _ => ?_, ?_⟩⟩)
  · by_cases hc : Sp.checkE gs 10 = 0
    · have := (exact_ord hc).len; omega
    · have e : Sp.exactL gs = [] := if_neg (fun x => hc x.1)
      rw [e]; simp
  · simp [Sp.same]

theorem ev7 (fl fw : Bool) (gs : List G2) (w : List Int) : Ev M1 (.pure 7 [gsA fl gs, isA fw w]) (.bool true) [] := by
  refine call7 (v7 fl fw gs w _ ⟨by simp [Sp.mOk], fun _ => rfl, fun h => ?_⟩)
  have hc : Sp.checkE gs 7 = 0 := Classical.byContradiction fun k => h (.inl (.inl k))
  have h0 : ¬gs.length = 0 := fun k => h (.inl (.inr (by omega)))
  obtain ⟨hg, hl⟩ := check_okG hc
  have ho := exact_ord (check_mono hc (show (7 : Int) ≤ 10 by omega))
  obtain ⟨z1, z2⟩ := bound_zeros (check_mono hc (show (7 : Int) ≤ 200 by omega)) h0
  refine ⟨by omega, by omega, by omega, fun _ => ⟨hg, by omega⟩, ?_⟩
  rw [Int.toNat_natCast]
  have ez : List.replicate gs.length (0 : Int) = Sp.zeros gs.length := rfl
  rw [ez, z1, z2, check_mono hc (show (7 : Int) ≤ 10 by omega)]
  congr 1
  have t := tree_way ho
  by_cases hb : Sp.boundE gs w = 0
  · have := bound_le hb ho
    simp [hb, this, t]
  · simp [hb, t]
end Go.Av

/- 'TourImprove' and 'TourOrders'. -/
namespace Go.Av
open Go.Proofs

theorem length_of {gs : List G2} {o : List Int} (h : Sp.lengthE gs o = 0) : Sp.lengthV gs o = Sp.way gs o := by rw [Sp.lengthV, if_pos h]
theorem check_of {gs : List G2} {o : List Int} (h : Sp.lengthE gs o = 0) : Sp.checkE gs 200 = 0 := by
  unfold Sp.lengthE at h
  split at h
  · rename_i hc; exact hc
  · rename_i hc; exact absurd h hc

theorem ev8 (fl fm : Bool) (gs : List G2) (o : List Int) : Ev M1 (.pure 8 [gsA fl gs, isA fm o]) (.bool true) [] := by
  refine call8 (v8 fl fm gs o _ ⟨fun _ => rfl, fun h => ⟨fun _ => rfl, fun k => ⟨fun e => ?_, fun e => ?_⟩⟩⟩)
  · have ei : Sp.improve gs o = [] := if_neg e
    rw [ei]; simp
  · have e := Classical.not_not.1 e
    obtain ⟨hg, hl, hO, hI, hle, hL⟩ := improve_facts e
    obtain ⟨e1, e2⟩ := ord_length hI (check_of e)
    refine ⟨fun _ => ⟨hg, by omega, hI, hL⟩, ?_⟩
    rw [e1, e2, e, length_of e]
    simp [hle]

theorem ev9 (fl : Bool) (gs : List G2) : Ev M1 (.pure 9 [gsA fl gs]) (.bool true) [] := by
  refine call9 (v9 fl gs _ ⟨by simp [Sp.mOk], fun _ => rfl, fun h => ?_⟩)
  have hc := Classical.not_not.1 h
  obtain ⟨hg, hl⟩ := check_okG hc
  have hc2 := check_mono hc (show (7 : Int) ≤ 200 by omega)
  have hc3 := check_mono hc (show (7 : Int) ≤ 10 by omega)
  obtain ⟨e1, e2⟩ := ord_length (nearest_ord gs) hc2
  obtain ⟨_, _, _, hI, hle, _⟩ := improve_facts e1
  obtain ⟨e3, e4⟩ := ord_length hI hc2
  refine ⟨⟨hg, by omega⟩, ?_⟩
  rw [e1, e2, e3, e4, hc3]
  simp [hle, exact_least hc3 hI]
end Go.Av
