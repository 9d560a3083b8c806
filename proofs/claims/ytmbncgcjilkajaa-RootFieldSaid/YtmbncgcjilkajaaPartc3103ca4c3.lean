/- PART 5 of the texts of a claim, joined by a program: what each part shows stands at its head. -/
import Derived.Test.YtmbncgcjilkajaaPart7c379d8ec3

namespace Go.Av
open Go.Proofs
set_option maxRecDepth 100000
def fi91 : Fi := ⟨173, [.tmp 4, .tmp 5]⟩
def kp91 : List (Nat × List Nat) := [(0, [0, 1]), (1, [0, 1, 28]), (2, [6, 7]), (3, [4, 5]), (4, [0, 1, 8]), (5, [0, 8, 9]), (6, [0, 8, 9, 10]), (7, [0, 8, 9, 10, 11]), (8, [0, 8, 9, 10, 11, 12]), (9, [8, 9, 10, 11, 12, 13]), (10, [8, 9, 10, 11, 12, 13]), (11, [8, 9, 10, 11, 12, 13, 14]), (12, [8, 9, 10, 11, 12, 13, 14, 76]), (13, [8, 9, 10, 11, 12, 13, 14]), (14, [8, 9, 10, 11, 12, 13, 14]), (15, [8, 9, 10, 11, 12, 13, 14, 15]), (16, [8, 9, 10, 11, 12, 13, 14, 15, 91]), (17, [8, 9, 10, 11, 12, 13, 14, 15]), (18, [8, 9, 10, 11, 12, 13, 14, 15, 103]), (19, [8, 9, 10, 11, 12, 13, 14, 15]), (20, [8, 9, 10, 11, 12, 13, 14, 16]), (21, [8, 9, 10, 11, 12, 13, 14, 16, 117]), (22, [8, 9, 10, 11, 12, 13, 14, 16]), (23, [8, 9, 10, 11, 12, 13, 14, 16, 17]), (24, [8, 9, 10, 11, 12, 13, 14, 16, 17, 125]), (25, [8, 9, 10, 11, 12, 13, 14, 16, 17]), (26, [8, 9, 10, 11, 12, 13, 14, 16, 17]), (27, [8, 9, 10, 11, 12, 13, 14, 16]), (28, [8, 9, 10, 11, 12, 13, 14]), (29, [8, 11, 12, 18]), (30, [8, 11, 12, 18, 19]), (31, [8, 11, 12, 18, 19, 20]), (32, [8, 11, 12, 18, 19, 20, 146]), (33, [8, 11, 12, 18, 19, 20]), (34, [8, 11, 12, 18, 19, 20]), (35, [8, 11, 12, 18, 19, 20]), (36, [8, 11, 12, 18, 19, 20]), (37, [4, 5])]
def rParts_at (fa fb : Bool) (A D : Nat) (Q : AV → Heap → Prop) : Prop := Wp M1 (.run fi91 (atC (cd Try.f91) []) [(0, .vec fa 1 ((Sp.lim A).map (.int .u32))), (1, .vec fb 1 ((Sp.lim D).map (.int .u32)))] []) Q
def rPartsA0_at (V U : Nat) (s t i : Int) (n : Nat) (o : List Int) (Q : AV → Heap → Prop) : Prop := Wp M1 (.run fi91 (atC (cd Try.f91) [1, 1, 1, 1, 1, 1, 1, 1, 1, 0, 1, 0, 0]) [(8, .int .u32 s), (9, .vec false 1 ((Sp.lim V).map (.int .u32))), (10, .int .u64 t), (11, .vnil), (12, .ref 0 0 0 n), (13, .vec false 1 ((Sp.lim U).map (.int .u32))), (14, .int .i64 i)] [⟨o.map (.int .u32), 1, 0, false, true⟩]) Q
def rPartsAE_at (V U : Nat) (s t i : Int) (n : Nat) (o : List Int) (Q : AV → Heap → Prop) : Prop := Wp M1 (.run fi91 (atC (cd Try.f91) [1, 1, 1, 1, 1, 1, 1, 1, 1, 0, 1, 0, 0]) [(8, .int .u32 s), (9, .vec false 1 ((Sp.lim V).map (.int .u32))), (10, .int .u64 t), (11, .vec false 1 []), (12, .ref 0 0 0 n), (13, .vec false 1 ((Sp.lim U).map (.int .u32))), (14, .int .i64 i)] [⟨o.map (.int .u32), 1, 0, false, true⟩]) Q
def rPartsA_at (V U : Nat) (s t i : Int) (n : Nat) (o : List Int) (c : Int) (l : List Int) (Q : AV → Heap → Prop) : Prop := Wp M1 (.run fi91 (atC (cd Try.f91) [1, 1, 1, 1, 1, 1, 1, 1, 1, 0, 1, 0, 0]) [(8, .int .u32 s), (9, .vec false 1 ((Sp.lim V).map (.int .u32))), (10, .int .u64 t), (11, .vec false 1 ((c :: l).map (.int .u32))), (12, .ref 0 0 0 n), (13, .vec false 1 ((Sp.lim U).map (.int .u32))), (14, .int .i64 i)] [⟨o.map (.int .u32), 1, 0, false, true⟩]) Q
def rPartsB_at (V U : Nat) (s t i : Int) (n : Nat) (o : List Int) (R2 : Nat) (Q : AV → Heap → Prop) : Prop := Wp M1 (.run fi91 (atC (cd Try.f91) [1, 1, 1, 1, 1, 1, 1, 1, 1, 0, 1, 0, 0, 1, 0, 0, 1, 0]) [(8, .int .u32 s), (9, .vec false 1 ((Sp.lim V).map (.int .u32))), (10, .int .u64 t), (11, .vec false 1 ((Sp.lim R2).map (.int .u32))), (12, .ref 0 0 0 n), (13, .vec false 1 ((Sp.lim U).map (.int .u32))), (14, .int .i64 i)] [⟨o.map (.int .u32), 1, 0, false, true⟩]) Q
def rPartsH_at (V U : Nat) (s t i : Int) (n : Nat) (o : List Int) (R : Nat) (Q : AV → Heap → Prop) : Prop := Wp M1 (.run fi91 (atC (cd Try.f91) [1, 1, 1, 1, 1, 1, 1, 1, 1, 0, 1, 0, 0]) [(8, .int .u32 s), (9, .vec false 1 ((Sp.lim V).map (.int .u32))), (10, .int .u64 t), (11, .vec false 1 ((Sp.lim R).map (.int .u32))), (12, .ref 0 0 0 n), (13, .vec false 1 ((Sp.lim U).map (.int .u32))), (14, .int .i64 i)] [⟨o.map (.int .u32), 1, 0, false, true⟩]) Q
def rPartsG_at (V U : Nat) (s t i : Int) (n : Nat) (o : List Int) (R p : Nat) (g : Int) (Q : AV → Heap → Prop) : Prop := Wp M1 (.run fi91 (atC (cd Try.f91) [1, 1, 1, 1, 1, 1, 1, 1, 1, 0, 1, 0, 0, 1, 0, 0, 1, 1, 1, 1, 1, 1, 1, 0, 0, 0]) [(8, .int .u32 s), (9, .vec false 1 ((Sp.lim V).map (.int .u32))), (10, .int .u64 t), (11, .vec false 1 ((Sp.lim R).map (.int .u32))), (12, .ref 0 0 0 n), (13, .vec false 1 ((Sp.lim U).map (.int .u32))), (14, .int .i64 i), (16, .int .u64 g), (17, .vec false 1 ((Sp.lim p).map (.int .u32)))] [⟨o.map (.int .u32), 1, 0, false, true⟩]) Q
def rPartsL0_at (s : Int) (n : Nat) (o : List Int) (Q : AV → Heap → Prop) : Prop := Wp M1 (.run fi91 (atC (cd Try.f91) [1, 1, 1, 1, 1, 1, 1, 1, 1, 1, 1, 1, 0, 1, 0, 0]) [(8, .int .u32 s), (11, .vnil), (12, .ref 0 0 0 n), (18, .int .u64 0), (19, .row 1 0), (20, .int .i64 (-1))] [⟨o.map (.int .u32), 1, 0, false, true⟩, ⟨[], 1, 0, false, true⟩]) Q
def rPartsL_at (R : Nat) (s c i : Int) (n : Nat) (o l : List Int) (Q : AV → Heap → Prop) : Prop := Wp M1 (.run fi91 (atC (cd Try.f91) [1, 1, 1, 1, 1, 1, 1, 1, 1, 1, 1, 1, 0, 1, 0, 0]) [(8, .int .u32 s), (11, .vec false 1 ((Sp.lim R).map (.int .u32))), (12, .ref 0 0 0 n), (18, .int .u64 c), (19, .row 1 0), (20, .int .i64 i)] [⟨o.map (.int .u32), 1, 0, false, true⟩, ⟨l.map (.int .u32), 1, 0, false, true⟩]) Q
theorem call91 {args : List AV} {d : AV} (h : Wp M1 (.run fi91 [.code (cd Try.f91)] (argVars 0 args) []) (PureQ d)) : Ev M1 (.pure 91 args) d [] :=
  pure_pq Try.f91 fi91 (by kernel_rfl) (by kernel_rfl) (by kernel_rfl) (by kernel_rfl) h
noncomputable abbrev zNwD1 (D : Nat) := vu ((Sp.lim (D * (Int.tdiv 1000000000 ((Sp.lim D).getD ((↑(Sp.lim D).length : Int) - 1).toNat default + 1)).toNat)).getD ((↑(Sp.lim (D * (Int.tdiv 1000000000 ((Sp.lim D).getD ((↑(Sp.lim D).length : Int) - 1).toNat default + 1)).toNat)).length : Int) - 1).toNat default)
noncomputable abbrev zNwD2 (D : Nat) := vf (us (Sp.lim (D * (Int.tdiv 1000000000 ((Sp.lim D).getD ((↑(Sp.lim D).length : Int) - 1).toNat default + 1)).toNat)))
noncomputable abbrev zNwD3 (A : Nat) (D : Nat) := vf (us (Sp.lim (A * (Int.tdiv 1000000000 ((Sp.lim D).getD ((↑(Sp.lim D).length : Int) - 1).toNat default + 1)).toNat)))
noncomputable abbrev zNwD4 (A : Nat) (D : Nat) := us (Sp.lim ((↑A : Int).tdiv (↑D : Int)).toNat)
noncomputable abbrev zNwD5 (A : Nat) (D : Nat) := us (Sp.lim ((↑A : Int).tmod (↑D : Int)).toNat)
theorem rParts (fa fb : Bool) (A D : Nat)  (dq : AV) (H :
    ((((↑(Sp.lim A).length : Int) <= 2) /\ ((↑(Sp.lim D).length : Int) <= 2)) -> (Sp.cnt A <= 2) /\
      (Sp.cnt D <= 2) /\
      (0 <= (↑A : Int).tdiv (↑D : Int) /\ (↑A : Int).tdiv (↑D : Int) <= 18446744073709551615) /\
      (0 <= (↑A : Int).tmod (↑D : Int) /\ (↑A : Int).tmod (↑D : Int) <= 18446744073709551615) /\
      (¬(↑D : Int) = 0) /\
      Weak (tu [vf (us (Sp.lim ((↑A : Int).tdiv (↑D : Int)).toNat)), vf (us (Sp.lim ((↑A : Int).tmod (↑D : Int)).toNat))]) dq) /\
    (¬(((↑(Sp.lim A).length : Int) <= 2) /\ ((↑(Sp.lim D).length : Int) <= 2)) -> (-9223372036854775808 <= (↑(Sp.lim D).length : Int) - 1 /\ (↑(Sp.lim D).length : Int) - 1 <= 9223372036854775807) /\
      (0 <= (↑(Sp.lim D).length : Int) - 1) /\
      (((↑(Sp.lim D).length : Int) - 1).toNat < (Sp.lim D).length) /\
      (0 <= (Sp.lim D).getD ((↑(Sp.lim D).length : Int) - 1).toNat default /\ (Sp.lim D).getD ((↑(Sp.lim D).length : Int) - 1).toNat default <= 18446744073709551615) /\
      (0 <= (Sp.lim D).getD ((↑(Sp.lim D).length : Int) - 1).toNat default + 1 /\ (Sp.lim D).getD ((↑(Sp.lim D).length : Int) - 1).toNat default + 1 <= 18446744073709551615) /\
      (¬(Sp.lim D).getD ((↑(Sp.lim D).length : Int) - 1).toNat default + 1 = 0) /\
      (0 <= Int.tdiv 1000000000 ((Sp.lim D).getD ((↑(Sp.lim D).length : Int) - 1).toNat default + 1) /\ Int.tdiv 1000000000 ((Sp.lim D).getD ((↑(Sp.lim D).length : Int) - 1).toNat default + 1) <= 18446744073709551615) /\
      (0 <= Int.tdiv 1000000000 ((Sp.lim D).getD ((↑(Sp.lim D).length : Int) - 1).toNat default + 1) /\ Int.tdiv 1000000000 ((Sp.lim D).getD ((↑(Sp.lim D).length : Int) - 1).toNat default + 1) <= 4294967295) /\
      (Sp.okB (↑D : Int) /\ Sp.dig (Int.tdiv 1000000000 ((Sp.lim D).getD ((↑(Sp.lim D).length : Int) - 1).toNat default + 1))) /\
      (-9223372036854775808 <= (↑(Sp.lim (D * (Int.tdiv 1000000000 ((Sp.lim D).getD ((↑(Sp.lim D).length : Int) - 1).toNat default + 1)).toNat)).length : Int) - 1 /\ (↑(Sp.lim (D * (Int.tdiv 1000000000 ((Sp.lim D).getD ((↑(Sp.lim D).length : Int) - 1).toNat default + 1)).toNat)).length : Int) - 1 <= 9223372036854775807) /\
      (0 <= (↑(Sp.lim (D * (Int.tdiv 1000000000 ((Sp.lim D).getD ((↑(Sp.lim D).length : Int) - 1).toNat default + 1)).toNat)).length : Int) - 1) /\
      (((↑(Sp.lim (D * (Int.tdiv 1000000000 ((Sp.lim D).getD ((↑(Sp.lim D).length : Int) - 1).toNat default + 1)).toNat)).length : Int) - 1).toNat < (Sp.lim (D * (Int.tdiv 1000000000 ((Sp.lim D).getD ((↑(Sp.lim D).length : Int) - 1).toNat default + 1)).toNat)).length) /\
      (0 <= (Sp.lim (D * (Int.tdiv 1000000000 ((Sp.lim D).getD ((↑(Sp.lim D).length : Int) - 1).toNat default + 1)).toNat)).getD ((↑(Sp.lim (D * (Int.tdiv 1000000000 ((Sp.lim D).getD ((↑(Sp.lim D).length : Int) - 1).toNat default + 1)).toNat)).length : Int) - 1).toNat default /\ (Sp.lim (D * (Int.tdiv 1000000000 ((Sp.lim D).getD ((↑(Sp.lim D).length : Int) - 1).toNat default + 1)).toNat)).getD ((↑(Sp.lim (D * (Int.tdiv 1000000000 ((Sp.lim D).getD ((↑(Sp.lim D).length : Int) - 1).toNat default + 1)).toNat)).length : Int) - 1).toNat default <= 18446744073709551615) /\
      (-9223372036854775808 <= (↑(Sp.lim A).length : Int) + 1 /\ (↑(Sp.lim A).length : Int) + 1 <= 9223372036854775807) /\
      (0 <= (↑(Sp.lim A).length : Int) + 1) /\
      (((↑(Sp.lim A).length : Int) + 1) * 4 <= 1099511627776) /\
      ((↑(Sp.lim A).length : Int) + 1 <= 1099511627776) /\
      (Sp.okB (↑A : Int) /\ Sp.dig (Int.tdiv 1000000000 ((Sp.lim D).getD ((↑(Sp.lim D).length : Int) - 1).toNat default + 1))) /\
      (0 <= (↑(Sp.lim (A * (Int.tdiv 1000000000 ((Sp.lim D).getD ((↑(Sp.lim D).length : Int) - 1).toNat default + 1)).toNat)).length : Int)) /\
      (0 <= (↑(Sp.lim (A * (Int.tdiv 1000000000 ((Sp.lim D).getD ((↑(Sp.lim D).length : Int) - 1).toNat default + 1)).toNat)).length : Int).toNat) /\
      ((↑(Sp.lim (A * (Int.tdiv 1000000000 ((Sp.lim D).getD ((↑(Sp.lim D).length : Int) - 1).toNat default + 1)).toNat)).length : Int).toNat <= (List.replicate ((↑(Sp.lim A).length : Int) + 1).toNat (0 : Int)).length) /\
      (-9223372036854775808 <= (↑(Sp.lim (A * (Int.tdiv 1000000000 ((Sp.lim D).getD ((↑(Sp.lim D).length : Int) - 1).toNat default + 1)).toNat)).length : Int) - 1 /\ (↑(Sp.lim (A * (Int.tdiv 1000000000 ((Sp.lim D).getD ((↑(Sp.lim D).length : Int) - 1).toNat default + 1)).toNat)).length : Int) - 1 <= 9223372036854775807) /\
      rPartsA0_at (D * (Int.tdiv 1000000000 ((Sp.lim D).getD ((↑(Sp.lim D).length : Int) - 1).toNat default + 1)).toNat) (A * (Int.tdiv 1000000000 ((Sp.lim D).getD ((↑(Sp.lim D).length : Int) - 1).toNat default + 1)).toNat) (Int.tdiv 1000000000 ((Sp.lim D).getD ((↑(Sp.lim D).length : Int) - 1).toNat default + 1)) ((Sp.lim (D * (Int.tdiv 1000000000 ((Sp.lim D).getD ((↑(Sp.lim D).length : Int) - 1).toNat default + 1)).toNat)).getD ((↑(Sp.lim (D * (Int.tdiv 1000000000 ((Sp.lim D).getD ((↑(Sp.lim D).length : Int) - 1).toNat default + 1)).toNat)).length : Int) - 1).toNat default) ((↑(Sp.lim (A * (Int.tdiv 1000000000 ((Sp.lim D).getD ((↑(Sp.lim D).length : Int) - 1).toNat default + 1)).toNat)).length : Int) - 1) ((↑(Sp.lim (A * (Int.tdiv 1000000000 ((Sp.lim D).getD ((↑(Sp.lim D).length : Int) - 1).toNat default + 1)).toNat)).length : Int).toNat - 0) (List.replicate ((↑(Sp.lim A).length : Int) + 1).toNat (0 : Int)) (PureQ dq))) :
  rParts_at fa fb A D (PureQ dq) := by
  unfold rParts_at
  have w1 : (us (Sp.lim A)).length = (Sp.lim A).length := List.length_map ..
  have w2 : (us (Sp.lim D)).length = (Sp.lim D).length := List.length_map ..
  have i3 : (bif decide ((↑(us (Sp.lim A)).length : Int) <= 2) then decide ((↑(us (Sp.lim D)).length : Int) <= 2) else false) = true ↔ (((↑(Sp.lim A).length : Int) <= 2) /\ ((↑(Sp.lim D).length : Int) <= 2)) := (by (try rw [w1]); (try rw [w2]); all_goals exact (i_band i_dec i_dec))
  rcases xm (((↑(Sp.lim A).length : Int) <= 2) /\ ((↑(Sp.lim D).length : Int) <= 2)) with d4 | d4
  · have H := H.1 d4
    obtain ⟨k5, H⟩ := H
    obtain ⟨k6, H⟩ := H
    obtain ⟨k7, H⟩ := H
    have w8 : wu ((↑A : Int).tdiv (↑D : Int)) = (↑A : Int).tdiv (↑D : Int) := wU64 k7
    obtain ⟨k9, H⟩ := H
    obtain ⟨k11, H⟩ := H
    exact path_rq (G := given kp91 [(2, 1, .call (vw (↑A : Int)) none), (2, 3, .call (vw (↑D : Int)) none), (3, 3, .call (vf (zNwD4 A D)) none), (3, 7, .call (vf (zNwD5 A D)) none)] []) 1000 [true] (calls := [pc 92 [AV.vec fa 1 (us (Sp.lim A))] (vw (↑A : Int)), pc 92 [AV.vec fb 1 (us (Sp.lim D))] (vw (↑D : Int)), pc 77 [vw (wu ((↑A : Int).tdiv (↑D : Int)))] (vf (zNwD4 A D)), pc 77 [vw ((↑A : Int).tmod (↑D : Int))] (vf (zNwD5 A D))]) (tu [vf (zNwD4 A D), vf (zNwD5 A D)]) (by kernel_rfl) (bc (beq_t (i3.2 d4)) (bc (i_neq.2 k11) (bc (i_neq.2 k11) b0))) q0 (ce (@ev92 (fa) (A) k5) (ce (@ev92 (fb) (D) k6) (ce (by (try rw [w8]); all_goals exact (@ev77 ((↑A : Int).tdiv (↑D : Int)) k7)) (ce (@ev77 ((↑A : Int).tmod (↑D : Int)) k9) c0)))) H
  · have H := H.2 d4
    obtain ⟨k13, H⟩ := H
    have w14 : wi ((↑(Sp.lim D).length : Int) - 1) = (↑(Sp.lim D).length : Int) - 1 := wI64 k13
    have i15 : (decide (0 <= wi ((↑(us (Sp.lim D)).length : Int) - 1))) = true ↔ (0 <= (↑(Sp.lim D).length : Int) - 1) := (by (try rw [w2]); (try rw [w14]); all_goals exact i_dec)
    obtain ⟨k16, H⟩ := H
    have i17 : (decide ((wi ((↑(us (Sp.lim D)).length : Int) - 1)).toNat < (us (Sp.lim D)).length)) = true ↔ (((↑(Sp.lim D).length : Int) - 1).toNat < (Sp.lim D).length) := (by (try rw [w2]); (try rw [w14]); all_goals exact i_dec)
    obtain ⟨k18, H⟩ := H
    obtain ⟨k19, H⟩ := H
    have w20 : wu ((Sp.lim D).getD ((↑(Sp.lim D).length : Int) - 1).toNat default) = (Sp.lim D).getD ((↑(Sp.lim D).length : Int) - 1).toNat default := wU64 k19
    obtain ⟨k21, H⟩ := H
    have w22 : wu ((Sp.lim D).getD ((↑(Sp.lim D).length : Int) - 1).toNat default + 1) = (Sp.lim D).getD ((↑(Sp.lim D).length : Int) - 1).toNat default + 1 := wU64 k21
    have i23 : (!wu (wu ((Sp.lim D).getD ((↑(Sp.lim D).length : Int) - 1).toNat default) + 1) == 0) = true ↔ (¬(Sp.lim D).getD ((↑(Sp.lim D).length : Int) - 1).toNat default + 1 = 0) := (by (try rw [w20]); (try rw [w22]); all_goals exact i_neq)
    obtain ⟨k24, H⟩ := H
    obtain ⟨k25, H⟩ := H
    have w26 : wu (Int.tdiv 1000000000 ((Sp.lim D).getD ((↑(Sp.lim D).length : Int) - 1).toNat default + 1)) = Int.tdiv 1000000000 ((Sp.lim D).getD ((↑(Sp.lim D).length : Int) - 1).toNat default + 1) := wU64 k25
    obtain ⟨k27, H⟩ := H
    have w28 : wv (Int.tdiv 1000000000 ((Sp.lim D).getD ((↑(Sp.lim D).length : Int) - 1).toNat default + 1)) = Int.tdiv 1000000000 ((Sp.lim D).getD ((↑(Sp.lim D).length : Int) - 1).toNat default + 1) := wU32 k27
    obtain ⟨k29, H⟩ := H
    have w30 : (us (Sp.lim (D * (Int.tdiv 1000000000 ((Sp.lim D).getD ((↑(Sp.lim D).length : Int) - 1).toNat default + 1)).toNat))).length = (Sp.lim (D * (Int.tdiv 1000000000 ((Sp.lim D).getD ((↑(Sp.lim D).length : Int) - 1).toNat default + 1)).toNat)).length := List.length_map ..
    obtain ⟨k31, H⟩ := H
    have w32 : wi ((↑(Sp.lim (D * (Int.tdiv 1000000000 ((Sp.lim D).getD ((↑(Sp.lim D).length : Int) - 1).toNat default + 1)).toNat)).length : Int) - 1) = (↑(Sp.lim (D * (Int.tdiv 1000000000 ((Sp.lim D).getD ((↑(Sp.lim D).length : Int) - 1).toNat default + 1)).toNat)).length : Int) - 1 := wI64 k31
    have i33 : (decide (0 <= wi ((↑(us (Sp.lim (D * (Int.tdiv 1000000000 ((Sp.lim D).getD ((↑(Sp.lim D).length : Int) - 1).toNat default + 1)).toNat))).length : Int) - 1))) = true ↔ (0 <= (↑(Sp.lim (D * (Int.tdiv 1000000000 ((Sp.lim D).getD ((↑(Sp.lim D).length : Int) - 1).toNat default + 1)).toNat)).length : Int) - 1) := (by (try rw [w30]); (try rw [w32]); all_goals exact i_dec)
    obtain ⟨k34, H⟩ := H
    have i35 : (decide ((wi ((↑(us (Sp.lim (D * (Int.tdiv 1000000000 ((Sp.lim D).getD ((↑(Sp.lim D).length : Int) - 1).toNat default + 1)).toNat))).length : Int) - 1)).toNat < (us (Sp.lim (D * (Int.tdiv 1000000000 ((Sp.lim D).getD ((↑(Sp.lim D).length : Int) - 1).toNat default + 1)).toNat))).length)) = true ↔ (((↑(Sp.lim (D * (Int.tdiv 1000000000 ((Sp.lim D).getD ((↑(Sp.lim D).length : Int) - 1).toNat default + 1)).toNat)).length : Int) - 1).toNat < (Sp.lim (D * (Int.tdiv 1000000000 ((Sp.lim D).getD ((↑(Sp.lim D).length : Int) - 1).toNat default + 1)).toNat)).length) := (by (try rw [w30]); (try rw [w32]); all_goals exact i_dec)
    obtain ⟨k36, H⟩ := H
    obtain ⟨k37, H⟩ := H
    have w38 : wu ((Sp.lim (D * (Int.tdiv 1000000000 ((Sp.lim D).getD ((↑(Sp.lim D).length : Int) - 1).toNat default + 1)).toNat)).getD ((↑(Sp.lim (D * (Int.tdiv 1000000000 ((Sp.lim D).getD ((↑(Sp.lim D).length : Int) - 1).toNat default + 1)).toNat)).length : Int) - 1).toNat default) = (Sp.lim (D * (Int.tdiv 1000000000 ((Sp.lim D).getD ((↑(Sp.lim D).length : Int) - 1).toNat default + 1)).toNat)).getD ((↑(Sp.lim (D * (Int.tdiv 1000000000 ((Sp.lim D).getD ((↑(Sp.lim D).length : Int) - 1).toNat default + 1)).toNat)).length : Int) - 1).toNat default := wU64 k37
    obtain ⟨k39, H⟩ := H
    have w40 : wi ((↑(Sp.lim A).length : Int) + 1) = (↑(Sp.lim A).length : Int) + 1 := wI64 k39
    have i41 : (decide (0 <= wi ((↑(us (Sp.lim A)).length : Int) + 1))) = true ↔ (0 <= (↑(Sp.lim A).length : Int) + 1) := (by (try rw [w1]); (try rw [w40]); all_goals exact i_dec)
    obtain ⟨k42, H⟩ := H
    have i43 : (decide (wi ((↑(us (Sp.lim A)).length : Int) + 1) <= wi ((↑(us (Sp.lim A)).length : Int) + 1))) = true ↔ ((↑(Sp.lim A).length : Int) + 1 <= (↑(Sp.lim A).length : Int) + 1) := (by (try rw [w1]); (try rw [w40]); all_goals exact i_dec)
    have i44 : (decide (wi ((↑(us (Sp.lim A)).length : Int) + 1) * 4 <= 1099511627776)) = true ↔ (((↑(Sp.lim A).length : Int) + 1) * 4 <= 1099511627776) := (by (try rw [w1]); (try rw [w40]); all_goals exact i_dec)
    obtain ⟨k45, H⟩ := H
    have i46 : (decide (wi ((↑(us (Sp.lim A)).length : Int) + 1) <= 1099511627776)) = true ↔ ((↑(Sp.lim A).length : Int) + 1 <= 1099511627776) := (by (try rw [w1]); (try rw [w40]); all_goals exact i_dec)
    obtain ⟨k47, H⟩ := H
    have w48 : List.replicate ((↑(Sp.lim A).length : Int) + 1).toNat (vu 0) = us (List.replicate ((↑(Sp.lim A).length : Int) + 1).toNat (0 : Int)) := (lm_rep rfl)
    obtain ⟨k49, H⟩ := H
    have w50 : (us (Sp.lim (A * (Int.tdiv 1000000000 ((Sp.lim D).getD ((↑(Sp.lim D).length : Int) - 1).toNat default + 1)).toNat))).length = (Sp.lim (A * (Int.tdiv 1000000000 ((Sp.lim D).getD ((↑(Sp.lim D).length : Int) - 1).toNat default + 1)).toNat)).length := List.length_map ..
    have i51 : (decide (0 <= (↑(us (Sp.lim (A * (Int.tdiv 1000000000 ((Sp.lim D).getD ((↑(Sp.lim D).length : Int) - 1).toNat default + 1)).toNat))).length : Int))) = true ↔ (0 <= (↑(Sp.lim (A * (Int.tdiv 1000000000 ((Sp.lim D).getD ((↑(Sp.lim D).length : Int) - 1).toNat default + 1)).toNat)).length : Int)) := (by (try rw [w50]); all_goals exact i_dec)
    obtain ⟨k52, H⟩ := H
    have i53 : (decide (0 <= (↑(us (Sp.lim (A * (Int.tdiv 1000000000 ((Sp.lim D).getD ((↑(Sp.lim D).length : Int) - 1).toNat default + 1)).toNat))).length : Int).toNat)) = true ↔ (0 <= (↑(Sp.lim (A * (Int.tdiv 1000000000 ((Sp.lim D).getD ((↑(Sp.lim D).length : Int) - 1).toNat default + 1)).toNat)).length : Int).toNat) := (by (try rw [w50]); all_goals exact i_dec)
    obtain ⟨k54, H⟩ := H
    have w55 : (us (List.replicate ((↑(Sp.lim A).length : Int) + 1).toNat (0 : Int))).length = (List.replicate ((↑(Sp.lim A).length : Int) + 1).toNat (0 : Int)).length := List.length_map ..
    have i56 : (decide ((↑(us (Sp.lim (A * (Int.tdiv 1000000000 ((Sp.lim D).getD ((↑(Sp.lim D).length : Int) - 1).toNat default + 1)).toNat))).length : Int).toNat <= (List.replicate (wi ((↑(us (Sp.lim A)).length : Int) + 1)).toNat (vu 0)).length)) = true ↔ ((↑(Sp.lim (A * (Int.tdiv 1000000000 ((Sp.lim D).getD ((↑(Sp.lim D).length : Int) - 1).toNat default + 1)).toNat)).length : Int).toNat <= (List.replicate ((↑(Sp.lim A).length : Int) + 1).toNat (0 : Int)).length) := (by (try rw [w1]); (try rw [w40]); (try rw [w48]); (try rw [w50]); (try rw [w55]); all_goals exact i_dec)
    obtain ⟨k57, H⟩ := H
    obtain ⟨k58, H⟩ := H
    have w59 : wi ((↑(Sp.lim (A * (Int.tdiv 1000000000 ((Sp.lim D).getD ((↑(Sp.lim D).length : Int) - 1).toNat default + 1)).toNat)).length : Int) - 1) = (↑(Sp.lim (A * (Int.tdiv 1000000000 ((Sp.lim D).getD ((↑(Sp.lim D).length : Int) - 1).toNat default + 1)).toNat)).length : Int) - 1 := wI64 k58
    exact path_wp (G := given kp91 [(4, 5, .elem (vu ((Sp.lim D).getD ((↑(Sp.lim D).length : Int) - 1).toNat default))), (5, 2, .call (zNwD2 D) none), (6, 5, .elem (zNwD1 D)), (9, 2, .call (zNwD3 A D) none)] []) 1000 [false] ⟨(atC (cd Try.f91) [1, 1, 1, 1, 1, 1, 1, 1, 1, 0, 1, 0, 0]), [(8, vu (wv (wu (Int.tdiv 1000000000 (wu (wu ((Sp.lim D).getD ((↑(Sp.lim D).length : Int) - 1).toNat default) + 1)))))), (9, vf (us (Sp.lim (D * (Int.tdiv 1000000000 ((Sp.lim D).getD ((↑(Sp.lim D).length : Int) - 1).toNat default + 1)).toNat)))), (10, vw (wu ((Sp.lim (D * (Int.tdiv 1000000000 ((Sp.lim D).getD ((↑(Sp.lim D).length : Int) - 1).toNat default + 1)).toNat)).getD ((↑(Sp.lim (D * (Int.tdiv 1000000000 ((Sp.lim D).getD ((↑(Sp.lim D).length : Int) - 1).toNat default + 1)).toNat)).length : Int) - 1).toNat default))), (11, AV.vnil), (12, AV.ref 0 0 0 ((↑(us (Sp.lim (A * (Int.tdiv 1000000000 ((Sp.lim D).getD ((↑(Sp.lim D).length : Int) - 1).toNat default + 1)).toNat))).length : Int).toNat - 0)), (13, vf (us (Sp.lim (A * (Int.tdiv 1000000000 ((Sp.lim D).getD ((↑(Sp.lim D).length : Int) - 1).toNat default + 1)).toNat)))), (14, vi (wi ((↑(us (Sp.lim (A * (Int.tdiv 1000000000 ((Sp.lim D).getD ((↑(Sp.lim D).length : Int) - 1).toNat default + 1)).toNat))).length : Int) - 1)))], [⟨List.replicate (wi ((↑(us (Sp.lim A)).length : Int) + 1)).toNat (vu 0), 1, 0, false, true⟩], [(bif decide ((↑(us (Sp.lim A)).length : Int) <= 2) then decide ((↑(us (Sp.lim D)).length : Int) <= 2) else false) == false, decide (0 <= wi ((↑(us (Sp.lim D)).length : Int) - 1)), decide ((wi ((↑(us (Sp.lim D)).length : Int) - 1)).toNat < (us (Sp.lim D)).length), !wu (wu ((Sp.lim D).getD ((↑(Sp.lim D).length : Int) - 1).toNat default) + 1) == 0, decide (0 <= wi ((↑(us (Sp.lim (D * (Int.tdiv 1000000000 ((Sp.lim D).getD ((↑(Sp.lim D).length : Int) - 1).toNat default + 1)).toNat))).length : Int) - 1)), decide ((wi ((↑(us (Sp.lim (D * (Int.tdiv 1000000000 ((Sp.lim D).getD ((↑(Sp.lim D).length : Int) - 1).toNat default + 1)).toNat))).length : Int) - 1)).toNat < (us (Sp.lim (D * (Int.tdiv 1000000000 ((Sp.lim D).getD ((↑(Sp.lim D).length : Int) - 1).toNat default + 1)).toNat))).length), decide (0 <= wi ((↑(us (Sp.lim A)).length : Int) + 1)), decide (wi ((↑(us (Sp.lim A)).length : Int) + 1) <= wi ((↑(us (Sp.lim A)).length : Int) + 1)), decide (wi ((↑(us (Sp.lim A)).length : Int) + 1) * 4 <= 1099511627776), decide (wi ((↑(us (Sp.lim A)).length : Int) + 1) <= 1099511627776), true, decide (0 <= (↑(us (Sp.lim (A * (Int.tdiv 1000000000 ((Sp.lim D).getD ((↑(Sp.lim D).length : Int) - 1).toNat default + 1)).toNat))).length : Int)), decide (0 <= (↑(us (Sp.lim (A * (Int.tdiv 1000000000 ((Sp.lim D).getD ((↑(Sp.lim D).length : Int) - 1).toNat default + 1)).toNat))).length : Int).toNat), decide ((↑(us (Sp.lim (A * (Int.tdiv 1000000000 ((Sp.lim D).getD ((↑(Sp.lim D).length : Int) - 1).toNat default + 1)).toNat))).length : Int).toNat <= (List.replicate (wi ((↑(us (Sp.lim A)).length : Int) + 1)).toNat (vu 0)).length)], [((us (Sp.lim D)).get?Internal (wi ((↑(us (Sp.lim D)).length : Int) - 1)).toNat = some (vu ((Sp.lim D).getD ((↑(Sp.lim D).length : Int) - 1).toNat default))), ((us (Sp.lim (D * (Int.tdiv 1000000000 ((Sp.lim D).getD ((↑(Sp.lim D).length : Int) - 1).toNat default + 1)).toNat))).get?Internal (wi ((↑(us (Sp.lim (D * (Int.tdiv 1000000000 ((Sp.lim D).getD ((↑(Sp.lim D).length : Int) - 1).toNat default + 1)).toNat))).length : Int) - 1)).toNat = some (zNwD1 D))], [pc 105 [AV.vec fb 1 (us (Sp.lim D)), vu (wv (wu (Int.tdiv 1000000000 (wu (wu ((Sp.lim D).getD ((↑(Sp.lim D).length : Int) - 1).toNat default) + 1)))))] (zNwD2 D), pc 105 [AV.vec fa 1 (us (Sp.lim A)), vu (wv (wu (Int.tdiv 1000000000 (wu (wu ((Sp.lim D).getD ((↑(Sp.lim D).length : Int) - 1).toNat default) + 1)))))] (zNwD3 A D)]⟩ (by kernel_rfl) (bc (beq_f (fun h => d4 (i3.1 h))) (bc (i15.2 k16) (bc (i17.2 k18) (bc (i23.2 k24) (bc (i33.2 k34) (bc (i35.2 k36) (bc (i41.2 k42) (bc (i43.2 (by omega)) (bc (i44.2 k45) (bc (i46.2 k47) (bc rfl (bc (i51.2 k52) (bc (i53.2 k54) (bc (i56.2 k57) b0)))))))))))))) (qc (by (try rw [w2]); (try rw [w14]); all_goals exact (el_map k18)) (qc (by (try rw [w30]); (try rw [w32]); all_goals exact (el_map k36)) q0)) (ce (by (try rw [w20]); (try rw [w22]); (try rw [w26]); (try rw [w28]); all_goals exact (@ev105 (fb) (D) (Int.tdiv 1000000000 ((Sp.lim D).getD ((↑(Sp.lim D).length : Int) - 1).toNat default + 1)) k29)) (ce (by (try rw [w20]); (try rw [w22]); (try rw [w26]); (try rw [w28]); all_goals exact (@ev105 (fa) (A) (Int.tdiv 1000000000 ((Sp.lim D).getD ((↑(Sp.lim D).length : Int) - 1).toNat default + 1)) k49)) c0)) (by (try rw [w1]); (try rw [w20]); (try rw [w22]); (try rw [w26]); (try rw [w28]); (try rw [w38]); (try rw [w40]); (try rw [w48]); (try rw [w50]); (try rw [w59]); all_goals exact H)
theorem rPartsA0 (V U : Nat) (s t i : Int) (n : Nat) (o : List Int) (R2 : Nat) (dq : AV) (H :
    ((i >= 0) -> (Ev M1 (Conf.pure 90 [AV.vec true 1 [vu ((Sp.lim U).getD i.toNat default)]]) (vf (us (Sp.lim R2))) []) /\
      (0 <= i) /\
      (i.toNat < (Sp.lim U).length) /\
      rPartsB_at (V) (U) (s) (t) (i) (n) (o) (R2) (PureQ dq)) /\
    (¬(i >= 0) -> rPartsL0_at (s) (n) (o) (PureQ dq))) :
  rPartsA0_at V U s t i n o (PureQ dq) := by
  unfold rPartsA0_at
  rcases xm (i >= 0) with d2 | d2
  · have H := H.1 d2
    obtain ⟨k3, H⟩ := H
    obtain ⟨k5, H⟩ := H
    have w6 : (us (Sp.lim U)).length = (Sp.lim U).length := List.length_map ..
    have i7 : (decide (i.toNat < (us (Sp.lim U)).length)) = true ↔ (i.toNat < (Sp.lim U).length) := (by (try rw [w6]); all_goals exact i_dec)
    obtain ⟨k8, H⟩ := H
    exact path_wp (G := given kp91 [(14, 3, .elem (vu ((Sp.lim U).getD i.toNat default))), (14, 7, .call (.vec false 1 ((Sp.lim R2).map (.int .u32))) none)] []) 10 [true] ⟨(atC (cd Try.f91) [1, 1, 1, 1, 1, 1, 1, 1, 1, 0, 1, 0, 0, 1, 0, 0, 1, 0]), [(8, vu s), (9, vf (us (Sp.lim V))), (10, vw t), (11, vf (us (Sp.lim R2))), (12, AV.ref 0 0 0 n), (13, vf (us (Sp.lim U))), (14, vi i)], [⟨us o, 1, 0, false, true⟩], _, [((us (Sp.lim U)).get?Internal i.toNat = some (vu ((Sp.lim U).getD i.toNat default)))], _⟩ (by kernel_rfl) (bc (beq_t (i_dec.2 d2)) (bc (i_dec.2 k5) (bc (i7.2 k8) b0))) (qc (el_map k8) q0) (ce k3 c0) (H)
  · have H := H.2 d2
    have w9 : [] = us [] := rfl
    exact path_wp (G := given kp91 [] []) 1000 [false] ⟨(atC (cd Try.f91) [1, 1, 1, 1, 1, 1, 1, 1, 1, 1, 1, 1, 0, 1, 0, 0]), [(8, vu s), (11, AV.vnil), (12, AV.ref 0 0 0 n), (18, vw 0), (19, AV.row 1 0), (20, vi (-1))], [⟨us o, 1, 0, false, true⟩, ⟨[], 1, 0, false, true⟩], _, [], _⟩ (by kernel_rfl) (bc (beq_f (fun h => d2 (i_dec.1 h))) (bc rfl (bc rfl (bc rfl (bc rfl b0))))) q0 c0 (by (try rw [w9]); all_goals exact H)
theorem rPartsAE (V U : Nat) (s t i : Int) (n : Nat) (o : List Int) (R2 : Nat) (dq : AV) (H :
    ((i >= 0) -> (Ev M1 (Conf.pure 90 [AV.vec true 1 [vu ((Sp.lim U).getD i.toNat default)]]) (vf (us (Sp.lim R2))) []) /\
      (0 <= i) /\
      (i.toNat < (Sp.lim U).length) /\
      rPartsB_at (V) (U) (s) (t) (i) (n) (o) (R2) (PureQ dq)) /\
    (¬(i >= 0) -> Wp M1 (.run fi91 (atC (cd Try.f91) [1, 1, 1, 1, 1, 1, 1, 1, 1, 1, 1, 1, 0, 1, 0, 0]) [(8, vu s), (11, vf []), (12, AV.ref 0 0 0 n), (18, vw 0), (19, AV.row 1 0), (20, vi (-1))] [{ elems := us o, es := 1, ver := 0, frozen := false, clean := true }, { elems := [], es := 1, ver := 0, frozen := false, clean := true }]) (PureQ dq))) :
  rPartsAE_at V U s t i n o (PureQ dq) := by
  unfold rPartsAE_at
  rcases xm (i >= 0) with d2 | d2
  · have H := H.1 d2
    obtain ⟨k3, H⟩ := H
    obtain ⟨k5, H⟩ := H
    have w6 : (us (Sp.lim U)).length = (Sp.lim U).length := List.length_map ..
    have i7 : (decide (i.toNat < (us (Sp.lim U)).length)) = true ↔ (i.toNat < (Sp.lim U).length) := (by (try rw [w6]); all_goals exact i_dec)
    obtain ⟨k8, H⟩ := H
    exact path_wp (G := given kp91 [(14, 3, .elem (vu ((Sp.lim U).getD i.toNat default))), (14, 7, .call (.vec false 1 ((Sp.lim R2).map (.int .u32))) none)] []) 10 [true] ⟨(atC (cd Try.f91) [1, 1, 1, 1, 1, 1, 1, 1, 1, 0, 1, 0, 0, 1, 0, 0, 1, 0]), [(8, vu s), (9, vf (us (Sp.lim V))), (10, vw t), (11, vf (us (Sp.lim R2))), (12, AV.ref 0 0 0 n), (13, vf (us (Sp.lim U))), (14, vi i)], [⟨us o, 1, 0, false, true⟩], _, [((us (Sp.lim U)).get?Internal i.toNat = some (vu ((Sp.lim U).getD i.toNat default)))], _⟩ (by kernel_rfl) (bc (beq_t (i_dec.2 d2)) (bc (i_dec.2 k5) (bc (i7.2 k8) b0))) (qc (el_map k8) q0) (ce k3 c0) (H)
  · have H := H.2 d2
    have w9 : [] = us [] := rfl
    exact path_wp (G := given kp91 [] []) 1000 [false] ⟨(atC (cd Try.f91) [1, 1, 1, 1, 1, 1, 1, 1, 1, 1, 1, 1, 0, 1, 0, 0]), [(8, vu s), (11, vf []), (12, AV.ref 0 0 0 n), (18, vw 0), (19, AV.row 1 0), (20, vi (-1))], [⟨us o, 1, 0, false, true⟩, ⟨[], 1, 0, false, true⟩], _, [], _⟩ (by kernel_rfl) (bc (beq_f (fun h => d2 (i_dec.1 h))) (bc rfl (bc rfl (bc rfl (bc rfl b0))))) q0 c0 (by (try rw [w9]); all_goals exact H)
theorem rPartsA (V U : Nat) (s t i : Int) (n : Nat) (o : List Int) (c : Int) (l : List Int) (R2 : Nat) (dq : AV) (H :
    ((i >= 0) -> (Ev M1 (Conf.pure 90 [vf (vu ((Sp.lim U).getD i.toNat default) :: vu c :: us l)]) (vf (us (Sp.lim R2))) []) /\
      (0 <= i) /\
      (i.toNat < (Sp.lim U).length) /\
      ((1 + (l.length + 1)) * 4 <= 1099511627776) /\
      rPartsB_at (V) (U) (s) (t) (i) (n) (o) (R2) (PureQ dq)) /\
    (¬(i >= 0) -> (0 <= (↑(l.length + 1) : Int)) /\
      ((↑(l.length + 1) : Int) * 4 <= 1099511627776) /\
      ((↑(l.length + 1) : Int) <= 1099511627776) /\
      (-9223372036854775808 <= (↑(l.length + 1) : Int) - 1 /\ (↑(l.length + 1) : Int) - 1 <= 9223372036854775807) /\
      Wp M1 (.run fi91 (atC (cd Try.f91) [1, 1, 1, 1, 1, 1, 1, 1, 1, 1, 1, 1, 0, 1, 0, 0]) [(8, vu s), (11, vf (vu c :: us l)), (12, AV.ref 0 0 0 n), (18, vw 0), (19, AV.row 1 0), (20, vi ((↑(l.length + 1) : Int) - 1))] [{ elems := us o, es := 1, ver := 0, frozen := false, clean := true }, { elems := vu 0 :: us (List.replicate l.length (0 : Int)), es := 1, ver := 0, frozen := false, clean := true }]) (PureQ dq))) :
  rPartsA_at V U s t i n o c l (PureQ dq) := by
  unfold rPartsA_at
  rcases xm (i >= 0) with d2 | d2
  · have H := H.1 d2
    obtain ⟨k3, H⟩ := H
    obtain ⟨k5, H⟩ := H
    have w6 : (us (Sp.lim U)).length = (Sp.lim U).length := List.length_map ..
    have i7 : (decide (i.toNat < (us (Sp.lim U)).length)) = true ↔ (i.toNat < (Sp.lim U).length) := (by (try rw [w6]); all_goals exact i_dec)
    obtain ⟨k8, H⟩ := H
    have w9 : (us l).length = l.length := List.length_map ..
    have i10 : (decide ((1 + ((us l).length + 1)) * 4 <= 1099511627776)) = true ↔ ((1 + (l.length + 1)) * 4 <= 1099511627776) := (by (try rw [w9]); all_goals exact i_dec)
    obtain ⟨k11, H⟩ := H
    exact path_wp (G := given kp91 [(14, 3, .elem (vu ((Sp.lim U).getD i.toNat default))), (14, 7, .call (.vec false 1 ((Sp.lim R2).map (.int .u32))) none)] []) 10 [true] ⟨(atC (cd Try.f91) [1, 1, 1, 1, 1, 1, 1, 1, 1, 0, 1, 0, 0, 1, 0, 0, 1, 0]), [(8, vu s), (9, vf (us (Sp.lim V))), (10, vw t), (11, vf (us (Sp.lim R2))), (12, AV.ref 0 0 0 n), (13, vf (us (Sp.lim U))), (14, vi i)], [⟨us o, 1, 0, false, true⟩, ⟨vu ((Sp.lim U).getD i.toNat default) :: vu c :: us l, 1, 0, true, true⟩], _, [((us (Sp.lim U)).get?Internal i.toNat = some (vu ((Sp.lim U).getD i.toNat default)))], _⟩ (by kernel_rfl) (bc (beq_t (i_dec.2 d2)) (bc (i_dec.2 k5) (bc (i7.2 k8) (bc (i10.2 k11) (bc rfl b0))))) (qc (el_map k8) q0) (ce k3 c0) (wp_narrow [0] (by kernel_rfl) H)
  · have H := H.2 d2
    have w12 : (us l).length = l.length := List.length_map ..
    have i13 : (decide (0 <= (↑((us l).length + 1) : Int))) = true ↔ (0 <= (↑(l.length + 1) : Int)) := (by (try rw [w12]); all_goals exact i_dec)
    obtain ⟨k14, H⟩ := H
    have i15 : (decide ((↑((us l).length + 1) : Int) <= (↑((us l).length + 1) : Int))) = true ↔ ((↑(l.length + 1) : Int) <= (↑(l.length + 1) : Int)) := (by (try rw [w12]); all_goals exact i_dec)
    have i16 : (decide ((↑((us l).length + 1) : Int) * 4 <= 1099511627776)) = true ↔ ((↑(l.length + 1) : Int) * 4 <= 1099511627776) := (by (try rw [w12]); all_goals exact i_dec)
    obtain ⟨k17, H⟩ := H
    have i18 : (decide ((↑((us l).length + 1) : Int) <= 1099511627776)) = true ↔ ((↑(l.length + 1) : Int) <= 1099511627776) := (by (try rw [w12]); all_goals exact i_dec)
    obtain ⟨k19, H⟩ := H
    have w20 : List.replicate l.length (vu 0) = us (List.replicate l.length (0 : Int)) := (lm_rep rfl)
    obtain ⟨k21, H⟩ := H
    have w22 : wi ((↑(l.length + 1) : Int) - 1) = (↑(l.length + 1) : Int) - 1 := wI64 k21
    exact path_wp (G := given kp91 [] []) 1000 [false] ⟨(atC (cd Try.f91) [1, 1, 1, 1, 1, 1, 1, 1, 1, 1, 1, 1, 0, 1, 0, 0]), [(8, vu s), (11, vf (vu c :: us l)), (12, AV.ref 0 0 0 n), (18, vw 0), (19, AV.row 1 0), (20, vi (wi ((↑((us l).length + 1) : Int) - 1)))], [⟨us o, 1, 0, false, true⟩, ⟨vu 0 :: List.replicate (us l).length (vu 0), 1, 0, false, true⟩], [(decide (i >= 0)) == false, decide (0 <= (↑((us l).length + 1) : Int)), decide ((↑((us l).length + 1) : Int) <= (↑((us l).length + 1) : Int)), decide ((↑((us l).length + 1) : Int) * 4 <= 1099511627776), decide ((↑((us l).length + 1) : Int) <= 1099511627776)], [], _⟩ (by kernel_rfl) (bc (beq_f (fun h => d2 (i_dec.1 h))) (bc (i13.2 k14) (bc (i15.2 (by omega)) (bc (i16.2 k17) (bc (i18.2 k19) b0))))) q0 c0 (by (try rw [w12]); (try rw [w20]); (try rw [w22]); all_goals exact H)
noncomputable abbrev zNwD6 (V : Nat) := us (Sp.lim (V * Int.toNat 999999999))
noncomputable abbrev zNwD7 (V : Nat) (R2 : Nat) (t : Int) := us (Sp.lim (V * (((Sp.lim R2).getD (↑(Sp.lim V).length : Int).toNat default * 1000000000 + (Sp.lim R2).getD ((↑(Sp.lim V).length : Int) - 1).toNat default).tdiv t).toNat))
noncomputable abbrev zNwD8 (V : Nat) (R2 : Nat) (t : Int) := us (Sp.lim (V * (((Sp.lim R2).getD (↑(Sp.lim V).length : Int).toNat default * 1000000000).tdiv t).toNat))
noncomputable abbrev zNwD9 (R2 : Nat) (V : Nat) := vu ((Sp.lim R2).getD ((↑(Sp.lim V).length : Int) - 1).toNat default)
noncomputable abbrev zNwD10 (V : Nat) (R2 : Nat) (t : Int) := us (Sp.lim (V * ((0 + (Sp.lim R2).getD ((↑(Sp.lim V).length : Int) - 1).toNat default).tdiv t).toNat))
noncomputable abbrev zNwD11 (R2 : Nat) (V : Nat) := (↑(Sp.lim R2).length : Int) >= (↑(Sp.lim V).length : Int)
noncomputable abbrev zNwD12 (V : Nat) (t : Int) := us (Sp.lim (V * (Int.tdiv 0 t).toNat))
theorem rPartsB (V U : Nat) (s t i : Int) (n : Nat) (o : List Int) (R2 : Nat)  (dq : AV) (H :
    (((↑(Sp.lim R2).length : Int) > (↑(Sp.lim V).length : Int)) -> (0 <= (↑(Sp.lim V).length : Int)) /\
      ((↑(Sp.lim V).length : Int).toNat < (Sp.lim R2).length) /\
      (0 <= (Sp.lim R2).getD (↑(Sp.lim V).length : Int).toNat default /\ (Sp.lim R2).getD (↑(Sp.lim V).length : Int).toNat default <= 18446744073709551615) /\
      (0 <= (Sp.lim R2).getD (↑(Sp.lim V).length : Int).toNat default * 1000000000 /\ (Sp.lim R2).getD (↑(Sp.lim V).length : Int).toNat default * 1000000000 <= 18446744073709551615) /\
      (((↑(Sp.lim R2).length : Int) >= (↑(Sp.lim V).length : Int)) -> (-9223372036854775808 <= (↑(Sp.lim V).length : Int) - 1 /\ (↑(Sp.lim V).length : Int) - 1 <= 9223372036854775807) /\
        (0 <= (↑(Sp.lim V).length : Int) - 1) /\
        (((↑(Sp.lim V).length : Int) - 1).toNat < (Sp.lim R2).length) /\
        (0 <= (Sp.lim R2).getD ((↑(Sp.lim V).length : Int) - 1).toNat default /\ (Sp.lim R2).getD ((↑(Sp.lim V).length : Int) - 1).toNat default <= 18446744073709551615) /\
        (0 <= (Sp.lim R2).getD (↑(Sp.lim V).length : Int).toNat default * 1000000000 + (Sp.lim R2).getD ((↑(Sp.lim V).length : Int) - 1).toNat default /\ (Sp.lim R2).getD (↑(Sp.lim V).length : Int).toNat default * 1000000000 + (Sp.lim R2).getD ((↑(Sp.lim V).length : Int) - 1).toNat default <= 18446744073709551615) /\
        (¬t = 0) /\
        (0 <= ((Sp.lim R2).getD (↑(Sp.lim V).length : Int).toNat default * 1000000000 + (Sp.lim R2).getD ((↑(Sp.lim V).length : Int) - 1).toNat default).tdiv t /\ ((Sp.lim R2).getD (↑(Sp.lim V).length : Int).toNat default * 1000000000 + (Sp.lim R2).getD ((↑(Sp.lim V).length : Int) - 1).toNat default).tdiv t <= 18446744073709551615) /\
        ((((Sp.lim R2).getD (↑(Sp.lim V).length : Int).toNat default * 1000000000 + (Sp.lim R2).getD ((↑(Sp.lim V).length : Int) - 1).toNat default).tdiv t > 999999999) -> (Sp.okB (↑V : Int) /\ Sp.dig 999999999) /\
          rPartsG_at (V) (U) (s) (t) (i) (n) (o) (R2) (V * Int.toNat 999999999) (999999999) (PureQ dq)) /\
        (¬(((Sp.lim R2).getD (↑(Sp.lim V).length : Int).toNat default * 1000000000 + (Sp.lim R2).getD ((↑(Sp.lim V).length : Int) - 1).toNat default).tdiv t > 999999999) -> (0 <= ((Sp.lim R2).getD (↑(Sp.lim V).length : Int).toNat default * 1000000000 + (Sp.lim R2).getD ((↑(Sp.lim V).length : Int) - 1).toNat default).tdiv t /\ ((Sp.lim R2).getD (↑(Sp.lim V).length : Int).toNat default * 1000000000 + (Sp.lim R2).getD ((↑(Sp.lim V).length : Int) - 1).toNat default).tdiv t <= 4294967295) /\
          (Sp.okB (↑V : Int) /\ Sp.dig (((Sp.lim R2).getD (↑(Sp.lim V).length : Int).toNat default * 1000000000 + (Sp.lim R2).getD ((↑(Sp.lim V).length : Int) - 1).toNat default).tdiv t)) /\
          rPartsG_at (V) (U) (s) (t) (i) (n) (o) (R2) (V * (((Sp.lim R2).getD (↑(Sp.lim V).length : Int).toNat default * 1000000000 + (Sp.lim R2).getD ((↑(Sp.lim V).length : Int) - 1).toNat default).tdiv t).toNat) (((Sp.lim R2).getD (↑(Sp.lim V).length : Int).toNat default * 1000000000 + (Sp.lim R2).getD ((↑(Sp.lim V).length : Int) - 1).toNat default).tdiv t) (PureQ dq))) /\
      (¬((↑(Sp.lim R2).length : Int) >= (↑(Sp.lim V).length : Int)) -> (¬t = 0) /\
        (0 <= ((Sp.lim R2).getD (↑(Sp.lim V).length : Int).toNat default * 1000000000).tdiv t /\ ((Sp.lim R2).getD (↑(Sp.lim V).length : Int).toNat default * 1000000000).tdiv t <= 18446744073709551615) /\
        ((((Sp.lim R2).getD (↑(Sp.lim V).length : Int).toNat default * 1000000000).tdiv t > 999999999) -> (Sp.okB (↑V : Int) /\ Sp.dig 999999999) /\
          rPartsG_at (V) (U) (s) (t) (i) (n) (o) (R2) (V * Int.toNat 999999999) (999999999) (PureQ dq)) /\
        (¬(((Sp.lim R2).getD (↑(Sp.lim V).length : Int).toNat default * 1000000000).tdiv t > 999999999) -> (0 <= ((Sp.lim R2).getD (↑(Sp.lim V).length : Int).toNat default * 1000000000).tdiv t /\ ((Sp.lim R2).getD (↑(Sp.lim V).length : Int).toNat default * 1000000000).tdiv t <= 4294967295) /\
          (Sp.okB (↑V : Int) /\ Sp.dig (((Sp.lim R2).getD (↑(Sp.lim V).length : Int).toNat default * 1000000000).tdiv t)) /\
          rPartsG_at (V) (U) (s) (t) (i) (n) (o) (R2) (V * (((Sp.lim R2).getD (↑(Sp.lim V).length : Int).toNat default * 1000000000).tdiv t).toNat) (((Sp.lim R2).getD (↑(Sp.lim V).length : Int).toNat default * 1000000000).tdiv t) (PureQ dq)))) /\
    (¬((↑(Sp.lim R2).length : Int) > (↑(Sp.lim V).length : Int)) -> (((↑(Sp.lim R2).length : Int) >= (↑(Sp.lim V).length : Int)) -> (-9223372036854775808 <= (↑(Sp.lim V).length : Int) - 1 /\ (↑(Sp.lim V).length : Int) - 1 <= 9223372036854775807) /\
        (0 <= (↑(Sp.lim V).length : Int) - 1) /\
        (((↑(Sp.lim V).length : Int) - 1).toNat < (Sp.lim R2).length) /\
        (0 <= (Sp.lim R2).getD ((↑(Sp.lim V).length : Int) - 1).toNat default /\ (Sp.lim R2).getD ((↑(Sp.lim V).length : Int) - 1).toNat default <= 18446744073709551615) /\
        (0 <= 0 + (Sp.lim R2).getD ((↑(Sp.lim V).length : Int) - 1).toNat default /\ 0 + (Sp.lim R2).getD ((↑(Sp.lim V).length : Int) - 1).toNat default <= 18446744073709551615) /\
        (¬t = 0) /\
        (0 <= (0 + (Sp.lim R2).getD ((↑(Sp.lim V).length : Int) - 1).toNat default).tdiv t /\ (0 + (Sp.lim R2).getD ((↑(Sp.lim V).length : Int) - 1).toNat default).tdiv t <= 18446744073709551615) /\
        (((0 + (Sp.lim R2).getD ((↑(Sp.lim V).length : Int) - 1).toNat default).tdiv t > 999999999) -> (Sp.okB (↑V : Int) /\ Sp.dig 999999999) /\
          rPartsG_at (V) (U) (s) (t) (i) (n) (o) (R2) (V * Int.toNat 999999999) (999999999) (PureQ dq)) /\
        (¬((0 + (Sp.lim R2).getD ((↑(Sp.lim V).length : Int) - 1).toNat default).tdiv t > 999999999) -> (0 <= (0 + (Sp.lim R2).getD ((↑(Sp.lim V).length : Int) - 1).toNat default).tdiv t /\ (0 + (Sp.lim R2).getD ((↑(Sp.lim V).length : Int) - 1).toNat default).tdiv t <= 4294967295) /\
          (Sp.okB (↑V : Int) /\ Sp.dig ((0 + (Sp.lim R2).getD ((↑(Sp.lim V).length : Int) - 1).toNat default).tdiv t)) /\
          rPartsG_at (V) (U) (s) (t) (i) (n) (o) (R2) (V * ((0 + (Sp.lim R2).getD ((↑(Sp.lim V).length : Int) - 1).toNat default).tdiv t).toNat) ((0 + (Sp.lim R2).getD ((↑(Sp.lim V).length : Int) - 1).toNat default).tdiv t) (PureQ dq))) /\
      (¬((↑(Sp.lim R2).length : Int) >= (↑(Sp.lim V).length : Int)) -> (¬t = 0) /\
        (0 <= Int.tdiv 0 t /\ Int.tdiv 0 t <= 18446744073709551615) /\
        ((Int.tdiv 0 t > 999999999) -> (Sp.okB (↑V : Int) /\ Sp.dig 999999999) /\
          rPartsG_at (V) (U) (s) (t) (i) (n) (o) (R2) (V * Int.toNat 999999999) (999999999) (PureQ dq)) /\
        (¬(Int.tdiv 0 t > 999999999) -> (0 <= Int.tdiv 0 t /\ Int.tdiv 0 t <= 4294967295) /\
          (Sp.okB (↑V : Int) /\ Sp.dig (Int.tdiv 0 t)) /\
          rPartsG_at (V) (U) (s) (t) (i) (n) (o) (R2) (V * (Int.tdiv 0 t).toNat) (Int.tdiv 0 t) (PureQ dq))))) :
  rPartsB_at V U s t i n o R2 (PureQ dq) := by
  unfold rPartsB_at
  have w1 : (us (Sp.lim R2)).length = (Sp.lim R2).length := List.length_map ..
  have w2 : (us (Sp.lim V)).length = (Sp.lim V).length := List.length_map ..
  have i3 : (decide ((↑(us (Sp.lim R2)).length : Int) > (↑(us (Sp.lim V)).length : Int))) = true ↔ ((↑(Sp.lim R2).length : Int) > (↑(Sp.lim V).length : Int)) := (by (try rw [w1]); (try rw [w2]); all_goals exact i_dec)
  rcases xm ((↑(Sp.lim R2).length : Int) > (↑(Sp.lim V).length : Int)) with d4 | d4
  · have H := H.1 d4
    have i5 : (decide (0 <= (↑(us (Sp.lim V)).length : Int))) = true ↔ (0 <= (↑(Sp.lim V).length : Int)) := (by (try rw [w2]); all_goals exact i_dec)
    obtain ⟨k6, H⟩ := H
    have i7 : (decide ((↑(us (Sp.lim V)).length : Int).toNat < (us (Sp.lim R2)).length)) = true ↔ ((↑(Sp.lim V).length : Int).toNat < (Sp.lim R2).length) := (by (try rw [w1]); (try rw [w2]); all_goals exact i_dec)
    obtain ⟨k8, H⟩ := H
    obtain ⟨k9, H⟩ := H
    have w10 : wu ((Sp.lim R2).getD (↑(Sp.lim V).length : Int).toNat default) = (Sp.lim R2).getD (↑(Sp.lim V).length : Int).toNat default := wU64 k9
    obtain ⟨k11, H⟩ := H
    have w12 : wu ((Sp.lim R2).getD (↑(Sp.lim V).length : Int).toNat default * 1000000000) = (Sp.lim R2).getD (↑(Sp.lim V).length : Int).toNat default * 1000000000 := wU64 k11
    have i13 : (decide ((↑(us (Sp.lim R2)).length : Int) >= (↑(us (Sp.lim V)).length : Int))) = true ↔ (zNwD11 R2 V) := (by (try rw [w1]); (try rw [w2]); all_goals exact i_dec)
    refine path_wp (G := given kp91 [(17, 4, .elem (vu ((Sp.lim R2).getD (↑(Sp.lim V).length : Int).toNat default)))] []) 9 [true] ⟨(atC (cd Try.f91) [1, 1, 1, 1, 1, 1, 1, 1, 1, 0, 1, 0, 0, 1, 0, 0, 1, 1, 1, 0, 1]), [(8, vu s), (9, vf (us (Sp.lim V))), (10, vw t), (11, vf (us (Sp.lim R2))), (12, AV.ref 0 0 0 n), (13, vf (us (Sp.lim U))), (14, vi i), (15, vw (wu (wu ((Sp.lim R2).getD (↑(Sp.lim V).length : Int).toNat default) * 1000000000))), (103, vb (decide ((↑(us (Sp.lim R2)).length : Int) >= (↑(us (Sp.lim V)).length : Int))))], [⟨us o, 1, 0, false, true⟩], _, [((us (Sp.lim R2)).get?Internal (↑(us (Sp.lim V)).length : Int).toNat = some (vu ((Sp.lim R2).getD (↑(Sp.lim V).length : Int).toNat default)))], _⟩ (by kernel_rfl) (bc (beq_t (i3.2 d4)) (bc (i5.2 k6) (bc (i7.2 k8) b0))) (qc (by (try rw [w2]); all_goals exact (el_map k8)) q0) c0 ?_
    rcases xm (zNwD11 R2 V) with d14 | d14
    · have H := H.1 d14
      obtain ⟨k15, H⟩ := H
      have w16 : wi ((↑(Sp.lim V).length : Int) - 1) = (↑(Sp.lim V).length : Int) - 1 := wI64 k15
      have i17 : (decide (0 <= wi ((↑(us (Sp.lim V)).length : Int) - 1))) = true ↔ (0 <= (↑(Sp.lim V).length : Int) - 1) := (by (try rw [w2]); (try rw [w16]); all_goals exact i_dec)
      obtain ⟨k18, H⟩ := H
      have i19 : (decide ((wi ((↑(us (Sp.lim V)).length : Int) - 1)).toNat < (us (Sp.lim R2)).length)) = true ↔ (((↑(Sp.lim V).length : Int) - 1).toNat < (Sp.lim R2).length) := (by (try rw [w1]); (try rw [w2]); (try rw [w16]); all_goals exact i_dec)
      obtain ⟨k20, H⟩ := H
      obtain ⟨k21, H⟩ := H
      have w22 : wu ((Sp.lim R2).getD ((↑(Sp.lim V).length : Int) - 1).toNat default) = (Sp.lim R2).getD ((↑(Sp.lim V).length : Int) - 1).toNat default := wU64 k21
      obtain ⟨k23, H⟩ := H
      have w24 : wu ((Sp.lim R2).getD (↑(Sp.lim V).length : Int).toNat default * 1000000000 + (Sp.lim R2).getD ((↑(Sp.lim V).length : Int) - 1).toNat default) = (Sp.lim R2).getD (↑(Sp.lim V).length : Int).toNat default * 1000000000 + (Sp.lim R2).getD ((↑(Sp.lim V).length : Int) - 1).toNat default := wU64 k23
      obtain ⟨k26, H⟩ := H
      obtain ⟨k27, H⟩ := H
      have w28 : wu (((Sp.lim R2).getD (↑(Sp.lim V).length : Int).toNat default * 1000000000 + (Sp.lim R2).getD ((↑(Sp.lim V).length : Int) - 1).toNat default).tdiv t) = ((Sp.lim R2).getD (↑(Sp.lim V).length : Int).toNat default * 1000000000 + (Sp.lim R2).getD ((↑(Sp.lim V).length : Int) - 1).toNat default).tdiv t := wU64 k27
      have i29 : (decide (wu ((wu (wu (wu ((Sp.lim R2).getD (↑(Sp.lim V).length : Int).toNat default) * 1000000000) + wu ((Sp.lim R2).getD ((↑(Sp.lim V).length : Int) - 1).toNat default))).tdiv t) > 999999999)) = true ↔ (((Sp.lim R2).getD (↑(Sp.lim V).length : Int).toNat default * 1000000000 + (Sp.lim R2).getD ((↑(Sp.lim V).length : Int) - 1).toNat default).tdiv t > 999999999) := (by (try rw [w10]); (try rw [w12]); (try rw [w22]); (try rw [w24]); (try rw [w28]); all_goals exact i_dec)
      refine path_wp (G := given kp91 [(19, 6, .elem (zNwD9 R2 V))] []) 7 [true] ⟨(atC (cd Try.f91) [1, 1, 1, 1, 1, 1, 1, 1, 1, 0, 1, 0, 0, 1, 0, 0, 1, 1, 1, 1, 1, 0, 1]), [(8, vu s), (9, vf (us (Sp.lim V))), (10, vw t), (11, vf (us (Sp.lim R2))), (12, AV.ref 0 0 0 n), (13, vf (us (Sp.lim U))), (14, vi i), (16, vw (wu ((wu (wu (wu ((Sp.lim R2).getD (↑(Sp.lim V).length : Int).toNat default) * 1000000000) + wu ((Sp.lim R2).getD ((↑(Sp.lim V).length : Int) - 1).toNat default))).tdiv t))), (117, vb (decide (wu ((wu (wu (wu ((Sp.lim R2).getD (↑(Sp.lim V).length : Int).toNat default) * 1000000000) + wu ((Sp.lim R2).getD ((↑(Sp.lim V).length : Int) - 1).toNat default))).tdiv t) > 999999999)))], [⟨us o, 1, 0, false, true⟩], _, [((us (Sp.lim R2)).get?Internal (wi ((↑(us (Sp.lim V)).length : Int) - 1)).toNat = some (zNwD9 R2 V))], _⟩ (by kernel_rfl) (bc (beq_t (i13.2 d14)) (bc (i17.2 k18) (bc (i19.2 k20) (bc (i_neq.2 k26) b0)))) (qc (by (try rw [w2]); (try rw [w16]); all_goals exact (el_map k20)) q0) c0 ?_
      rcases xm (((Sp.lim R2).getD (↑(Sp.lim V).length : Int).toNat default * 1000000000 + (Sp.lim R2).getD ((↑(Sp.lim V).length : Int) - 1).toNat default).tdiv t > 999999999) with d30 | d30
      · have H := H.1 d30
        obtain ⟨k31, H⟩ := H
        exact path_wp (G := given kp91 [(23, 3, .call (vf (zNwD6 V)) none)] []) 1000 [true] ⟨(atC (cd Try.f91) [1, 1, 1, 1, 1, 1, 1, 1, 1, 0, 1, 0, 0, 1, 0, 0, 1, 1, 1, 1, 1, 1, 1, 0, 0, 0]), [(8, vu s), (9, vf (us (Sp.lim V))), (10, vw t), (11, vf (us (Sp.lim R2))), (12, AV.ref 0 0 0 n), (13, vf (us (Sp.lim U))), (14, vi i), (16, vw 999999999), (17, vf (zNwD6 V))], [⟨us o, 1, 0, false, true⟩], _, [], _⟩ (by kernel_rfl) (bc (beq_t (i29.2 d30)) b0) q0 (ce (@ev105 (false) (V) (999999999) k31) c0) (H)
      · have H := H.2 d30
        obtain ⟨k32, H⟩ := H
        have w33 : wv (((Sp.lim R2).getD (↑(Sp.lim V).length : Int).toNat default * 1000000000 + (Sp.lim R2).getD ((↑(Sp.lim V).length : Int) - 1).toNat default).tdiv t) = ((Sp.lim R2).getD (↑(Sp.lim V).length : Int).toNat default * 1000000000 + (Sp.lim R2).getD ((↑(Sp.lim V).length : Int) - 1).toNat default).tdiv t := wU32 k32
        obtain ⟨k34, H⟩ := H
        exact path_wp (G := given kp91 [(23, 3, .call (vf (zNwD7 V R2 t)) none)] []) 1000 [false] ⟨(atC (cd Try.f91) [1, 1, 1, 1, 1, 1, 1, 1, 1, 0, 1, 0, 0, 1, 0, 0, 1, 1, 1, 1, 1, 1, 1, 0, 0, 0]), [(8, vu s), (9, vf (us (Sp.lim V))), (10, vw t), (11, vf (us (Sp.lim R2))), (12, AV.ref 0 0 0 n), (13, vf (us (Sp.lim U))), (14, vi i), (16, vw (wu ((wu (wu (wu ((Sp.lim R2).getD (↑(Sp.lim V).length : Int).toNat default) * 1000000000) + wu ((Sp.lim R2).getD ((↑(Sp.lim V).length : Int) - 1).toNat default))).tdiv t))), (17, vf (zNwD7 V R2 t))], [⟨us o, 1, 0, false, true⟩], _, [], [pc 105 [vf (us (Sp.lim V)), vu (wv (wu ((wu (wu (wu ((Sp.lim R2).getD (↑(Sp.lim V).length : Int).toNat default) * 1000000000) + wu ((Sp.lim R2).getD ((↑(Sp.lim V).length : Int) - 1).toNat default))).tdiv t)))] (vf (zNwD7 V R2 t))]⟩ (by kernel_rfl) (bc (beq_f (fun h => d30 (i29.1 h))) b0) q0 (ce (by (try rw [w10]); (try rw [w12]); (try rw [w22]); (try rw [w24]); (try rw [w28]); (try rw [w33]); all_goals exact (@ev105 (false) (V) (((Sp.lim R2).getD (↑(Sp.lim V).length : Int).toNat default * 1000000000 + (Sp.lim R2).getD ((↑(Sp.lim V).length : Int) - 1).toNat default).tdiv t) k34)) c0) (by (try rw [w10]); (try rw [w12]); (try rw [w22]); (try rw [w24]); (try rw [w28]); all_goals exact H)
    · have H := H.2 d14
      obtain ⟨k36, H⟩ := H
      obtain ⟨k37, H⟩ := H
      have w38 : wu (((Sp.lim R2).getD (↑(Sp.lim V).length : Int).toNat default * 1000000000).tdiv t) = ((Sp.lim R2).getD (↑(Sp.lim V).length : Int).toNat default * 1000000000).tdiv t := wU64 k37
      have i39 : (decide (wu ((wu (wu ((Sp.lim R2).getD (↑(Sp.lim V).length : Int).toNat default) * 1000000000)).tdiv t) > 999999999)) = true ↔ (((Sp.lim R2).getD (↑(Sp.lim V).length : Int).toNat default * 1000000000).tdiv t > 999999999) := (by (try rw [w10]); (try rw [w12]); (try rw [w38]); all_goals exact i_dec)
      rcases xm (((Sp.lim R2).getD (↑(Sp.lim V).length : Int).toNat default * 1000000000).tdiv t > 999999999) with d40 | d40
      · have H := H.1 d40
        obtain ⟨k41, H⟩ := H
        exact path_wp (G := given kp91 [(23, 3, .call (vf (zNwD6 V)) none)] []) 1000 [false, true] ⟨(atC (cd Try.f91) [1, 1, 1, 1, 1, 1, 1, 1, 1, 0, 1, 0, 0, 1, 0, 0, 1, 1, 1, 1, 1, 1, 1, 0, 0, 0]), [(8, vu s), (9, vf (us (Sp.lim V))), (10, vw t), (11, vf (us (Sp.lim R2))), (12, AV.ref 0 0 0 n), (13, vf (us (Sp.lim U))), (14, vi i), (16, vw 999999999), (17, vf (zNwD6 V))], [⟨us o, 1, 0, false, true⟩], _, [], _⟩ (by kernel_rfl) (bc (beq_f (fun h => d14 (i13.1 h))) (bc (i_neq.2 k36) (bc (beq_t (i39.2 d40)) b0))) q0 (ce (@ev105 (false) (V) (999999999) k41) c0) (H)
      · have H := H.2 d40
        obtain ⟨k42, H⟩ := H
        have w43 : wv (((Sp.lim R2).getD (↑(Sp.lim V).length : Int).toNat default * 1000000000).tdiv t) = ((Sp.lim R2).getD (↑(Sp.lim V).length : Int).toNat default * 1000000000).tdiv t := wU32 k42
        obtain ⟨k44, H⟩ := H
        exact path_wp (G := given kp91 [(23, 3, .call (vf (zNwD8 V R2 t)) none)] []) 1000 [false, false] ⟨(atC (cd Try.f91) [1, 1, 1, 1, 1, 1, 1, 1, 1, 0, 1, 0, 0, 1, 0, 0, 1, 1, 1, 1, 1, 1, 1, 0, 0, 0]), [(8, vu s), (9, vf (us (Sp.lim V))), (10, vw t), (11, vf (us (Sp.lim R2))), (12, AV.ref 0 0 0 n), (13, vf (us (Sp.lim U))), (14, vi i), (16, vw (wu ((wu (wu ((Sp.lim R2).getD (↑(Sp.lim V).length : Int).toNat default) * 1000000000)).tdiv t))), (17, vf (zNwD8 V R2 t))], [⟨us o, 1, 0, false, true⟩], _, [], [pc 105 [vf (us (Sp.lim V)), vu (wv (wu ((wu (wu ((Sp.lim R2).getD (↑(Sp.lim V).length : Int).toNat default) * 1000000000)).tdiv t)))] (vf (zNwD8 V R2 t))]⟩ (by kernel_rfl) (bc (beq_f (fun h => d14 (i13.1 h))) (bc (i_neq.2 k36) (bc (beq_f (fun h => d40 (i39.1 h))) b0))) q0 (ce (by (try rw [w10]); (try rw [w12]); (try rw [w38]); (try rw [w43]); all_goals exact (@ev105 (false) (V) (((Sp.lim R2).getD (↑(Sp.lim V).length : Int).toNat default * 1000000000).tdiv t) k44)) c0) (by (try rw [w10]); (try rw [w12]); (try rw [w38]); all_goals exact H)
  · have H := H.2 d4
    have i45 : (decide ((↑(us (Sp.lim R2)).length : Int) >= (↑(us (Sp.lim V)).length : Int))) = true ↔ (zNwD11 R2 V) := (by (try rw [w1]); (try rw [w2]); all_goals exact i_dec)
    rcases xm (zNwD11 R2 V) with d46 | d46
    · have H := H.1 d46
      obtain ⟨k47, H⟩ := H
      have w48 : wi ((↑(Sp.lim V).length : Int) - 1) = (↑(Sp.lim V).length : Int) - 1 := wI64 k47
      have i49 : (decide (0 <= wi ((↑(us (Sp.lim V)).length : Int) - 1))) = true ↔ (0 <= (↑(Sp.lim V).length : Int) - 1) := (by (try rw [w2]); (try rw [w48]); all_goals exact i_dec)
      obtain ⟨k50, H⟩ := H
      have i51 : (decide ((wi ((↑(us (Sp.lim V)).length : Int) - 1)).toNat < (us (Sp.lim R2)).length)) = true ↔ (((↑(Sp.lim V).length : Int) - 1).toNat < (Sp.lim R2).length) := (by (try rw [w1]); (try rw [w2]); (try rw [w48]); all_goals exact i_dec)
      obtain ⟨k52, H⟩ := H
      obtain ⟨k53, H⟩ := H
      have w54 : wu ((Sp.lim R2).getD ((↑(Sp.lim V).length : Int) - 1).toNat default) = (Sp.lim R2).getD ((↑(Sp.lim V).length : Int) - 1).toNat default := wU64 k53
      obtain ⟨k55, H⟩ := H
      have w56 : wu (0 + (Sp.lim R2).getD ((↑(Sp.lim V).length : Int) - 1).toNat default) = 0 + (Sp.lim R2).getD ((↑(Sp.lim V).length : Int) - 1).toNat default := wU64 k55
      obtain ⟨k58, H⟩ := H
      obtain ⟨k59, H⟩ := H
      have w60 : wu ((0 + (Sp.lim R2).getD ((↑(Sp.lim V).length : Int) - 1).toNat default).tdiv t) = (0 + (Sp.lim R2).getD ((↑(Sp.lim V).length : Int) - 1).toNat default).tdiv t := wU64 k59
      have i61 : (decide (wu ((wu (0 + wu ((Sp.lim R2).getD ((↑(Sp.lim V).length : Int) - 1).toNat default))).tdiv t) > 999999999)) = true ↔ ((0 + (Sp.lim R2).getD ((↑(Sp.lim V).length : Int) - 1).toNat default).tdiv t > 999999999) := (by (try rw [w54]); (try rw [w56]); (try rw [w60]); all_goals exact i_dec)
      refine path_wp (G := given kp91 [(19, 6, .elem (zNwD9 R2 V))] []) 16 [false, true] ⟨(atC (cd Try.f91) [1, 1, 1, 1, 1, 1, 1, 1, 1, 0, 1, 0, 0, 1, 0, 0, 1, 1, 1, 1, 1, 0, 1]), [(8, vu s), (9, vf (us (Sp.lim V))), (10, vw t), (11, vf (us (Sp.lim R2))), (12, AV.ref 0 0 0 n), (13, vf (us (Sp.lim U))), (14, vi i), (16, vw (wu ((wu (0 + wu ((Sp.lim R2).getD ((↑(Sp.lim V).length : Int) - 1).toNat default))).tdiv t))), (117, vb (decide (wu ((wu (0 + wu ((Sp.lim R2).getD ((↑(Sp.lim V).length : Int) - 1).toNat default))).tdiv t) > 999999999)))], [⟨us o, 1, 0, false, true⟩], _, [((us (Sp.lim R2)).get?Internal (wi ((↑(us (Sp.lim V)).length : Int) - 1)).toNat = some (zNwD9 R2 V))], _⟩ (by kernel_rfl) (bc (beq_f (fun h => d4 (i3.1 h))) (bc (beq_t (i45.2 d46)) (bc (i49.2 k50) (bc (i51.2 k52) (bc (i_neq.2 k58) b0))))) (qc (by (try rw [w2]); (try rw [w48]); all_goals exact (el_map k52)) q0) c0 ?_
      rcases xm ((0 + (Sp.lim R2).getD ((↑(Sp.lim V).length : Int) - 1).toNat default).tdiv t > 999999999) with d62 | d62
      · have H := H.1 d62
        obtain ⟨k63, H⟩ := H
        exact path_wp (G := given kp91 [(23, 3, .call (vf (zNwD6 V)) none)] []) 1000 [true] ⟨(atC (cd Try.f91) [1, 1, 1, 1, 1, 1, 1, 1, 1, 0, 1, 0, 0, 1, 0, 0, 1, 1, 1, 1, 1, 1, 1, 0, 0, 0]), [(8, vu s), (9, vf (us (Sp.lim V))), (10, vw t), (11, vf (us (Sp.lim R2))), (12, AV.ref 0 0 0 n), (13, vf (us (Sp.lim U))), (14, vi i), (16, vw 999999999), (17, vf (zNwD6 V))], [⟨us o, 1, 0, false, true⟩], _, [], _⟩ (by kernel_rfl) (bc (beq_t (i61.2 d62)) b0) q0 (ce (@ev105 (false) (V) (999999999) k63) c0) (H)
      · have H := H.2 d62
        obtain ⟨k64, H⟩ := H
        have w65 : wv ((0 + (Sp.lim R2).getD ((↑(Sp.lim V).length : Int) - 1).toNat default).tdiv t) = (0 + (Sp.lim R2).getD ((↑(Sp.lim V).length : Int) - 1).toNat default).tdiv t := wU32 k64
        obtain ⟨k66, H⟩ := H
        exact path_wp (G := given kp91 [(23, 3, .call (vf (zNwD10 V R2 t)) none)] []) 1000 [false] ⟨(atC (cd Try.f91) [1, 1, 1, 1, 1, 1, 1, 1, 1, 0, 1, 0, 0, 1, 0, 0, 1, 1, 1, 1, 1, 1, 1, 0, 0, 0]), [(8, vu s), (9, vf (us (Sp.lim V))), (10, vw t), (11, vf (us (Sp.lim R2))), (12, AV.ref 0 0 0 n), (13, vf (us (Sp.lim U))), (14, vi i), (16, vw (wu ((wu (0 + wu ((Sp.lim R2).getD ((↑(Sp.lim V).length : Int) - 1).toNat default))).tdiv t))), (17, vf (zNwD10 V R2 t))], [⟨us o, 1, 0, false, true⟩], _, [], [pc 105 [vf (us (Sp.lim V)), vu (wv (wu ((wu (0 + wu ((Sp.lim R2).getD ((↑(Sp.lim V).length : Int) - 1).toNat default))).tdiv t)))] (vf (zNwD10 V R2 t))]⟩ (by kernel_rfl) (bc (beq_f (fun h => d62 (i61.1 h))) b0) q0 (ce (by (try rw [w54]); (try rw [w56]); (try rw [w60]); (try rw [w65]); all_goals exact (@ev105 (false) (V) ((0 + (Sp.lim R2).getD ((↑(Sp.lim V).length : Int) - 1).toNat default).tdiv t) k66)) c0) (by (try rw [w54]); (try rw [w56]); (try rw [w60]); all_goals exact H)
    · have H := H.2 d46
      obtain ⟨k68, H⟩ := H
      obtain ⟨k69, H⟩ := H
      have w70 : wu (Int.tdiv 0 t) = Int.tdiv 0 t := wU64 k69
      have i71 : (decide (wu (Int.tdiv 0 t) > 999999999)) = true ↔ (Int.tdiv 0 t > 999999999) := (by (try rw [w70]); all_goals exact i_dec)
      rcases xm (Int.tdiv 0 t > 999999999) with d72 | d72
      · have H := H.1 d72
        obtain ⟨k73, H⟩ := H
        exact path_wp (G := given kp91 [(23, 3, .call (vf (zNwD6 V)) none)] []) 1000 [false, false, true] ⟨(atC (cd Try.f91) [1, 1, 1, 1, 1, 1, 1, 1, 1, 0, 1, 0, 0, 1, 0, 0, 1, 1, 1, 1, 1, 1, 1, 0, 0, 0]), [(8, vu s), (9, vf (us (Sp.lim V))), (10, vw t), (11, vf (us (Sp.lim R2))), (12, AV.ref 0 0 0 n), (13, vf (us (Sp.lim U))), (14, vi i), (16, vw 999999999), (17, vf (zNwD6 V))], [⟨us o, 1, 0, false, true⟩], _, [], _⟩ (by kernel_rfl) (bc (beq_f (fun h => d4 (i3.1 h))) (bc (beq_f (fun h => d46 (i45.1 h))) (bc (i_neq.2 k68) (bc (beq_t (i71.2 d72)) b0)))) q0 (ce (@ev105 (false) (V) (999999999) k73) c0) (H)
      · have H := H.2 d72
        obtain ⟨k74, H⟩ := H
        have w75 : wv (Int.tdiv 0 t) = Int.tdiv 0 t := wU32 k74
        obtain ⟨k76, H⟩ := H
        exact path_wp (G := given kp91 [(23, 3, .call (vf (zNwD12 V t)) none)] []) 1000 [false, false, false] ⟨(atC (cd Try.f91) [1, 1, 1, 1, 1, 1, 1, 1, 1, 0, 1, 0, 0, 1, 0, 0, 1, 1, 1, 1, 1, 1, 1, 0, 0, 0]), [(8, vu s), (9, vf (us (Sp.lim V))), (10, vw t), (11, vf (us (Sp.lim R2))), (12, AV.ref 0 0 0 n), (13, vf (us (Sp.lim U))), (14, vi i), (16, vw (wu (Int.tdiv 0 t))), (17, vf (zNwD12 V t))], [⟨us o, 1, 0, false, true⟩], _, [], [pc 105 [vf (us (Sp.lim V)), vu (wv (wu (Int.tdiv 0 t)))] (vf (zNwD12 V t))]⟩ (by kernel_rfl) (bc (beq_f (fun h => d4 (i3.1 h))) (bc (beq_f (fun h => d46 (i45.1 h))) (bc (i_neq.2 k68) (bc (beq_f (fun h => d72 (i71.1 h))) b0)))) q0 (ce (by (try rw [w70]); (try rw [w75]); all_goals exact (@ev105 (false) (V) (Int.tdiv 0 t) k76)) c0) (by (try rw [w70]); all_goals exact H)
theorem rPartsH (V U : Nat) (s t i : Int) (n : Nat) (o : List Int) (R : Nat)  (dq : AV) (H :
    ((i >= 0) -> False) /\
    (¬(i >= 0) -> (0 <= (↑(Sp.lim R).length : Int)) /\
      ((↑(Sp.lim R).length : Int) * 4 <= 1099511627776) /\
      ((↑(Sp.lim R).length : Int) <= 1099511627776) /\
      (-9223372036854775808 <= (↑(Sp.lim R).length : Int) - 1 /\ (↑(Sp.lim R).length : Int) - 1 <= 9223372036854775807) /\
      rPartsL_at (R) (s) (0) ((↑(Sp.lim R).length : Int) - 1) (n) (o) (List.replicate (↑(Sp.lim R).length : Int).toNat (0 : Int)) (PureQ dq))) :
  rPartsH_at V U s t i n o R (PureQ dq) := by
  unfold rPartsH_at
  rcases xm (i >= 0) with d2 | d2
  · have H := H.1 d2
    exact False.elim H
  · have H := H.2 d2
    have w3 : (us (Sp.lim R)).length = (Sp.lim R).length := List.length_map ..
    have i4 : (decide (0 <= (↑(us (Sp.lim R)).length : Int))) = true ↔ (0 <= (↑(Sp.lim R).length : Int)) := (by (try rw [w3]); all_goals exact i_dec)
    obtain ⟨k5, H⟩ := H
    have i6 : (decide ((↑(us (Sp.lim R)).length : Int) <= (↑(us (Sp.lim R)).length : Int))) = true ↔ ((↑(Sp.lim R).length : Int) <= (↑(Sp.lim R).length : Int)) := (by (try rw [w3]); all_goals exact i_dec)
    have i7 : (decide ((↑(us (Sp.lim R)).length : Int) * 4 <= 1099511627776)) = true ↔ ((↑(Sp.lim R).length : Int) * 4 <= 1099511627776) := (by (try rw [w3]); all_goals exact i_dec)
    obtain ⟨k8, H⟩ := H
    have i9 : (decide ((↑(us (Sp.lim R)).length : Int) <= 1099511627776)) = true ↔ ((↑(Sp.lim R).length : Int) <= 1099511627776) := (by (try rw [w3]); all_goals exact i_dec)
    obtain ⟨k10, H⟩ := H
    have w11 : List.replicate (↑(Sp.lim R).length : Int).toNat (vu 0) = us (List.replicate (↑(Sp.lim R).length : Int).toNat (0 : Int)) := (lm_rep rfl)
    obtain ⟨k12, H⟩ := H
    have w13 : wi ((↑(Sp.lim R).length : Int) - 1) = (↑(Sp.lim R).length : Int) - 1 := wI64 k12
    exact path_wp (G := given kp91 [] []) 1000 [false] ⟨(atC (cd Try.f91) [1, 1, 1, 1, 1, 1, 1, 1, 1, 1, 1, 1, 0, 1, 0, 0]), [(8, vu s), (11, vf (us (Sp.lim R))), (12, AV.ref 0 0 0 n), (18, vw 0), (19, AV.row 1 0), (20, vi (wi ((↑(us (Sp.lim R)).length : Int) - 1)))], [⟨us o, 1, 0, false, true⟩, ⟨List.replicate (↑(us (Sp.lim R)).length : Int).toNat (vu 0), 1, 0, false, true⟩], [(decide (i >= 0)) == false, decide (0 <= (↑(us (Sp.lim R)).length : Int)), decide ((↑(us (Sp.lim R)).length : Int) <= (↑(us (Sp.lim R)).length : Int)), decide ((↑(us (Sp.lim R)).length : Int) * 4 <= 1099511627776), decide ((↑(us (Sp.lim R)).length : Int) <= 1099511627776)], [], _⟩ (by kernel_rfl) (bc (beq_f (fun h => d2 (i_dec.1 h))) (bc (i4.2 k5) (bc (i6.2 (by omega)) (bc (i7.2 k8) (bc (i9.2 k10) b0))))) q0 c0 (by (try rw [w3]); (try rw [w11]); (try rw [w13]); all_goals exact H)
theorem rPartsG (V U : Nat) (s t i : Int) (n : Nat) (o : List Int) (R p : Nat) (g : Int)  (dq : AV) (H :
    (Sp.short (Sp.cnt p) /\ Sp.short (Sp.cnt R)) /\
    ((Sp.sgnI ((↑p : Int) - (↑R : Int)) > 0) -> (0 <= g - 1 /\ g - 1 <= 18446744073709551615) /\
      (Sp.short (Sp.cnt p) /\ V <= p) /\
      rPartsG_at (V) (U) (s) (t) (i) (n) (o) (R) (p - V) (g - 1) (PureQ dq)) /\
    (¬(Sp.sgnI ((↑p : Int) - (↑R : Int)) > 0) -> (Sp.short (Sp.cnt R) /\ p <= R) /\
      (0 <= i) /\
      (i.toNat < n) /\
      (0 + i.toNat < o.length) /\
      (0 <= g /\ g <= 4294967295) /\
      (-9223372036854775808 <= i - 1 /\ i - 1 <= 9223372036854775807) /\
      rPartsH_at (V) (U) (s) (t) (i - 1) (n) (o.set (0 + i.toNat) g) (R - p) (PureQ dq))) :
  rPartsG_at V U s t i n o R p g (PureQ dq) := by
  unfold rPartsG_at
  obtain ⟨k1, H⟩ := H
  refine path_wp (G := given kp91 [(24, 2, .call (vi (Sp.sgnI ((↑p : Int) - (↑R : Int)))) none)] []) 3 [] ⟨(atC (cd Try.f91) [1, 1, 1, 1, 1, 1, 1, 1, 1, 0, 1, 0, 0, 1, 0, 0, 1, 1, 1, 1, 1, 1, 1, 0, 0, 0, 0, 1]), [(8, vu s), (9, vf (us (Sp.lim V))), (10, vw t), (11, vf (us (Sp.lim R))), (12, AV.ref 0 0 0 n), (13, vf (us (Sp.lim U))), (14, vi i), (16, vw g), (17, vf (us (Sp.lim p))), (125, vb (decide (Sp.sgnI ((↑p : Int) - (↑R : Int)) > 0)))], [⟨us o, 1, 0, false, true⟩], _, [], _⟩ (by kernel_rfl) b0 q0 (ce (@ev71_a (false) (false) (p) (R) k1) c0) ?_
  rcases xm (Sp.sgnI ((↑p : Int) - (↑R : Int)) > 0) with d3 | d3
  · have H := H.1 d3
    obtain ⟨k4, H⟩ := H
    have w5 : wu (g - 1) = g - 1 := wU64 k4
    obtain ⟨k6, H⟩ := H
    exact path_wp (G := given kp91 [(26, 2, .call (vf (us (Sp.lim (p - V)))) none)] []) 1000 [true] ⟨(atC (cd Try.f91) [1, 1, 1, 1, 1, 1, 1, 1, 1, 0, 1, 0, 0, 1, 0, 0, 1, 1, 1, 1, 1, 1, 1, 0, 0, 0]), [(8, vu s), (9, vf (us (Sp.lim V))), (10, vw t), (11, vf (us (Sp.lim R))), (12, AV.ref 0 0 0 n), (13, vf (us (Sp.lim U))), (14, vi i), (16, vw (wu (g - 1))), (17, vf (us (Sp.lim (p - V))))], [⟨us o, 1, 0, false, true⟩], _, [], _⟩ (by kernel_rfl) (bc (beq_t (i_dec.2 d3)) b0) q0 (ce (@ev97_a (false) (false) (p) (V) k6) c0) (by (try rw [w5]); all_goals exact H)
  · have H := H.2 d3
    obtain ⟨k7, H⟩ := H
    obtain ⟨k9, H⟩ := H
    obtain ⟨k11, H⟩ := H
    obtain ⟨k12, H⟩ := H
    obtain ⟨k13, H⟩ := H
    have w14 : wv g = g := wU32 k13
    have w15 : (us o).set (0 + i.toNat) (vu g) = us (o.set (0 + i.toNat) g) := (lm_set rfl rfl)
    obtain ⟨k16, H⟩ := H
    have w17 : wi (i - 1) = i - 1 := wI64 k16
    exact path_wp (G := given kp91 [(27, 2, .call (vf (us (Sp.lim (R - p)))) none), (28, 5, .elem (vu (o.getD (0 + i.toNat) default)))] []) 1000 [false] ⟨(atC (cd Try.f91) [1, 1, 1, 1, 1, 1, 1, 1, 1, 0, 1, 0, 0]), [(8, vu s), (9, vf (us (Sp.lim V))), (10, vw t), (11, vf (us (Sp.lim (R - p)))), (12, AV.ref 0 0 0 n), (13, vf (us (Sp.lim U))), (14, vi (wi (i - 1)))], [⟨(us o).set (0 + i.toNat) (vu (wv g)), 1, 0, false, true⟩], _, [((us o).get?Internal (0 + i.toNat) = some (vu (o.getD (0 + i.toNat) default)))], _⟩ (by kernel_rfl) (bc (beq_f (fun h => d3 (i_dec.1 h))) (bc rfl (bc (i_dec.2 k9) (bc (i_dec.2 k11) (bc rfl b0))))) (qc (el_map k12) q0) (ce (@ev97_a (false) (false) (R) (p) k7) c0) (by (try rw [w14]); (try rw [w15]); (try rw [w17]); all_goals exact H)
noncomputable abbrev zNwD13 (n : Nat) (o : List Int) := us (Sp.trimL (List.take n (List.drop 0 o)))
theorem rPartsL0 (s : Int) (n : Nat) (o : List Int)  (dq : AV) (H :
    (Sp.short (List.take n (List.drop 0 o)).length) /\
    ∃ (l1 : List (Int)),
    (Ev M1 (Conf.pure 90 [vf []]) (vf (us l1)) []) /\
    Weak (tu [vf (us (Sp.trimL (List.take n (List.drop 0 o)))), vf (us l1)]) dq) :
  rPartsL0_at s n o (PureQ dq) := by
  unfold rPartsL0_at
  have w1 : List.drop 0 (us o) = us (List.drop 0 o) := (lm_drop rfl)
  have w2 : List.take n (us (List.drop 0 o)) = us (List.take n (List.drop 0 o)) := (lm_take rfl)
  obtain ⟨k3, H⟩ := H
  obtain ⟨l1, H⟩ := H
  obtain ⟨k4, H⟩ := H
  exact path_rq (G := given kp91 [(37, 1, .call (vf (zNwD13 n o)) none), (37, 3, .call (vf (us l1)) none)] []) 1000 [false] (calls := [pc 90 [vf (List.take n (List.drop 0 (us o)))] (vf (zNwD13 n o)), pc 90 [vf []] (vf (us l1))]) (tu [vf (zNwD13 n o), vf (us l1)]) (by kernel_rfl) (bc rfl (bc rfl (bc rfl b0))) q0 (ce (by (try rw [w1]); (try rw [w2]); all_goals exact (@ev90_d (false) (List.take n (List.drop 0 o)) k3)) (ce k4 c0)) H
noncomputable abbrev zNwD14 (n : Nat) (o : List Int) := us (Sp.trimL (List.take n (List.drop 0 o)))
theorem rPartsL (R : Nat) (s c i : Int) (n : Nat) (o l : List Int)  (dq : AV) (H :
    ((i >= 0) -> (0 <= i) /\
      (i.toNat < (Sp.lim R).length) /\
      (0 <= c * 1000000000 /\ c * 1000000000 <= 18446744073709551615) /\
      (0 <= (Sp.lim R).getD i.toNat default /\ (Sp.lim R).getD i.toNat default <= 18446744073709551615) /\
      (0 <= c * 1000000000 + (Sp.lim R).getD i.toNat default /\ c * 1000000000 + (Sp.lim R).getD i.toNat default <= 18446744073709551615) /\
      (0 <= s /\ s <= 18446744073709551615) /\
      (¬s = 0) /\
      (i.toNat < l.length) /\
      (0 <= (c * 1000000000 + (Sp.lim R).getD i.toNat default).tdiv s /\ (c * 1000000000 + (Sp.lim R).getD i.toNat default).tdiv s <= 18446744073709551615) /\
      (0 <= (c * 1000000000 + (Sp.lim R).getD i.toNat default).tdiv s /\ (c * 1000000000 + (Sp.lim R).getD i.toNat default).tdiv s <= 4294967295) /\
      (-9223372036854775808 <= i - 1 /\ i - 1 <= 9223372036854775807) /\
      rPartsL_at (R) (s) ((c * 1000000000 + (Sp.lim R).getD i.toNat default).tmod s) (i - 1) (n) (o) (l.set i.toNat ((c * 1000000000 + (Sp.lim R).getD i.toNat default).tdiv s)) (PureQ dq)) /\
    (¬(i >= 0) -> (Sp.short (List.take n (List.drop 0 o)).length) /\
      (Sp.short l.length) /\
      Weak (tu [vf (us (Sp.trimL (List.take n (List.drop 0 o)))), vf (us (Sp.trimL l))]) dq)) :
  rPartsL_at R s c i n o l (PureQ dq) := by
  unfold rPartsL_at
  rcases xm (i >= 0) with d2 | d2
  · have H := H.1 d2
    obtain ⟨k4, H⟩ := H
    have w5 : (us (Sp.lim R)).length = (Sp.lim R).length := List.length_map ..
    have i6 : (decide (i.toNat < (us (Sp.lim R)).length)) = true ↔ (i.toNat < (Sp.lim R).length) := (by (try rw [w5]); all_goals exact i_dec)
    obtain ⟨k7, H⟩ := H
    obtain ⟨k8, H⟩ := H
    have w9 : wu (c * 1000000000) = c * 1000000000 := wU64 k8
    obtain ⟨k10, H⟩ := H
    have w11 : wu ((Sp.lim R).getD i.toNat default) = (Sp.lim R).getD i.toNat default := wU64 k10
    obtain ⟨k12, H⟩ := H
    have w13 : wu (c * 1000000000 + (Sp.lim R).getD i.toNat default) = c * 1000000000 + (Sp.lim R).getD i.toNat default := wU64 k12
    obtain ⟨k14, H⟩ := H
    have w15 : wu s = s := wU64 k14
    have i16 : (!wu s == 0) = true ↔ (¬s = 0) := (by (try rw [w15]); all_goals exact i_neq)
    obtain ⟨k17, H⟩ := H
    have w19 : (us l).length = l.length := List.length_map ..
    have i20 : (decide (i.toNat < (us l).length)) = true ↔ (i.toNat < l.length) := (by (try rw [w19]); all_goals exact i_dec)
    obtain ⟨k21, H⟩ := H
    obtain ⟨k22, H⟩ := H
    have w23 : wu ((c * 1000000000 + (Sp.lim R).getD i.toNat default).tdiv s) = (c * 1000000000 + (Sp.lim R).getD i.toNat default).tdiv s := wU64 k22
    obtain ⟨k24, H⟩ := H
    have w25 : wv ((c * 1000000000 + (Sp.lim R).getD i.toNat default).tdiv s) = (c * 1000000000 + (Sp.lim R).getD i.toNat default).tdiv s := wU32 k24
    have w26 : (us l).set i.toNat (vu ((c * 1000000000 + (Sp.lim R).getD i.toNat default).tdiv s)) = us (l.set i.toNat ((c * 1000000000 + (Sp.lim R).getD i.toNat default).tdiv s)) := (lm_set rfl rfl)
    have i27 : (!wu s == 0) = true ↔ (¬s = 0) := (by (try rw [w15]); all_goals exact i_neq)
    obtain ⟨k28, H⟩ := H
    have w29 : wi (i - 1) = i - 1 := wI64 k28
    exact path_wp (G := given kp91 [(34, 5, .elem (vu ((Sp.lim R).getD i.toNat default))), (35, 8, .elem (vu (l.getD i.toNat default)))] []) 1000 [true] ⟨(atC (cd Try.f91) [1, 1, 1, 1, 1, 1, 1, 1, 1, 1, 1, 1, 0, 1, 0, 0]), [(8, vu s), (11, vf (us (Sp.lim R))), (12, AV.ref 0 0 0 n), (18, vw ((wu (wu (c * 1000000000) + wu ((Sp.lim R).getD i.toNat default))).tmod (wu s))), (19, AV.row 1 0), (20, vi (wi (i - 1)))], [⟨us o, 1, 0, false, true⟩, ⟨(us l).set i.toNat (vu (wv (wu ((wu (wu (c * 1000000000) + wu ((Sp.lim R).getD i.toNat default))).tdiv (wu s))))), 1, 0, false, true⟩], _, [((us (Sp.lim R)).get?Internal i.toNat = some (vu ((Sp.lim R).getD i.toNat default))), ((us l).get?Internal i.toNat = some (vu (l.getD i.toNat default)))], _⟩ (by kernel_rfl) (bc (beq_t (i_dec.2 d2)) (bc (i_dec.2 k4) (bc (i6.2 k7) (bc (i16.2 k17) (bc rfl (bc (i_dec.2 k4) (bc (i20.2 k21) (bc rfl (bc (i27.2 k17) b0))))))))) (qc (el_map k7) (qc (el_map k21) q0)) c0 (by (try rw [w9]); (try rw [w11]); (try rw [w13]); (try rw [w15]); (try rw [w23]); (try rw [w25]); (try rw [w26]); (try rw [w29]); all_goals exact H)
  · have H := H.2 d2
    have w30 : List.drop 0 (us o) = us (List.drop 0 o) := (lm_drop rfl)
    have w31 : List.take n (us (List.drop 0 o)) = us (List.take n (List.drop 0 o)) := (lm_take rfl)
    obtain ⟨k32, H⟩ := H
    obtain ⟨k33, H⟩ := H
    exact path_rq (G := given kp91 [(37, 1, .call (vf (zNwD14 n o)) none), (37, 3, .call (vf (us (Sp.trimL l))) none)] []) 1000 [false] (calls := [pc 90 [vf (List.take n (List.drop 0 (us o)))] (vf (zNwD14 n o)), pc 90 [vf (us l)] (vf (us (Sp.trimL l)))]) (tu [vf (zNwD14 n o), vf (us (Sp.trimL l))]) (by kernel_rfl) (bc (beq_f (fun h => d2 (i_dec.1 h))) (bc rfl (bc rfl b0))) q0 (ce (by (try rw [w30]); (try rw [w31]); all_goals exact (@ev90_d (false) (List.take n (List.drop 0 o)) k32)) (ce (@ev90_d (false) (l) k33) c0)) H
end Go.Av

namespace Go.Av
open Go.Proofs
theorem scl_facts1 {D : Nat} (h : 1 ≤ Sp.cnt D) : 0 < Sp.scl D ∧ Sp.scl D < 1000000000 ∧ Sp.fits (Sp.cnt D) (D * Sp.scl D) ∧ 1000000000 ^ (Sp.cnt D - 1) ≤ D * Sp.scl D ∧ D / 1000000000 ^ (Sp.cnt D - 1) < 1000000000 := by
  have hf := fits_self D
  have ht : D / 1000000000 ^ (Sp.cnt D - 1) < 1000000000 := fits_top (by rw [show Sp.cnt D - 1 + 1 = Sp.cnt D by omega]; exact hf)
  have hnf : ¬Sp.fits (Sp.cnt D - 1) D := fun k => by have := fits_cnt.1 k; omega
  have hge : 1000000000 ^ (Sp.cnt D - 1) ≤ D := by unfold Sp.fits at hnf; omega
  have ht1 : 0 < D / 1000000000 ^ (Sp.cnt D - 1) := Nat.div_pos hge (Nat.pow_pos (by omega))
  have hlt : D < 1000000000 ^ (Sp.cnt D - 1) * (D / 1000000000 ^ (Sp.cnt D - 1) + 1) := Nat.lt_mul_div_succ D (Nat.pow_pos (by omega))
  have hp : 1000000000 ^ Sp.cnt D = 1000000000 ^ (Sp.cnt D - 1) * 1000000000 := by rw [← Nat.pow_succ]; congr 1; omega
  have hs1 : 0 < Sp.scl D := Nat.div_pos (by omega) (by omega)
  have hs2 : Sp.scl D * (D / 1000000000 ^ (Sp.cnt D - 1) + 1) ≤ 1000000000 := Nat.div_mul_le_self _ _
  unfold Sp.fits
  rw [hp]
  generalize D / 1000000000 ^ (Sp.cnt D - 1) = t at ht1 ht hlt hs2
  generalize 1000000000 ^ (Sp.cnt D - 1) = P at hge hlt
  have hs3 : Sp.scl D < 1000000000 := by
    have : Sp.scl D * 2 ≤ Sp.scl D * (t + 1) := Nat.mul_le_mul_left _ (by omega)
    omega
  generalize Sp.scl D = s at hs1 hs2 hs3
  refine ⟨hs1, hs3, ?_, ?_, ht⟩
  · have h1 : D * s < P * (t + 1) * s := Nat.mul_lt_mul_of_pos_right hlt hs1
    have h2 : P * (t + 1) * s = P * (s * (t + 1)) := by grind
    have h3 : P * (s * (t + 1)) ≤ P * 1000000000 := Nat.mul_le_mul_left _ hs2
    omega
  · have : D * 1 ≤ D * s := Nat.mul_le_mul_left _ hs1
    omega
theorem top_facts {V : Nat} (hV : V ≠ 0) : 1 ≤ Sp.cnt V ∧ 1 ≤ V / 1000000000 ^ (Sp.cnt V - 1) ∧ V / 1000000000 ^ (Sp.cnt V - 1) < 1000000000 := by
  have hm : 1 ≤ Sp.cnt V := by
    have := cnt_eq_zero (v := V)
    omega
  have hnf : ¬Sp.fits (Sp.cnt V - 1) V := fun k => by have := fits_cnt.1 k; omega
  have hge : 1000000000 ^ (Sp.cnt V - 1) ≤ V := by unfold Sp.fits at hnf; omega
  exact ⟨hm, Nat.div_pos hge (Nat.pow_pos (by omega)), fits_top (by rw [show Sp.cnt V - 1 + 1 = Sp.cnt V by omega]; exact fits_self V)⟩
theorem fits_row {V R : Nat} (h : R < V * 1000000000) : Sp.fits (Sp.cnt V + 1) R := by
  have h1 := fits_self V
  unfold Sp.fits at h1 ⊢
  rw [Nat.pow_succ]
  exact Nat.lt_of_lt_of_le h (Nat.mul_le_mul_right _ (Nat.le_of_lt h1))
theorem partsTail {V R2 T : Nat} {t : Int} {G : Nat → Int → Prop} (hV : V ≠ 0) (hc : Sp.cnt V ≤ 400000) (hT : T = V / 1000000000 ^ (Sp.cnt V - 1)) (ht : t = (T : Int)) (hR : R2 < V * 1000000000)
    (hG : ∀ g : Nat, R2 / V ≤ g → g < 1000000000 → G (V * g) (g : Int)) :
      (((↑(Sp.lim R2).length : Int) > (↑(Sp.lim V).length : Int)) → (0 ≤ (↑(Sp.lim V).length : Int)) ∧
        ((↑(Sp.lim V).length : Int).toNat < (Sp.lim R2).length) ∧
        (0 ≤ (Sp.lim R2).getD (↑(Sp.lim V).length : Int).toNat default ∧ (Sp.lim R2).getD (↑(Sp.lim V).length : Int).toNat default ≤ 18446744073709551615) ∧
        (0 ≤ (Sp.lim R2).getD (↑(Sp.lim V).length : Int).toNat default * 1000000000 ∧ (Sp.lim R2).getD (↑(Sp.lim V).length : Int).toNat default * 1000000000 ≤ 18446744073709551615) ∧
        (((↑(Sp.lim R2).length : Int) ≥ (↑(Sp.lim V).length : Int)) → (-9223372036854775808 ≤ (↑(Sp.lim V).length : Int) - 1 ∧ (↑(Sp.lim V).length : Int) - 1 ≤ 9223372036854775807) ∧
          (0 ≤ (↑(Sp.lim V).length : Int) - 1) ∧
          (((↑(Sp.lim V).length : Int) - 1).toNat < (Sp.lim R2).length) ∧
          (0 ≤ (Sp.lim R2).getD ((↑(Sp.lim V).length : Int) - 1).toNat default ∧ (Sp.lim R2).getD ((↑(Sp.lim V).length : Int) - 1).toNat default ≤ 18446744073709551615) ∧
          (0 ≤ (Sp.lim R2).getD (↑(Sp.lim V).length : Int).toNat default * 1000000000 + (Sp.lim R2).getD ((↑(Sp.lim V).length : Int) - 1).toNat default ∧ (Sp.lim R2).getD (↑(Sp.lim V).length : Int).toNat default * 1000000000 + (Sp.lim R2).getD ((↑(Sp.lim V).length : Int) - 1).toNat default ≤ 18446744073709551615) ∧
          (¬t = 0) ∧
          (0 ≤ ((Sp.lim R2).getD (↑(Sp.lim V).length : Int).toNat default * 1000000000 + (Sp.lim R2).getD ((↑(Sp.lim V).length : Int) - 1).toNat default).tdiv t ∧ ((Sp.lim R2).getD (↑(Sp.lim V).length : Int).toNat default * 1000000000 + (Sp.lim R2).getD ((↑(Sp.lim V).length : Int) - 1).toNat default).tdiv t ≤ 18446744073709551615) ∧
          ((((Sp.lim R2).getD (↑(Sp.lim V).length : Int).toNat default * 1000000000 + (Sp.lim R2).getD ((↑(Sp.lim V).length : Int) - 1).toNat default).tdiv t > 999999999) → (Sp.okB (↑V : Int) ∧ Sp.dig 999999999) ∧
            G (V * Int.toNat 999999999) (999999999)) ∧
          (¬(((Sp.lim R2).getD (↑(Sp.lim V).length : Int).toNat default * 1000000000 + (Sp.lim R2).getD ((↑(Sp.lim V).length : Int) - 1).toNat default).tdiv t > 999999999) → (0 ≤ ((Sp.lim R2).getD (↑(Sp.lim V).length : Int).toNat default * 1000000000 + (Sp.lim R2).getD ((↑(Sp.lim V).length : Int) - 1).toNat default).tdiv t ∧ ((Sp.lim R2).getD (↑(Sp.lim V).length : Int).toNat default * 1000000000 + (Sp.lim R2).getD ((↑(Sp.lim V).length : Int) - 1).toNat default).tdiv t ≤ 4294967295) ∧
            (Sp.okB (↑V : Int) ∧ Sp.dig (((Sp.lim R2).getD (↑(Sp.lim V).length : Int).toNat default * 1000000000 + (Sp.lim R2).getD ((↑(Sp.lim V).length : Int) - 1).toNat default).tdiv t)) ∧
            G (V * (((Sp.lim R2).getD (↑(Sp.lim V).length : Int).toNat default * 1000000000 + (Sp.lim R2).getD ((↑(Sp.lim V).length : Int) - 1).toNat default).tdiv t).toNat) (((Sp.lim R2).getD (↑(Sp.lim V).length : Int).toNat default * 1000000000 + (Sp.lim R2).getD ((↑(Sp.lim V).length : Int) - 1).toNat default).tdiv t))) ∧
        (¬((↑(Sp.lim R2).length : Int) ≥ (↑(Sp.lim V).length : Int)) → (¬t = 0) ∧
          (0 ≤ ((Sp.lim R2).getD (↑(Sp.lim V).length : Int).toNat default * 1000000000).tdiv t ∧ ((Sp.lim R2).getD (↑(Sp.lim V).length : Int).toNat default * 1000000000).tdiv t ≤ 18446744073709551615) ∧
          ((((Sp.lim R2).getD (↑(Sp.lim V).length : Int).toNat default * 1000000000).tdiv t > 999999999) → (Sp.okB (↑V : Int) ∧ Sp.dig 999999999) ∧
            G (V * Int.toNat 999999999) (999999999)) ∧
          (¬(((Sp.lim R2).getD (↑(Sp.lim V).length : Int).toNat default * 1000000000).tdiv t > 999999999) → (0 ≤ ((Sp.lim R2).getD (↑(Sp.lim V).length : Int).toNat default * 1000000000).tdiv t ∧ ((Sp.lim R2).getD (↑(Sp.lim V).length : Int).toNat default * 1000000000).tdiv t ≤ 4294967295) ∧
            (Sp.okB (↑V : Int) ∧ Sp.dig (((Sp.lim R2).getD (↑(Sp.lim V).length : Int).toNat default * 1000000000).tdiv t)) ∧
            G (V * (((Sp.lim R2).getD (↑(Sp.lim V).length : Int).toNat default * 1000000000).tdiv t).toNat) (((Sp.lim R2).getD (↑(Sp.lim V).length : Int).toNat default * 1000000000).tdiv t)))) ∧
      (¬((↑(Sp.lim R2).length : Int) > (↑(Sp.lim V).length : Int)) → (((↑(Sp.lim R2).length : Int) ≥ (↑(Sp.lim V).length : Int)) → (-9223372036854775808 ≤ (↑(Sp.lim V).length : Int) - 1 ∧ (↑(Sp.lim V).length : Int) - 1 ≤ 9223372036854775807) ∧
          (0 ≤ (↑(Sp.lim V).length : Int) - 1) ∧
          (((↑(Sp.lim V).length : Int) - 1).toNat < (Sp.lim R2).length) ∧
          (0 ≤ (Sp.lim R2).getD ((↑(Sp.lim V).length : Int) - 1).toNat default ∧ (Sp.lim R2).getD ((↑(Sp.lim V).length : Int) - 1).toNat default ≤ 18446744073709551615) ∧
          (0 ≤ 0 + (Sp.lim R2).getD ((↑(Sp.lim V).length : Int) - 1).toNat default ∧ 0 + (Sp.lim R2).getD ((↑(Sp.lim V).length : Int) - 1).toNat default ≤ 18446744073709551615) ∧
          (¬t = 0) ∧
          (0 ≤ (0 + (Sp.lim R2).getD ((↑(Sp.lim V).length : Int) - 1).toNat default).tdiv t ∧ (0 + (Sp.lim R2).getD ((↑(Sp.lim V).length : Int) - 1).toNat default).tdiv t ≤ 18446744073709551615) ∧
          (((0 + (Sp.lim R2).getD ((↑(Sp.lim V).length : Int) - 1).toNat default).tdiv t > 999999999) → (Sp.okB (↑V : Int) ∧ Sp.dig 999999999) ∧
            G (V * Int.toNat 999999999) (999999999)) ∧
          (¬((0 + (Sp.lim R2).getD ((↑(Sp.lim V).length : Int) - 1).toNat default).tdiv t > 999999999) → (0 ≤ (0 + (Sp.lim R2).getD ((↑(Sp.lim V).length : Int) - 1).toNat default).tdiv t ∧ (0 + (Sp.lim R2).getD ((↑(Sp.lim V).length : Int) - 1).toNat default).tdiv t ≤ 4294967295) ∧
            (Sp.okB (↑V : Int) ∧ Sp.dig ((0 + (Sp.lim R2).getD ((↑(Sp.lim V).length : Int) - 1).toNat default).tdiv t)) ∧
            G (V * ((0 + (Sp.lim R2).getD ((↑(Sp.lim V).length : Int) - 1).toNat default).tdiv t).toNat) ((0 + (Sp.lim R2).getD ((↑(Sp.lim V).length : Int) - 1).toNat default).tdiv t))) ∧
        (¬((↑(Sp.lim R2).length : Int) ≥ (↑(Sp.lim V).length : Int)) → (¬t = 0) ∧
          (0 ≤ Int.tdiv 0 t ∧ Int.tdiv 0 t ≤ 18446744073709551615) ∧
          ((Int.tdiv 0 t > 999999999) → (Sp.okB (↑V : Int) ∧ Sp.dig 999999999) ∧
            G (V * Int.toNat 999999999) (999999999)) ∧
          (¬(Int.tdiv 0 t > 999999999) → (0 ≤ Int.tdiv 0 t ∧ Int.tdiv 0 t ≤ 4294967295) ∧
            (Sp.okB (↑V : Int) ∧ Sp.dig (Int.tdiv 0 t)) ∧
            G (V * (Int.tdiv 0 t).toNat) (Int.tdiv 0 t)))) := by
  obtain ⟨hm, hT1, hTlt⟩ := top_facts hV
  rw [← hT] at hT1 hTlt
  have hqB : R2 / V < 1000000000 := Nat.div_lt_of_lt_mul hR
  have hfR : Sp.fits (Sp.cnt V + 1) R2 := fits_row hR
  have hcR := fits_cnt.1 hfR
  have hq : R2 / V ≤ R2 / 1000000000 ^ (Sp.cnt V - 1) / T := by
    rw [Nat.le_div_iff_mul_le hT1, Nat.le_div_iff_mul_le (Nat.pow_pos (by omega))]
    have h1 : T * 1000000000 ^ (Sp.cnt V - 1) ≤ V := by rw [hT]; exact Nat.div_mul_le_self _ _
    have h2 := Nat.mul_le_mul_left (R2 / V) h1
    have h3 := Nat.div_mul_le_self R2 V
    rw [Nat.mul_assoc]; omega
  have hsp := digit_split R2 (Sp.cnt V - 1)
  rw [show Sp.cnt V - 1 + 1 = Sp.cnt V by omega] at hsp
  have hd1 : R2 / 1000000000 ^ Sp.cnt V < 1000000000 := fits_top hfR
  have hd0 : R2 / 1000000000 ^ (Sp.cnt V - 1) % 1000000000 < 1000000000 := Nat.mod_lt _ (by omega)
  have e0 : ((Sp.cnt V : Int) - 1).toNat = Sp.cnt V - 1 := by omega
  have okV : Sp.okB (V : Int) := by unfold Sp.okB; rw [Int.natAbs_natCast]; exact hc
  subst ht
  have hHb : R2 / 1000000000 ^ (Sp.cnt V - 1) ≤ 18446744073709551615 := by
    generalize R2 / 1000000000 ^ Sp.cnt V = d1 at hsp hd1
    omega
  have key : ∀ x : Int, x = ((R2 / 1000000000 ^ (Sp.cnt V - 1) : Nat) : Int) → (¬(T : Int) = 0) ∧ (0 ≤ x.tdiv T ∧ x.tdiv T ≤ 18446744073709551615) ∧
      ((x.tdiv T > 999999999) → (Sp.okB (V : Int) ∧ Sp.dig 999999999) ∧ G (V * Int.toNat 999999999) 999999999) ∧
      (¬(x.tdiv T > 999999999) → (0 ≤ x.tdiv T ∧ x.tdiv T ≤ 4294967295) ∧ (Sp.okB (V : Int) ∧ Sp.dig (x.tdiv T)) ∧ G (V * (x.tdiv T).toNat) (x.tdiv T)) := by
    intro x hx
    have e : x.tdiv T = ((R2 / 1000000000 ^ (Sp.cnt V - 1) / T : Nat) : Int) := by rw [hx]; exact (Int.ofNat_tdiv _ _).symm
    have hb : R2 / 1000000000 ^ (Sp.cnt V - 1) / T ≤ 18446744073709551615 := Nat.le_trans (Nat.div_le_self _ _) hHb
    rw [e, Int.toNat_natCast]
    generalize R2 / 1000000000 ^ (Sp.cnt V - 1) / T = z at hq hb
    refine ⟨by omega, by omega, fun _ => ⟨⟨okV, by unfold Sp.dig; omega⟩, hG 999999999 (by omega) (by omega)⟩, fun h => ⟨by omega, ⟨okV, by unfold Sp.dig; omega⟩, hG z hq (by omega)⟩⟩
  simp only [lim_len, Int.toNat_natCast, e0]
  refine ⟨fun h => ?_, fun h => ⟨fun h2 => ?_, fun h2 => ?_⟩⟩
  · have g1 : (Sp.lim R2).getD (Sp.cnt V) default = ((R2 / 1000000000 ^ Sp.cnt V % 1000000000 : Nat) : Int) := limN_getD R2 (show Sp.cnt V < Sp.cnt R2 by omega)
    have g0 : (Sp.lim R2).getD (Sp.cnt V - 1) default = ((R2 / 1000000000 ^ (Sp.cnt V - 1) % 1000000000 : Nat) : Int) := limN_getD R2 (show Sp.cnt V - 1 < Sp.cnt R2 by omega)
    rw [g1, g0, Nat.mod_eq_of_lt hd1]
    have hx : ((R2 / 1000000000 ^ Sp.cnt V : Nat) : Int) * 1000000000 + ((R2 / 1000000000 ^ (Sp.cnt V - 1) % 1000000000 : Nat) : Int) = ((R2 / 1000000000 ^ (Sp.cnt V - 1) : Nat) : Int) := by
      generalize R2 / 1000000000 ^ Sp.cnt V = d1 at hsp hd1
      generalize R2 / 1000000000 ^ (Sp.cnt V - 1) = d0 at hsp hd0
      omega
    have kk := key _ hx
    generalize R2 / 1000000000 ^ Sp.cnt V = d1 at hd1 kk
    generalize R2 / 1000000000 ^ (Sp.cnt V - 1) % 1000000000 = d0 at hd0 kk
    exact ⟨by omega, by omega, by omega, by omega, fun _ => ⟨by omega, by omega, by omega, by omega, by omega, kk⟩, fun h3 => absurd h (by omega)⟩
  · have g0 : (Sp.lim R2).getD (Sp.cnt V - 1) default = ((R2 / 1000000000 ^ (Sp.cnt V - 1) % 1000000000 : Nat) : Int) := limN_getD R2 (show Sp.cnt V - 1 < Sp.cnt R2 by omega)
    have hz : R2 / 1000000000 ^ Sp.cnt V = 0 := fits_div (fits_self R2) (by omega)
    rw [g0]
    have hx : 0 + ((R2 / 1000000000 ^ (Sp.cnt V - 1) % 1000000000 : Nat) : Int) = ((R2 / 1000000000 ^ (Sp.cnt V - 1) : Nat) : Int) := by
      rw [hz] at hsp
      generalize R2 / 1000000000 ^ (Sp.cnt V - 1) = d0 at hsp hd0
      omega
    have kk := key _ hx
    generalize R2 / 1000000000 ^ (Sp.cnt V - 1) % 1000000000 = d0 at hd0 kk
    exact ⟨by omega, by omega, by omega, by omega, by omega, kk⟩
  · have hz : R2 / 1000000000 ^ (Sp.cnt V - 1) = 0 := fits_div (fits_self R2) (by omega)
    exact key 0 (by rw [hz]; rfl)
theorem rloopG {V U R2 n : Nat} {s t i : Int} {o : List Int} {dq : AV} (hV : V ≠ 0) (hc : Sp.cnt V ≤ 400000) (hR : R2 < V * 1000000000) (hi : 0 ≤ i ∧ i.toNat < n ∧ i.toNat < o.length ∧ i ≤ 9000000)
    (hn : rPartsH_at V U s t (i - 1) n (o.set i.toNat ((R2 / V : Nat) : Int)) (R2 % V) (PureQ dq)) :
    ∀ (k g : Nat), g = R2 / V + k → g < 1000000000 → rPartsG_at V U s t i n o R2 (V * g) (g : Int) (PureQ dq) := by
  have hqm := Nat.div_add_mod R2 V
  have hml := Nat.mod_lt R2 (Nat.pos_of_ne_zero hV)
  have hcR : Sp.cnt R2 ≤ Sp.cnt V + 1 := fits_cnt.1 (fits_row hR)
  generalize R2 / V = q at hn hqm ⊢
  generalize R2 % V = r at hn hqm hml
  have hcp : ∀ g, g < 1000000000 → Sp.cnt (V * g) ≤ Sp.cnt V + 1 := fun g hg => fits_cnt.1 (fits_prod (fits_self V) (by unfold Sp.fits; omega))
  intro k
  induction k with
  | zero =>
    intro g hg hlt
    have hg : g = q := by omega
    subst hg
    have e : R2 - V * g = r := by omega
    have hcp := hcp _ hlt
    refine rPartsG _ _ _ _ _ _ _ _ _ _ _ ⟨⟨by unfold Sp.short; omega, by unfold Sp.short; omega⟩, fun h => ?_, fun h => ⟨⟨by unfold Sp.short; omega, by omega⟩, hi.1, hi.2.1, by omega, by omega, by omega, ?_⟩⟩
    · exfalso
      have : ¬(((V * g : Nat) : Int) - (R2 : Int) > 0) := by omega
      unfold Sp.sgnI at h
      (repeat' split at h) <;> omega
    · rw [Nat.zero_add, e]; exact hn
  | succ k ih =>
    intro g hg hlt
    have hgt : R2 < V * g := by
      have : V * (q + 1) ≤ V * g := Nat.mul_le_mul_left _ (by omega)
      rw [Nat.mul_succ] at this; omega
    have hcp := hcp _ hlt
    have hVg : V ≤ V * g := Nat.le_mul_of_pos_right _ (by omega)
    have e : V * g - V = V * (g - 1) := by
      rw [Nat.mul_sub]; simp
    refine rPartsG _ _ _ _ _ _ _ _ _ _ _ ⟨⟨by unfold Sp.short; omega, by unfold Sp.short; omega⟩, fun h => ⟨by omega, ⟨by unfold Sp.short; omega, hVg⟩, ?_⟩, fun h => ?_⟩
    · rw [e, show (g : Int) - 1 = ((g - 1 : Nat) : Int) by omega]
      exact ih (g - 1) (by omega) (by omega)
    · exfalso
      unfold Sp.sgnI at h
      (repeat' split at h) <;> omega
end Go.Av

namespace Go.Av
open Go.Proofs
theorem loopLR {R s n Q : Nat} {o : List Int} (hs : 0 < s ∧ s < 1000000000) (ho : o.take n = Sp.limN n Q) (hQ : Sp.fits n Q) (hn : n ≤ 1000000) (hR : Sp.cnt R ≤ 1000000) : ∀ (i k : Nat) (l : List Int), i + k = Sp.cnt R → l.length = Sp.cnt R → l.drop i = Sp.limN k (R / 1000000000 ^ i / s) →
    rPartsL_at R s ((R / 1000000000 ^ i % s : Nat) : Int) ((i : Int) - 1) n o l (PureQ (.tup [usA false (Sp.lim Q), usA false (Sp.lim (R / s))]))
  | 0, k, l, hi, hol, hl => by
    have hk : k = Sp.cnt R := by omega
    subst hk
    rw [List.drop_zero] at hl
    simp only [Nat.pow_zero, Nat.div_one] at hl ⊢
    refine rPartsL _ _ _ _ _ _ _ _ ⟨fun h => by omega, fun _ => ?_⟩
    rw [List.drop_zero, ho, hl, limN_len, limN_len, trimL_limN hQ, trimL_limN (fits_le (fits_self R) (Nat.div_le_self _ _))]
    exact ⟨hn, hR, .refl _⟩
  | i + 1, k, l, hi, hol, hl => by
    have gx : (Sp.lim R).getD i default = ((R / 1000000000 ^ i % 1000000000 : Nat) : Int) := limN_getD R (show i < Sp.cnt R by omega)
    have e1 : (((i + 1 : Nat) : Int) - 1) = (i : Nat) := by omega
    have hsp := digit_split R i
    have hx : R / 1000000000 ^ i % 1000000000 < 1000000000 := Nat.mod_lt _ (by omega)
    obtain ⟨b1, b2, b3⟩ := byWord_step (R / 1000000000 ^ (i + 1)) (R / 1000000000 ^ i % 1000000000) s hx hs.1
    have hs' : R / 1000000000 ^ i % 1000000000 + 1000000000 * (R / 1000000000 ^ (i + 1)) = R / 1000000000 ^ i := by omega
    rw [hs'] at b1 b2
    have hr := Nat.mod_lt (R / 1000000000 ^ (i + 1)) hs.1
    rw [e1]
    refine rPartsL _ _ _ _ _ _ _ _ ⟨fun _ => ?_, fun h => by omega⟩
    rw [Int.toNat_natCast, gx, lim_len]
    have c1 : ((R / 1000000000 ^ (i + 1) % s : Nat) : Int) * 1000000000 + ((R / 1000000000 ^ i % 1000000000 : Nat) : Int) = ((R / 1000000000 ^ (i + 1) % s * 1000000000 + R / 1000000000 ^ i % 1000000000 : Nat) : Int) := by omega
    obtain ⟨q0, hq0⟩ : ∃ q0, q0 = (R / 1000000000 ^ (i + 1) % s * 1000000000 + R / 1000000000 ^ i % 1000000000) / s := ⟨_, rfl⟩
    have c2 : (((R / 1000000000 ^ (i + 1) % s * 1000000000 + R / 1000000000 ^ i % 1000000000 : Nat) : Int)).tdiv s = (q0 : Nat) := by rw [hq0]; exact (Int.ofNat_tdiv _ _).symm
    have c3 : (((R / 1000000000 ^ (i + 1) % s * 1000000000 + R / 1000000000 ^ i % 1000000000 : Nat) : Int)).tmod s = ((R / 1000000000 ^ i % s : Nat) : Int) := by rw [b2]; exact (Int.ofNat_tmod _ _).symm
    rw [← hq0] at b1 b3
    rw [c1, c2, c3]
    have main : rPartsL_at R s ((R / 1000000000 ^ i % s : Nat) : Int) ((i : Int) - 1) n o (l.set i (q0 : Nat)) (PureQ (.tup [usA false (Sp.lim Q), usA false (Sp.lim (R / s))])) := by
      refine loopLR hs ho hQ hn hR i (k + 1) _ (by omega) (by simpa using hol) ?_
      rw [drop_set_self (by omega), hl, limN_succ, b1]
      generalize R / 1000000000 ^ (i + 1) / s = z
      have e2 : (1000000000 * z + q0) % 1000000000 = q0 := by omega
      have e3 : (1000000000 * z + q0) / 1000000000 = z := by omega
      rw [e2, e3]
    have hx' : ((R / 1000000000 ^ i % 1000000000 : Nat) : Int) < 1000000000 := by omega
    have hr' : R / 1000000000 ^ (i + 1) % s < 1000000000 := by omega
    generalize R / 1000000000 ^ (i + 1) % s = X at hr' main ⊢
    generalize R / 1000000000 ^ i % 1000000000 = Y at hx' main ⊢
    exact ⟨by omega, by omega, by omega, by omega, by omega, by omega, by omega, by omega, by omega, by omega, by omega, main⟩
theorem stepH {V U s j n : Nat} {t : Int} {o : List Int} {dq : AV} (hV : V ≠ 0) (hc : Sp.cnt V ≤ 400000) (hn : n = Sp.cnt U) (hU : n ≤ 500000) (ht : t = ((V / 1000000000 ^ (Sp.cnt V - 1) : Nat) : Int)) (hj : j < n) (hol : n ≤ o.length)
    (ih : rPartsH_at V U s t ((j : Int) - 1) n (o.set j ((U / 1000000000 ^ j % 1000000000 + 1000000000 * (U / 1000000000 ^ (j + 1) % V)) / V : Nat)) (U / 1000000000 ^ j % V) (PureQ dq)) :
    (U / 1000000000 ^ (j + 1) % V = 0 → rPartsAE_at V U s t j n o (PureQ dq) ∧ rPartsA0_at V U s t j n o (PureQ dq)) ∧
    (∀ c l, Sp.lim (U / 1000000000 ^ (j + 1) % V) = c :: l → rPartsA_at V U s t j n o c l (PureQ dq)) := by
  subst hn
  have gx : (Sp.lim U).getD j default = ((U / 1000000000 ^ j % 1000000000 : Nat) : Int) := limN_getD U hj
  have hx : U / 1000000000 ^ j % 1000000000 < 1000000000 := Nat.mod_lt _ (by omega)
  have hsp := digit_split U j
  have hs' : U / 1000000000 ^ j % 1000000000 + 1000000000 * (U / 1000000000 ^ (j + 1)) = U / 1000000000 ^ j := by omega
  obtain ⟨b1, b2, b3⟩ := byWord_step (U / 1000000000 ^ (j + 1)) (U / 1000000000 ^ j % 1000000000) V hx (Nat.pos_of_ne_zero hV)
  rw [hs'] at b2
  have hr := Nat.mod_lt (U / 1000000000 ^ (j + 1)) (Nat.pos_of_ne_zero hV)
  rw [b2] at ih
  generalize U / 1000000000 ^ (j + 1) % V = R at hr ih b3 ⊢
  generalize U / 1000000000 ^ j % 1000000000 = x at hx gx ih b3
  have e2 : R * 1000000000 + x = x + 1000000000 * R := by omega
  rw [e2] at ih b3
  have hlu := lim_len U
  have hR2 : x + 1000000000 * R < V * 1000000000 := by omega
  have tl := partsTail (G := fun p g => rPartsG_at V U s t j (Sp.cnt U) o (x + 1000000000 * R) p g (PureQ dq)) (R2 := x + 1000000000 * R) hV hc rfl ht hR2
    (fun g hg hlt => rloopG (i := (j : Int)) hV hc hR2 ⟨by omega, by omega, by omega, by omega⟩ (by rw [Int.toNat_natCast]; exact ih) (g - (x + 1000000000 * R) / V) g (by omega) hlt)
  have one : R = 0 → Ev M1 (.pure 90 [.vec true 1 [.int .u32 ((Sp.lim U).getD (j : Int).toNat default)]]) (usA false (Sp.lim (x + 1000000000 * R))) [] := by
    intro h0
    have := rtrimN true 1 x ⟨by unfold Sp.short; omega, by unfold Sp.fits; omega⟩
    rw [h0, Int.toNat_natCast, gx]
    rw [limN_one hx] at this
    exact this
  refine ⟨fun h0 => ⟨?_, ?_⟩, fun c l hcl => ?_⟩
  · exact rPartsAE _ _ _ _ _ _ _ (x + 1000000000 * R) _ ⟨fun _ => ⟨one h0, by omega, by omega, rPartsB _ _ _ _ _ _ _ _ _ tl⟩, fun h => absurd h (by omega)⟩
  · exact rPartsA0 _ _ _ _ _ _ _ (x + 1000000000 * R) _ ⟨fun _ => ⟨one h0, by omega, by omega, rPartsB _ _ _ _ _ _ _ _ _ tl⟩, fun h => absurd h (by omega)⟩
  · have hcR : Sp.cnt R ≤ Sp.cnt V := cnt_mono (Nat.le_of_lt hr)
    have ev := ev90_c false (x : Int) R ⟨by omega, by omega, by omega⟩
    rw [Int.toNat_natCast, hcl, ← gx] at ev
    have hll := lim_len R
    rw [hcl] at hll
    simp only [List.length_cons] at hll
    refine rPartsA _ _ _ _ _ _ _ _ _ (x + 1000000000 * R) _ ⟨fun _ => ⟨?_, by omega, by omega, by omega, rPartsB _ _ _ _ _ _ _ _ _ tl⟩, fun h => absurd h (by omega)⟩
    rw [Int.toNat_natCast]; exact ev
theorem take_drop_set {o : List Int} {j n : Nat} {d : Int} (hj : j < n) (hn : n ≤ o.length) : ((o.set j d).take n).drop j = d :: (o.take n).drop (j + 1) := by
  rw [List.take_set, drop_set_self (by simp; omega)]
theorem loopHR {V U s n : Nat} {t : Int} (hV : V ≠ 0) (hc : Sp.cnt V ≤ 400000) (hn : n = Sp.cnt U) (hU : n ≤ 500000) (ht : t = ((V / 1000000000 ^ (Sp.cnt V - 1) : Nat) : Int)) (hs : 0 < s ∧ s < 1000000000) : ∀ (j : Nat) (o : List Int), j ≤ n → n ≤ o.length →
    (o.take n).drop j = Sp.limN (n - j) (U / 1000000000 ^ j / V) → rPartsH_at V U s t ((j : Int) - 1) n o (U / 1000000000 ^ j % V) (PureQ (.tup [usA false (Sp.lim (U / V)), usA false (Sp.lim (U % V / s))]))
  | 0, o, hj, hol, ho => by
    simp only [Nat.pow_zero, Nat.div_one, List.drop_zero, Nat.sub_zero] at ho ⊢
    have hm := Nat.mod_lt U (Nat.pos_of_ne_zero hV)
    have hcR : Sp.cnt (U % V) ≤ Sp.cnt V := cnt_mono (Nat.le_of_lt hm)
    have hfQ : Sp.fits n (U / V) := by rw [hn]; exact fits_le (fits_self U) (Nat.div_le_self _ _)
    refine rPartsH _ _ _ _ _ _ _ _ _ ⟨fun h => by omega, fun _ => ?_⟩
    rw [lim_len, Int.toNat_natCast]
    refine ⟨by omega, by omega, by omega, by omega, ?_⟩
    have := loopLR (R := U % V) (s := s) (o := o) hs ho hfQ (by omega) (by omega) (Sp.cnt (U % V)) 0 (List.replicate (Sp.cnt (U % V)) 0) (by omega) (by simp) (by simp [Sp.limN])
    rw [fits_div (fits_self (U % V)) (Nat.le_refl _), Nat.zero_mod] at this
    exact this
  | j + 1, o, hj, hol, ho => by
    have hx : U / 1000000000 ^ j % 1000000000 < 1000000000 := Nat.mod_lt _ (by omega)
    have hsp := digit_split U j
    have hs' : U / 1000000000 ^ j % 1000000000 + 1000000000 * (U / 1000000000 ^ (j + 1)) = U / 1000000000 ^ j := by omega
    obtain ⟨b1, b2, b3⟩ := byWord_step (U / 1000000000 ^ (j + 1)) (U / 1000000000 ^ j % 1000000000) V hx (Nat.pos_of_ne_zero hV)
    rw [hs'] at b1
    have e2 : U / 1000000000 ^ (j + 1) % V * 1000000000 + U / 1000000000 ^ j % 1000000000 = U / 1000000000 ^ j % 1000000000 + 1000000000 * (U / 1000000000 ^ (j + 1) % V) := by omega
    rw [e2] at b1 b3
    have ih := loopHR hV hc hn hU ht hs j (o.set j ((U / 1000000000 ^ j % 1000000000 + 1000000000 * (U / 1000000000 ^ (j + 1) % V)) / V : Nat)) (by omega) (by simpa using hol) (by
      rw [take_drop_set (by omega) hol, ho, show n - j = (n - (j + 1)) + 1 by omega, limN_succ, b1]
      generalize U / 1000000000 ^ (j + 1) / V = z
      generalize (U / 1000000000 ^ j % 1000000000 + 1000000000 * (U / 1000000000 ^ (j + 1) % V)) / V = q0 at b3
      have e2 : (1000000000 * z + q0) % 1000000000 = q0 := by omega
      have e3 : (1000000000 * z + q0) / 1000000000 = z := by omega
      rw [e2, e3])
    obtain ⟨k1, k2⟩ := stepH (s := s) hV hc hn hU ht (show j < n by omega) hol ih
    rw [show (((j + 1 : Nat) : Int) - 1) = (j : Nat) by omega]
    by_cases h0 : U / 1000000000 ^ (j + 1) % V = 0
    · have := (k1 h0).1
      unfold rPartsAE_at at this
      unfold rPartsH_at
      rw [h0, lim_zero]; exact this
    · have hne : Sp.lim (U / 1000000000 ^ (j + 1) % V) ≠ [] := by
        intro e
        have := lim_len (U / 1000000000 ^ (j + 1) % V)
        rw [e] at this
        exact h0 (cnt_eq_zero.1 this.symm)
      obtain ⟨c, l, hcl⟩ := List.exists_cons_of_ne_nil hne
      have := k2 c l hcl
      unfold rPartsA_at at this
      rw [← hcl] at this
      exact this
end Go.Av

namespace Go.Av
open Go.Proofs
theorem partsN (fa fb : Bool) (A D : Nat) (hD : D ≠ 0) (hA : Sp.cnt A ≤ 399000) (hd : Sp.cnt D ≤ 399000) : Ev M1 (.pure 91 [usA fa (Sp.lim A), usA fb (Sp.lim D)]) (.tup [usA false (Sp.lim (A / D)), usA false (Sp.lim (A % D))]) [] := by
  obtain ⟨m1, m2, m3⟩ := top_facts hD
  obtain ⟨s1, s2, s3, s4, s5⟩ := scl_facts1 m1
  refine call91 (rParts _ _ _ _ _ ⟨fun h => ?_, fun h => ?_⟩)
  · rw [lim_len, lim_len] at h
    have f1 := fits_mono (fits_self A) (show Sp.cnt A ≤ 2 by omega)
    have hA2 : A < 1000000000000000000 := by unfold Sp.fits at f1; simpa using f1
    have f2 := fits_mono (fits_self D) (show Sp.cnt D ≤ 2 by omega)
    have hD2 : D < 1000000000000000000 := by unfold Sp.fits at f2; simpa using f2
    have c1 : (A : Int).tdiv D = ((A / D : Nat) : Int) := (Int.ofNat_tdiv _ _).symm
    have c2 : (A : Int).tmod D = ((A % D : Nat) : Int) := (Int.ofNat_tmod _ _).symm
    have d1 := Nat.div_le_self A D
    have d2 := Nat.mod_lt A (Nat.pos_of_ne_zero hD)
    rw [c1, c2, Int.toNat_natCast, Int.toNat_natCast]
    exact ⟨by omega, by omega, le8 (by omega), le8 (by omega), by omega, .refl _⟩
  · have e0 : ((Sp.cnt D : Int) - 1).toNat = Sp.cnt D - 1 := by omega
    have gD : (Sp.lim D).getD (Sp.cnt D - 1) default = ((D / 1000000000 ^ (Sp.cnt D - 1) : Nat) : Int) := by
      have := limN_getD (n := Sp.cnt D) D (show Sp.cnt D - 1 < Sp.cnt D by omega)
      rw [Nat.mod_eq_of_lt s5] at this
      exact this
    have hs : Int.tdiv 1000000000 ((Sp.lim D).getD (Sp.cnt D - 1) default + 1) = (Sp.scl D : Int) := by
      rw [gD]
      unfold Sp.scl
      generalize D / 1000000000 ^ (Sp.cnt D - 1) = t
      have : ((t : Int) + 1) = ((t + 1 : Nat) : Int) := by omega
      rw [this]
      exact (Int.ofNat_tdiv 1000000000 (t + 1)).symm
    have hV : D * Sp.scl D ≠ 0 := Nat.mul_ne_zero hD (by omega)
    obtain ⟨v1, v2, v3⟩ := top_facts hV
    have hcV : Sp.cnt (D * Sp.scl D) ≤ Sp.cnt D := fits_cnt.1 s3
    have f1 : Sp.fits 1 (Sp.scl D) := by unfold Sp.fits; omega
    have hcU : Sp.cnt (A * Sp.scl D) ≤ Sp.cnt A + 1 := fits_cnt.1 (fits_prod (fits_self A) f1)
    have e1 : ((Sp.cnt (D * Sp.scl D) : Int) - 1).toNat = Sp.cnt (D * Sp.scl D) - 1 := by omega
    have gV : (Sp.lim (D * Sp.scl D)).getD (Sp.cnt (D * Sp.scl D) - 1) default = ((D * Sp.scl D / 1000000000 ^ (Sp.cnt (D * Sp.scl D) - 1) : Nat) : Int) := by
      have := limN_getD (n := Sp.cnt (D * Sp.scl D)) (D * Sp.scl D) (show Sp.cnt (D * Sp.scl D) - 1 < Sp.cnt (D * Sp.scl D) by omega)
      rw [Nat.mod_eq_of_lt v3] at this
      exact this
    have okD : Sp.okB (D : Int) := by unfold Sp.okB; rw [Int.natAbs_natCast]; omega
    have okA : Sp.okB (A : Int) := by unfold Sp.okB; rw [Int.natAbs_natCast]; omega
    have dg : Sp.dig (Sp.scl D : Int) := by unfold Sp.dig; omega
    obtain ⟨q1, q2⟩ := div_scale (A := A) (D := D) s1
    simp only [lim_len, e0, hs, Int.toNat_natCast, e1, gV, Nat.sub_zero]
    have go : rPartsA0_at (D * Sp.scl D) (A * Sp.scl D) (Sp.scl D : Int) ((D * Sp.scl D / 1000000000 ^ (Sp.cnt (D * Sp.scl D) - 1) : Nat) : Int) ((Sp.cnt (A * Sp.scl D) : Int) - 1) (Sp.cnt (A * Sp.scl D)) (List.replicate ((Sp.cnt A : Int) + 1).toNat 0) (PureQ (.tup [usA false (Sp.lim (A / D)), usA false (Sp.lim (A % D))])) := by
      have eL : ((Sp.cnt A : Int) + 1).toNat = Sp.cnt A + 1 := by omega
      rw [eL]
      by_cases hz : Sp.cnt (A * Sp.scl D) = 0
      · have hU := cnt_eq_zero.1 hz
        have hA0 : A = 0 := by
          rcases Nat.mul_eq_zero.1 hU with h | h
          · exact h
          · omega
        subst hA0
        rw [hz]
        have l0 : Sp.lim 0 = [] := lim_zero
        have tr := rtrimN false 0 0 ⟨by unfold Sp.short; omega, fits_zero.2 rfl⟩
        rw [l0] at tr
        refine rPartsA0 _ _ _ _ _ _ _ 0 _ ⟨fun h => by omega, fun _ => rPartsL0 _ _ _ _ ⟨by simp [Sp.short], [], tr, ?_⟩⟩
        rw [Nat.zero_div, Nat.zero_mod, l0]
        exact .refl _
      · obtain ⟨j, hj⟩ : ∃ j, Sp.cnt (A * Sp.scl D) = j + 1 := ⟨Sp.cnt (A * Sp.scl D) - 1, by omega⟩
        have hn : j + 1 = Sp.cnt (A * Sp.scl D) := hj.symm
        have hc1 : Sp.cnt (D * Sp.scl D) ≤ 400000 := by omega
        have hU5 : j + 1 ≤ 500000 := by omega
        have hj0 : j ≤ j + 1 := by omega
        have hj1 : j < j + 1 := by omega
        have hol : j + 1 ≤ (List.replicate (Sp.cnt A + 1) (0 : Int)).length := by simp; omega
        have hzero : A * Sp.scl D / 1000000000 ^ (j + 1) = 0 := fits_div (fits_self _) (by omega)
        have hx : A * Sp.scl D / 1000000000 ^ j % 1000000000 < 1000000000 := Nat.mod_lt _ (by omega)
        obtain ⟨b1, b2, b3⟩ := byWord_step (A * Sp.scl D / 1000000000 ^ (j + 1)) (A * Sp.scl D / 1000000000 ^ j % 1000000000) (D * Sp.scl D) hx (Nat.pos_of_ne_zero hV)
        have hsp := digit_split (A * Sp.scl D) j
        have hs' : A * Sp.scl D / 1000000000 ^ j % 1000000000 + 1000000000 * (A * Sp.scl D / 1000000000 ^ (j + 1)) = A * Sp.scl D / 1000000000 ^ j := by omega
        have ih := loopHR (V := D * Sp.scl D) (U := A * Sp.scl D) (s := Sp.scl D) hV hc1 hn hU5 rfl ⟨s1, s2⟩ j ((List.replicate (Sp.cnt A + 1) (0 : Int)).set j ((A * Sp.scl D / 1000000000 ^ j % 1000000000 + 1000000000 * (A * Sp.scl D / 1000000000 ^ (j + 1) % (D * Sp.scl D))) / (D * Sp.scl D) : Nat)) hj0 (by simpa using hol) (by
          rw [take_drop_set hj1 hol, show j + 1 - j = 0 + 1 by omega, limN_succ, List.drop_of_length_le (by simp; omega)]
          rw [hs'] at b1
          rw [hzero] at b1 b3 ⊢
          rw [Nat.zero_div, Nat.zero_mod] at b1
          rw [Nat.zero_mod] at b3 ⊢
          rw [b1]
          have e5 : 0 * 1000000000 + A * Sp.scl D / 1000000000 ^ j % 1000000000 = A * Sp.scl D / 1000000000 ^ j % 1000000000 + 1000000000 * 0 := by simp only [Nat.zero_mul, Nat.mul_zero, Nat.zero_add, Nat.add_zero]
          rw [e5] at b3 ⊢
          rw [Nat.mul_zero, Nat.zero_add, Nat.mod_eq_of_lt b3]; rfl)
        obtain ⟨k1, _⟩ := stepH (s := Sp.scl D) hV hc1 hn hU5 rfl hj1 hol ih
        have := (k1 (by rw [hzero, Nat.zero_mod])).2
        rw [q1, q2] at this
        rw [hj, show (((j + 1 : Nat) : Int) - 1) = (j : Nat) by omega]
        exact this
    have hscl : (Sp.scl D : Int) ≤ 4294967295 := by omega
    have hb1 : D / 1000000000 ^ (Sp.cnt D - 1) < 1000000000 := s5
    rw [gD]
    generalize D / 1000000000 ^ (Sp.cnt D - 1) = T at hb1 ⊢
    generalize D * Sp.scl D / 1000000000 ^ (Sp.cnt (D * Sp.scl D) - 1) = T2 at v3 go ⊢
    exact ⟨by omega, by omega, by omega, by omega, by omega, by omega, by omega, by omega, ⟨okD, dg⟩, by omega, by omega, by omega, by omega, by omega, by omega, by omega, by omega, ⟨okA, dg⟩, by omega, by omega, by rw [List.length_replicate]; omega, by omega, go⟩
theorem ev91 (fa fb : Bool) (A D : Nat) (h : Sp.cnt A ≤ 399000 ∧ Sp.cnt D ≤ 399000 ∧ D ≠ 0) : Ev M1 (.pure 91 [usA fa (Sp.lim A), usA fb (Sp.lim D)]) (.tup [usA false (Sp.lim (A / D)), usA false (Sp.lim (A % D))]) [] := partsN fa fb A D h.2.2 h.1 h.2.1
theorem ev91_a (fa fb : Bool) (v w : Int) (h : Sp.cnt v.natAbs ≤ 399000 ∧ Sp.cnt w.natAbs ≤ 399000 ∧ w ≠ 0) : Ev M1 (.pure 91 [usA fa (Sp.limI v), usA fb (Sp.limI w)]) (.tup [usA false (Sp.lim (v.natAbs / w.natAbs)), usA false (Sp.lim (v.natAbs % w.natAbs))]) [] := partsN fa fb _ _ (by have := h.2.2; omega) h.1 h.2.1
end Go.Av

namespace Go.Av
open Go.Proofs
set_option maxRecDepth 100000
def fi63 : Fi := ⟨54, [.cell 4 24]⟩
def kp63 : List (Nat × List Nat) := [(0, [2, 3, 4]), (1, [4, 5, 6]), (2, [4, 5, 6, 27]), (3, [4, 6, 8]), (4, [4, 5, 6]), (5, [4, 5, 6, 38]), (6, [4]), (7, [4, 9, 10]), (8, [4, 9, 10, 46]), (9, [4, 9, 10]), (10, [4])]
def fi79 : Fi := ⟨54, [.cell 4 24, .cell 5 24, .tmp 6]⟩
def kp79 : List (Nat × List Nat) := [(0, [2, 3, 4, 5]), (1, [2, 3, 4, 5, 14]), (2, [4, 5, 6]), (3, [2, 3, 4, 5, 7, 8]), (4, [2, 3, 4, 5, 8, 9, 10]), (5, [3, 4, 5, 9, 10, 45]), (6, [4, 5, 9, 10]), (7, [4, 5, 6])]
def rDivMod_at (fa fb : Bool) (a b : Int) (Q : AV → Heap → Prop) : Prop := Wp M1 (.run fi79 (atC (cd Try.f79) []) [(0, .agg [.bool (Sp.isNeg a), .vec fa 1 ((Sp.limI a).map (.int .u32))]), (1, .agg [.bool (Sp.isNeg b), .vec fb 1 ((Sp.limI b).map (.int .u32))])] []) Q
def rGCD_at (fa fb : Bool) (a b : Int) (Q : AV → Heap → Prop) : Prop := Wp M1 (.run fi63 (atC (cd Try.f63) []) [(0, .agg [.bool (Sp.isNeg a), .vec fa 1 ((Sp.limI a).map (.int .u32))]), (1, .agg [.bool (Sp.isNeg b), .vec fb 1 ((Sp.limI b).map (.int .u32))])] []) Q
def rGCDH_at (fx fy : Bool) (x y : Nat) (Q : AV → Heap → Prop) : Prop := Wp M1 (.run fi63 (atC (cd Try.f63) [1, 1, 0, 0, 0]) [(4, .ptr 0 0 0 0), (5, .vec fx 1 ((Sp.lim x).map (.int .u32))), (6, .vec fy 1 ((Sp.lim y).map (.int .u32)))] [⟨[.agg [.bool false, .vnil]], 2, 0, false, false⟩]) Q
def rGCDW_at (u v : Int) (Q : AV → Heap → Prop) : Prop := Wp M1 (.run fi63 (atC (cd Try.f63) [1, 1, 1, 1, 1, 0, 0, 0]) [(4, .ptr 0 0 0 0), (9, .int .u64 u), (10, .int .u64 v)] [⟨[.agg [.bool false, .vnil]], 2, 0, false, false⟩]) Q
theorem call63 {args : List AV} {d : AV} (h : Wp M1 (.run fi63 [.code (cd Try.f63)] (argVars 0 args) []) (PureQ d)) : Ev M1 (.pure 63 args) d [] :=
  pure_pq Try.f63 fi63 (by kernel_rfl) (by kernel_rfl) (by kernel_rfl) (by kernel_rfl) h
theorem call79 {args : List AV} {d : AV} (h : Wp M1 (.run fi79 [.code (cd Try.f79)] (argVars 0 args) []) (PureQ d)) : Ev M1 (.pure 79 args) d [] :=
  pure_pq Try.f79 fi79 (by kernel_rfl) (by kernel_rfl) (by kernel_rfl) (by kernel_rfl) h
abbrev zNwE1 (a : Int) (b : Int) := Sp.sg (!Sp.isNeg a == Sp.isNeg b) (a.natAbs / b.natAbs)
abbrev zNwE2 (a : Int) (b : Int) := tu [vf (us (Sp.lim (a.natAbs / b.natAbs))), vf (us (Sp.lim (a.natAbs % b.natAbs)))]
theorem rDivMod (fa fb : Bool) (a b : Int)  (dq : AV) (H :
    (((↑(Sp.limI b).length : Int) = 0) -> Weak (tu [ag [vb false, AV.vnil], ag [vb false, AV.vnil], vi 6]) dq) /\
    (¬((↑(Sp.limI b).length : Int) = 0) -> (Sp.cnt a.natAbs <= 399000 /\ Sp.cnt b.natAbs <= 399000 /\ b ≠ 0) /\
      (Sp.short (Sp.cnt (a.natAbs / b.natAbs))) /\
      (Sp.short (Sp.cnt (a.natAbs % b.natAbs))) /\
      ((((↑(Sp.lim (a.natAbs % b.natAbs)).length : Int) > 0) /\ (¬(Sp.isNeg a = Sp.isNeg b))) -> (Sp.inI 1) /\
        (Sp.okB (Sp.sg (!Sp.isNeg a == Sp.isNeg b) (a.natAbs / b.natAbs))) /\
        (Sp.okB (Sp.sg (Sp.isNeg a) (a.natAbs % b.natAbs)) /\ Sp.okB b) /\
        Weak (tu [bigA false (Sp.sg (!Sp.isNeg a == Sp.isNeg b) (a.natAbs / b.natAbs) - 1), bigA false (Sp.sg (Sp.isNeg a) (a.natAbs % b.natAbs) + b), vi 0]) dq) /\
      (¬(((↑(Sp.lim (a.natAbs % b.natAbs)).length : Int) > 0) /\ (¬(Sp.isNeg a = Sp.isNeg b))) -> Weak (tu [bigA false (Sp.sg (!Sp.isNeg a == Sp.isNeg b) (a.natAbs / b.natAbs)), bigA false (Sp.sg (Sp.isNeg a) (a.natAbs % b.natAbs)), vi 0]) dq))) :
  rDivMod_at fa fb a b (PureQ dq) := by
  unfold rDivMod_at
  have w1 : (us (Sp.limI b)).length = (Sp.limI b).length := List.length_map ..
  have i2 : ((↑(us (Sp.limI b)).length : Int) == 0) = true ↔ ((↑(Sp.limI b).length : Int) = 0) := (by (try rw [w1]); all_goals exact i_eq)
  rcases xm ((↑(Sp.limI b).length : Int) = 0) with d3 | d3
  · have H := H.1 d3
    exact path_rq (G := given kp79 [] []) 1000 [true] (tu [ag [vb false, AV.vnil], ag [vb false, AV.vnil], vi 6]) (by kernel_rfl) (bc rfl (bc (beq_t (i2.2 d3)) (bc rfl (bc rfl b0)))) q0 c0 H
  · have H := H.2 d3
    obtain ⟨k4, H⟩ := H
    obtain ⟨k5, H⟩ := H
    obtain ⟨k6, H⟩ := H
    refine path_wp (G := given kp79 [(3, 4, .call (zNwE2 a b) none), (4, 6, .call (bigA false (zNwE1 a b)) none), (4, 10, .call (bigA false (Sp.sg (Sp.isNeg a) (a.natAbs % b.natAbs))) none)] []) 10 [false] ⟨(atC (cd Try.f79) [1, 1, 1, 0]), [(2, AV.ptr 0 0 0 0), (3, AV.ptr 1 0 0 0), (4, AV.ptr 2 0 0 0), (5, AV.ptr 3 0 0 0), (7, vf (us (Sp.lim (a.natAbs / b.natAbs)))), (8, vf (us (Sp.lim (a.natAbs % b.natAbs))))], [⟨[bigA fa a], 2, 0, false, false⟩, ⟨[bigA fb b], 2, 0, false, false⟩, ⟨[ag [vb false, AV.vnil]], 2, 0, false, false⟩, ⟨[ag [vb false, AV.vnil]], 2, 0, false, false⟩], _, [], _⟩ (by kernel_rfl) (bc rfl (bc (beq_f (fun h => d3 (i2.1 h))) (bc rfl (bc rfl b0)))) q0 (ce (@ev91_a (fa) (fb) (a) (b) k4) c0) (wp_both (G := given kp79 [(3, 4, .call (zNwE2 a b) none), (4, 6, .call (bigA false (zNwE1 a b)) none), (4, 10, .call (bigA false (Sp.sg (Sp.isNeg a) (a.natAbs % b.natAbs))) none)] []) [0, 1, 2, 3, 5, 4] 11 (e1 := [(2, AV.ptr 0 0 0 0), (3, AV.ptr 1 0 0 0), (4, AV.ptr 2 0 0 0), (5, AV.ptr 3 0 0 0), (8, vf (us (Sp.lim (a.natAbs % b.natAbs)))), (9, AV.ptr 4 0 0 0), (10, AV.ptr 5 0 0 0)]) (L1 := [⟨[bigA fa a], 2, 0, false, false⟩, ⟨[bigA fb b], 2, 0, false, false⟩, ⟨[ag [vb false, AV.vnil]], 2, 0, false, false⟩, ⟨[ag [vb false, AV.vnil]], 2, 0, false, false⟩, ⟨[bigA false (zNwE1 a b)], 2, 0, false, false⟩, ⟨[bigA false (Sp.sg (Sp.isNeg a) (a.natAbs % b.natAbs))], 2, 0, false, false⟩]) (a := [true, true, true, true, true]) (q := []) (cs := [⟨true, false, 76, [vb !Sp.isNeg a == Sp.isNeg b, vf (us (Sp.lim (a.natAbs / b.natAbs)))], [], bigA false (zNwE1 a b), []⟩, ⟨true, false, 76, [vb (Sp.isNeg a), vf (us (Sp.lim (a.natAbs % b.natAbs)))], [], bigA false (Sp.sg (Sp.isNeg a) (a.natAbs % b.natAbs)), []⟩]) (by kernel_rfl) (by kernel_rfl) (allB_cons rfl (allB_cons rfl (allB_cons rfl (allB_cons rfl (allB_cons rfl allB_nil))))) allP_nil (allC_cons (fun _ => (@ev76_b (!Sp.isNeg a == Sp.isNeg b) (false) (a.natAbs / b.natAbs) k5)) (allC_cons (fun _ => (@ev76_b (Sp.isNeg a) (false) (a.natAbs % b.natAbs) k6)) allC_nil)) ?_)
    have w7 : (us (Sp.lim (a.natAbs % b.natAbs))).length = (Sp.lim (a.natAbs % b.natAbs)).length := List.length_map ..
    have i8 : (bif decide ((↑(us (Sp.lim (a.natAbs % b.natAbs))).length : Int) > 0) then !Sp.isNeg a == Sp.isNeg b else false) = true ↔ (((↑(Sp.lim (a.natAbs % b.natAbs)).length : Int) > 0) /\ (¬(Sp.isNeg a = Sp.isNeg b))) := (by (try rw [w7]); all_goals exact (i_band i_dec (i_not i_eq)))
    rcases xm (((↑(Sp.lim (a.natAbs % b.natAbs)).length : Int) > 0) /\ (¬(Sp.isNeg a = Sp.isNeg b))) with d9 | d9
    · have H := H.1 d9
      obtain ⟨k10, H⟩ := H
      obtain ⟨k11, H⟩ := H
      obtain ⟨k12, H⟩ := H
      exact path_rq (G := given kp79 [(6, 1, .call (ag [vb false, vf (us (Sp.limI 1))]) none), (6, 2, .call (bigA false (Sp.sg (!Sp.isNeg a == Sp.isNeg b) (a.natAbs / b.natAbs) - 1)) none), (6, 5, .call (bigA false (Sp.sg (Sp.isNeg a) (a.natAbs % b.natAbs) + b)) none)] [(7, [5003, 4002, 7001, 6000])]) 1000 [true] (asm := [!(decide ((↑(us (Sp.lim (a.natAbs % b.natAbs))).length : Int) > 0) == true && true) || true, !(decide ((↑(us (Sp.lim (a.natAbs % b.natAbs))).length : Int) > 0) == true && true) || true, (bif decide ((↑(us (Sp.lim (a.natAbs % b.natAbs))).length : Int) > 0) then !Sp.isNeg a == Sp.isNeg b else false) == true, true, true, true, true, true, true, true, true, true]) (tu [bigA false (Sp.sg (!Sp.isNeg a == Sp.isNeg b) (a.natAbs / b.natAbs) - 1), bigA false (Sp.sg (Sp.isNeg a) (a.natAbs % b.natAbs) + b), vi 0]) (by kernel_rfl) (bc (Bool.or_true _) (bc (Bool.or_true _) (bc (beq_t (i8.2 d9)) (bc rfl (bc rfl (bc rfl (bc rfl (bc rfl (bc rfl (bc rfl (bc rfl (bc rfl b0)))))))))))) q0 (ce (@ev46 (1) k10) (ce (@ev100_a (false) (zNwE1 a b) k11) (ce (@ev70 (false) (fb) (Sp.sg (Sp.isNeg a) (a.natAbs % b.natAbs)) (b) k12) c0))) H
    · have H := H.2 d9
      exact path_rq (G := given kp79 [] [(7, [5003, 4002, 7001, 6000])]) 1000 [false] (asm := [!(decide ((↑(us (Sp.lim (a.natAbs % b.natAbs))).length : Int) > 0) == true && true) || true, !(decide ((↑(us (Sp.lim (a.natAbs % b.natAbs))).length : Int) > 0) == true && true) || true, (bif decide ((↑(us (Sp.lim (a.natAbs % b.natAbs))).length : Int) > 0) then !Sp.isNeg a == Sp.isNeg b else false) == false, true, true, true, true]) (tu [bigA false (zNwE1 a b), bigA false (Sp.sg (Sp.isNeg a) (a.natAbs % b.natAbs)), vi 0]) (by kernel_rfl) (bc (Bool.or_true _) (bc (Bool.or_true _) (bc (beq_f (fun h => d9 (i8.1 h))) (bc rfl (bc rfl (bc rfl (bc rfl b0))))))) q0 c0 H
theorem rGCD (fa fb : Bool) (a b : Int)  (dq : AV) (H :
    Wp M1 (.run fi63 (atC (cd Try.f63) [1, 1, 0, 0, 0]) [(4, AV.ptr 0 0 0 0), (5, AV.vec fa 1 (us (Sp.limI a))), (6, AV.vec fb 1 (us (Sp.limI b)))] [{ elems := [ag [vb false, AV.vnil]], es := 2, ver := 0, frozen := false, clean := false }]) (PureQ dq)) :
  rGCD_at fa fb a b (PureQ dq) := by
  unfold rGCD_at
  exact path_wp (G := given kp63 [] []) 1000 [] ⟨(atC (cd Try.f63) [1, 1, 0, 0, 0]), [(4, AV.ptr 2 0 0 0), (5, AV.vec fa 1 (us (Sp.limI a))), (6, AV.vec fb 1 (us (Sp.limI b)))], [⟨[bigA fa a], 2, 0, false, false⟩, ⟨[bigA fb b], 2, 0, false, false⟩, ⟨[ag [vb false, AV.vnil]], 2, 0, false, false⟩], _, [], _⟩ (by kernel_rfl) (bc rfl (bc rfl b0)) q0 c0 (wp_narrow [2] (by kernel_rfl) H)
theorem rGCDH (fx fy : Bool) (x y : Nat)  (dq : AV) (H :
    ((((↑(Sp.lim y).length : Int) > 0) /\ (((↑(Sp.lim x).length : Int) > 2) ∨ ((↑(Sp.lim y).length : Int) > 2))) -> (Sp.cnt x <= 399000 /\ Sp.cnt y <= 399000 /\ y ≠ 0) /\
      rGCDH_at (fy) (false) (y) (x % y) (PureQ dq)) /\
    (¬(((↑(Sp.lim y).length : Int) > 0) /\ (((↑(Sp.lim x).length : Int) > 2) ∨ ((↑(Sp.lim y).length : Int) > 2))) -> (((↑(Sp.lim y).length : Int) = 0) -> (Sp.short (Sp.cnt x)) /\
        Weak (bigA false (Sp.sg false x)) dq) /\
      (¬((↑(Sp.lim y).length : Int) = 0) -> (Sp.cnt x <= 2) /\
        (Sp.cnt y <= 2) /\
        rGCDW_at ((↑x : Int)) ((↑y : Int)) (PureQ dq)))) :
  rGCDH_at fx fy x y (PureQ dq) := by
  unfold rGCDH_at
  have w1 : (us (Sp.lim y)).length = (Sp.lim y).length := List.length_map ..
  have w2 : (us (Sp.lim x)).length = (Sp.lim x).length := List.length_map ..
  have i3 : (bif decide ((↑(us (Sp.lim y)).length : Int) > 0) then bif decide ((↑(us (Sp.lim x)).length : Int) > 2) then true else decide ((↑(us (Sp.lim y)).length : Int) > 2) else false) = true ↔ (((↑(Sp.lim y).length : Int) > 0) /\ (((↑(Sp.lim x).length : Int) > 2) ∨ ((↑(Sp.lim y).length : Int) > 2))) := (by (try rw [w1]); (try rw [w2]); all_goals exact (i_band i_dec (i_bor i_dec i_dec)))
  rcases xm (((↑(Sp.lim y).length : Int) > 0) /\ (((↑(Sp.lim x).length : Int) > 2) ∨ ((↑(Sp.lim y).length : Int) > 2))) with d4 | d4
  · have H := H.1 d4
    obtain ⟨k5, H⟩ := H
    exact path_wp (G := given kp63 [(3, 2, .call (tu [vf (us (Sp.lim (x / y))), vf (us (Sp.lim (x % y)))]) none)] []) 1000 [true] ⟨(atC (cd Try.f63) [1, 1, 0, 0, 0]), [(4, AV.ptr 0 0 0 0), (5, AV.vec fy 1 (us (Sp.lim y))), (6, vf (us (Sp.lim (x % y))))], [⟨[ag [vb false, AV.vnil]], 2, 0, false, false⟩], _, [], _⟩ (by kernel_rfl) (bc (beq_t (i3.2 d4)) b0) q0 (ce (@ev91 (fx) (fy) (x) (y) k5) c0) (H)
  · have H := H.2 d4
    have i6 : ((↑(us (Sp.lim y)).length : Int) == 0) = true ↔ ((↑(Sp.lim y).length : Int) = 0) := (by (try rw [w1]); all_goals exact i_eq)
    rcases xm ((↑(Sp.lim y).length : Int) = 0) with d7 | d7
    · have H := H.1 d7
      obtain ⟨k8, H⟩ := H
      exact path_rq (G := given kp63 [(6, 1, .call (bigA false (Sp.sg false x)) none)] []) 1000 [false, true] (bigA false (Sp.sg false x)) (by kernel_rfl) (bc (beq_f (fun h => d4 (i3.1 h))) (bc (beq_t (i6.2 d7)) (bc rfl b0))) q0 (ce (@ev76_b (false) (fx) (x) k8) c0) H
    · have H := H.2 d7
      obtain ⟨k9, H⟩ := H
      obtain ⟨k10, H⟩ := H
      exact path_wp (G := given kp63 [(7, 1, .call (vw (↑x : Int)) none), (7, 3, .call (vw (↑y : Int)) none)] []) 1000 [false, false] ⟨(atC (cd Try.f63) [1, 1, 1, 1, 1, 0, 0, 0]), [(4, AV.ptr 0 0 0 0), (9, vw (↑x : Int)), (10, vw (↑y : Int))], [⟨[ag [vb false, AV.vnil]], 2, 0, false, false⟩], _, [], _⟩ (by kernel_rfl) (bc (beq_f (fun h => d4 (i3.1 h))) (bc (beq_f (fun h => d7 (i6.1 h))) b0)) q0 (ce (@ev92 (fx) (x) k9) (ce (@ev92 (fy) (y) k10) c0)) (H)
theorem rGCDW (u v : Int)  (dq : AV) (H :
    ((v > 0) -> (¬v = 0) /\
      rGCDW_at (v) (u.tmod v) (PureQ dq)) /\
    (¬(v > 0) -> (0 <= u /\ u <= 18446744073709551615) /\
      (Sp.short (Sp.cnt u.toNat)) /\
      Weak (bigA false (Sp.sg false u.toNat)) dq)) :
  rGCDW_at u v (PureQ dq) := by
  unfold rGCDW_at
  rcases xm (v > 0) with d2 | d2
  · have H := H.1 d2
    obtain ⟨k4, H⟩ := H
    exact path_wp (G := given kp63 [] []) 1000 [true] ⟨(atC (cd Try.f63) [1, 1, 1, 1, 1, 0, 0, 0]), [(4, AV.ptr 0 0 0 0), (9, vw v), (10, vw (u.tmod v))], [⟨[ag [vb false, AV.vnil]], 2, 0, false, false⟩], _, [], _⟩ (by kernel_rfl) (bc (beq_t (i_dec.2 d2)) (bc (i_neq.2 k4) b0)) q0 c0 (H)
  · have H := H.2 d2
    obtain ⟨k5, H⟩ := H
    obtain ⟨k6, H⟩ := H
    exact path_rq (G := given kp63 [(10, 1, .call (vf (us (Sp.lim u.toNat))) none), (10, 2, .call (bigA false (Sp.sg false u.toNat)) none)] []) 1000 [false] (bigA false (Sp.sg false u.toNat)) (by kernel_rfl) (bc (beq_f (fun h => d2 (i_dec.1 h))) (bc rfl b0)) q0 (ce (@ev77 (u) k5) (ce (@ev76_b (false) (false) (u.toNat) k6) c0)) H
end Go.Av

namespace Go.Av
open Go.Proofs
theorem ev79 (fa fb : Bool) (a b : Int) (h : Sp.cnt a.natAbs ≤ 399000 ∧ Sp.cnt b.natAbs ≤ 399000 ∧ b ≠ 0) : Ev M1 (.pure 79 [bigA fa a, bigA fb b]) (.tup [bigA false (Sp.flo a b), bigA false (Sp.flr a b), .int .i64 0]) [] := by
  obtain ⟨ha, hb, h0⟩ := h
  have hl := limI_len b
  have hd0 : b.natAbs ≠ 0 := by omega
  have hm := Nat.mod_lt a.natAbs (Nat.pos_of_ne_zero hd0)
  have heq := sg_div (a := a) h0
  have hc1 := cnt_mono (Nat.le_of_lt hm)
  have hc2 := cnt_mono (Nat.div_le_self a.natAbs b.natAbs)
  have okb : Sp.okB b := by unfold Sp.okB; omega
  have okr : Sp.okB (Sp.sg (Sp.isNeg a) (a.natAbs % b.natAbs)) := by unfold Sp.okB; rw [sg_natAbs]; omega
  have okq : Sp.okB (Sp.sg (!(Sp.isNeg a == Sp.isNeg b)) (a.natAbs / b.natAbs)) := by unfold Sp.okB; rw [sg_natAbs]; omega
  have hra : (Sp.sg (Sp.isNeg a) (a.natAbs % b.natAbs)).natAbs = a.natAbs % b.natAbs := sg_natAbs _ _
  have hrl := lim_len (a.natAbs % b.natAbs)
  have hrc := cnt_eq_zero (v := a.natAbs % b.natAbs)
  have hneg : (Sp.isNeg a = true → Sp.sg (Sp.isNeg a) (a.natAbs % b.natAbs) ≤ 0) ∧ (¬Sp.isNeg a = true → 0 ≤ Sp.sg (Sp.isNeg a) (a.natAbs % b.natAbs)) := by
    unfold Sp.sg
    exact ⟨fun h => by rw [if_pos h]; omega, fun h => by rw [if_neg h]; omega⟩
  refine call79 (rDivMod _ _ _ _ _ ⟨fun h => ?_, fun _ => ⟨⟨ha, hb, h0⟩, by unfold Sp.short; omega, by unfold Sp.short; omega, fun k => ⟨by unfold Sp.inI; omega, okq, ⟨okr, okb⟩, ?_⟩, fun k => ?_⟩⟩)
  · have := cnt_eq_zero (v := b.natAbs)
    omega
  · obtain ⟨k1, k2⟩ := k
    have hne : a.natAbs % b.natAbs ≠ 0 := by omega
    generalize Sp.sg (Sp.isNeg a) (a.natAbs % b.natAbs) = r at *
    generalize Sp.sg (!(Sp.isNeg a == Sp.isNeg b)) (a.natAbs / b.natAbs) = q at *
    have hs : (r < 0 ∧ 0 < b) ∨ (0 < r ∧ b < 0) := by
      by_cases ka : Sp.isNeg a = true
      · have := hneg.1 ka
        have kb : ¬b < 0 := fun x => k2 (by rw [ka, isNeg_iff.2 x])
        exact .inl ⟨by omega, by omega⟩
      · have := hneg.2 ka
        by_cases kb : b < 0
        · exact .inr ⟨by omega, kb⟩
        · exact absurd (by rw [Bool.eq_false_iff.2 ka, isNeg_false kb]) k2
    obtain ⟨e1, e2⟩ := flo_unique (a := a) (b := b) (q := q - 1) (r := r + b) (by grind) (by omega)
    rw [e1, e2]
    exact .refl _
  · generalize hr : Sp.sg (Sp.isNeg a) (a.natAbs % b.natAbs) = r at *
    generalize Sp.sg (!(Sp.isNeg a == Sp.isNeg b)) (a.natAbs / b.natAbs) = q at *
    have hs : r = 0 ∨ (r < 0 ∧ b < 0) ∨ (0 < r ∧ 0 < b) := by
      by_cases hz : a.natAbs % b.natAbs = 0
      · left; omega
      · right
        have k : Sp.isNeg a = Sp.isNeg b := Classical.byContradiction fun k2 => k ⟨by omega, k2⟩
        by_cases ka : Sp.isNeg a = true
        · have := hneg.1 ka
          exact .inl ⟨by omega, isNeg_iff.1 (k ▸ ka)⟩
        · have := hneg.2 ka
          have : ¬b < 0 := fun x => ka (by rw [k]; exact isNeg_iff.2 x)
          exact .inr ⟨by omega, by omega⟩
    obtain ⟨e1, e2⟩ := flo_unique (a := a) (b := b) (q := q) (r := r) heq (by omega)
    rw [e1, e2]
    exact .refl _
theorem ev79_b (fa : Bool) (a : Int) (h : Sp.cnt a.natAbs ≤ 399000) : Ev M1 (.pure 79 [bigA fa a, .agg [.bool false, .vec false 1 ((Sp.limI 2).map (.int .u32))]]) (.tup [bigA false (Sp.flo a 2), bigA false (Sp.flr a 2), .int .i64 0]) [] :=
  ev79 fa false a 2 ⟨h, by have := cnt_small (n := (2 : Int).natAbs) (by decide); omega, by decide⟩
theorem gcd_step (x y : Nat) : Nat.gcd y (x % y) = Nat.gcd x y := by rw [Nat.gcd_comm x y, Nat.gcd_rec y x, Nat.gcd_comm]
theorem rgcdW (n : Nat) : ∀ u v : Nat, v ≤ n → u ≤ 18446744073709551615 → v ≤ 18446744073709551615 → rGCDW_at u v (PureQ (bigA false (Nat.gcd u v : Nat))) := by
  have base : ∀ u : Nat, u ≤ 18446744073709551615 → rGCDW_at u (0 : Nat) (PureQ (bigA false (Nat.gcd u 0 : Nat))) := by
    intro u hu
    refine rGCDW _ _ _ ⟨fun h => by omega, fun _ => ⟨by omega, by have := cnt_u64 (u := u) hu; rw [Int.toNat_natCast]; unfold Sp.short; omega, ?_⟩⟩
    rw [Int.toNat_natCast, sg_false, Nat.gcd_zero_right]; exact .refl _
  induction n with
  | zero =>
    intro u v hv hu hv2
    have : v = 0 := by omega
    subst this
    exact base u hu
  | succ n ih =>
    intro u v hv hu hv2
    by_cases h0 : v = 0
    · subst h0; exact base u hu
    · refine rGCDW _ _ _ ⟨fun h => ⟨by omega, ?_⟩, fun h => absurd h (by omega)⟩
      rw [← Int.ofNat_tmod]
      have hlt := Nat.mod_lt u (show 0 < v by omega)
      have := ih v (u % v) (by omega) hv2 (by omega)
      rwa [gcd_step] at this
theorem rgcdH (n : Nat) : ∀ (fx fy : Bool) (x y : Nat), y ≤ n → Sp.cnt x ≤ 399000 → Sp.cnt y ≤ 399000 → rGCDH_at fx fy x y (PureQ (bigA false (Nat.gcd x y : Nat))) := by
  have small : ∀ x : Nat, Sp.cnt x ≤ 2 → x ≤ 18446744073709551615 := by
    intro x h
    have f := fits_mono (fits_self x) h
    have : x < 1000000000000000000 := by unfold Sp.fits at f; simpa using f
    omega
  induction n with
  | zero =>
    intro fx fy x y hy hx hcy
    have : y = 0 := by omega
    subst this
    refine rGCDH _ _ _ _ _ ⟨fun h => ?_, fun _ => ⟨fun _ => ⟨by unfold Sp.short; omega, ?_⟩, fun h => ?_⟩⟩
    · have := h.1
      rw [lim_len, cnt_zero] at this; omega
    · rw [sg_false, Nat.gcd_zero_right]; exact .refl _
    · rw [lim_len, cnt_zero] at h; omega
  | succ n ih =>
    intro fx fy x y hy hx hcy
    have hc := cnt_eq_zero (v := y)
    refine rGCDH _ _ _ _ _ ⟨fun h => ?_, fun h => ⟨fun k => ⟨by unfold Sp.short; omega, ?_⟩, fun k => ?_⟩⟩
    · rw [lim_len, lim_len] at h
      have h0 : y ≠ 0 := fun e => by have := hc.2 e; omega
      have hlt := Nat.mod_lt x (show 0 < y by omega)
      have := ih fy false y (x % y) (by omega) hcy (by have := cnt_mono (Nat.le_of_lt hlt); omega)
      rw [gcd_step] at this
      exact ⟨⟨hx, hcy, h0⟩, this⟩
    · rw [lim_len] at k
      have : y = 0 := hc.1 (by omega)
      rw [this, sg_false, Nat.gcd_zero_right]; exact .refl _
    · rw [lim_len, lim_len] at h
      rw [lim_len] at k
      exact ⟨by omega, by omega, rgcdW y x y (Nat.le_refl _) (small x (by omega)) (small y (by omega))⟩
theorem ev63 (fa fb : Bool) (a b : Int) (h : Sp.cnt a.natAbs ≤ 399000 ∧ Sp.cnt b.natAbs ≤ 399000) : Ev M1 (.pure 63 [bigA fa a, bigA fb b]) (bigA false (Int.gcd a b : Nat)) [] :=
  call63 (rGCD _ _ _ _ _ (rgcdH b.natAbs fa fb a.natAbs b.natAbs (Nat.le_refl _) h.1 h.2))
end Go.Av

namespace Go.Av
open Go.Proofs
theorem cnt_pow (k : Nat) : Sp.cnt (1000000000 ^ k) = k + 1 := by
  have h1 := fits_cnt.1 (fits_pow (show k < k + 1 by omega))
  have h2 : ¬Sp.fits k (1000000000 ^ k) := fun h => Nat.lt_irrefl _ h
  have h3 : ¬Sp.cnt (1000000000 ^ k) ≤ k := fun h => h2 (fits_cnt.2 h)
  omega
abbrev unitA (k : Nat) : AV := .agg [.bool false, .vec false 1 ((List.replicate k (0 : Int) ++ [1]).map (.int .u32))]
theorem unit_big (k : Nat) : unitA k = bigA false ((1000000000 ^ k : Nat) : Int) := by
  show _ = AV.agg [.bool (Sp.isNeg ((1000000000 ^ k : Nat) : Int)), .vec false 1 ((Sp.limI ((1000000000 ^ k : Nat) : Int)).map (.int .u32))]
  rw [isNeg_nat, limI_natAbs, Int.natAbs_natCast, cnt_pow, limN_unit]
def Sp.okK (k : Nat) : Prop := k ≤ 390000
theorem okK_cnt {k : Nat} (h : Sp.okK k) : Sp.cnt (((1000000000 ^ k : Nat) : Int)).natAbs ≤ 399000 := by
  rw [Int.natAbs_natCast, cnt_pow]; unfold Sp.okK at h; omega
theorem okK_okB {k : Nat} (h : Sp.okK k) : Sp.okB ((1000000000 ^ k : Nat) : Int) := by
  have := okK_cnt h
  unfold Sp.okB; omega
def Sp.bk (k : Nat) : Nat := 1000000000 ^ k
theorem unit_bk (k : Nat) : unitA k = bigA false (Sp.bk k : Int) := unit_big k
theorem ev79_c (fa : Bool) (a : Int) (k : Nat) (h : Sp.cnt a.natAbs ≤ 399000 ∧ Sp.okK k) : Ev M1 (.pure 79 [bigA fa a, unitA k]) (.tup [bigA false (Sp.flo a (Sp.bk k : Int)), bigA false (Sp.flr a (Sp.bk k : Int)), .int .i64 0]) [] := by
  rw [unit_bk]
  refine ev79 fa false a _ ⟨h.1, okK_cnt h.2, ?_⟩
  have : 0 < Sp.bk k := Nat.pow_pos (by omega)
  omega
theorem ev70_a (fb : Bool) (b : Int) (k : Nat) (h : Sp.okK k ∧ Sp.okB b) : Ev M1 (.pure 70 [unitA k, bigA fb b]) (bigA false ((Sp.bk k : Int) + b)) [] := by
  rw [unit_bk]
  exact ev70 false fb _ b ⟨okK_okB h.1, h.2⟩
theorem ev106_a (fa : Bool) (a : Int) (k : Nat) (h : Sp.okB a ∧ Sp.okK k) : Ev M1 (.pure 106 [bigA fa a, unitA k]) (.int .i64 (Sp.sgnI (a - (Sp.bk k : Int)))) [] := by
  rw [unit_bk]
  exact ev106 fa false a _ ⟨h.1, okK_okB h.2⟩
end Go.Av

namespace Go.Av
open Go.Proofs
set_option maxRecDepth 100000
def fi94 : Fi := ⟨52, [.cell 2 24, .tmp 3]⟩
def kp94 : List (Nat × List Nat) := [(0, [1, 2]), (1, [1, 2, 13]), (2, [2, 3]), (3, [1, 2, 18]), (4, [2, 3]), (5, [1, 2, 4]), (6, [1, 2, 4, 5]), (7, [1, 2, 4, 5, 6]), (8, [1, 2, 4, 5, 9]), (9, [1, 2, 4, 5, 9, 49]), (10, [2, 3]), (11, [1, 2, 4, 5])]
def rSqrt_at (fa : Bool) (a : Int) (Q : AV → Heap → Prop) : Prop := Wp M1 (.run fi94 (atC (cd Try.f94) []) [(0, .agg [.bool (Sp.isNeg a), .vec fa 1 ((Sp.limI a).map (.int .u32))])] []) Q
def rSqrtF_at (fa : Bool) (a : Int) (k : Nat) (Q : AV → Heap → Prop) : Prop := Wp M1 (.run fi94 (atC (cd Try.f94) [1, 1, 1, 1, 1, 0, 0]) [(1, .ptr 0 0 0 0), (2, .ptr 1 0 0 0), (4, .ptr 2 0 0 0), (5, .ptr 3 0 0 0)] [⟨[.agg [.bool (Sp.isNeg a), .vec fa 1 ((Sp.limI a).map (.int .u32))]], 2, 0, false, false⟩, ⟨[.agg [.bool false, .vnil]], 2, 0, false, false⟩, ⟨[.agg [.bool false, .row 4 1]], 2, 0, false, false⟩, ⟨[.agg [.bool false, .vec false 1 ((Sp.limI 2).map (.int .u32))]], 2, 0, false, false⟩, ⟨(List.replicate k (0 : Int) ++ [1]).map (.int .u32), 1, 1, false, true⟩]) Q
def rSqrtH_at (fa : Bool) (a x : Int) (Q : AV → Heap → Prop) : Prop := Wp M1 (.run fi94 (atC (cd Try.f94) [1, 1, 1, 1, 1, 0, 0]) [(1, .ptr 0 0 0 0), (2, .ptr 1 0 0 0), (4, .ptr 2 0 0 0), (5, .ptr 3 0 0 0)] [⟨[.agg [.bool (Sp.isNeg a), .vec fa 1 ((Sp.limI a).map (.int .u32))]], 2, 0, false, false⟩, ⟨[.agg [.bool false, .vnil]], 2, 0, false, false⟩, ⟨[.agg [.bool (Sp.isNeg x), .vec false 1 ((Sp.limI x).map (.int .u32))]], 2, 0, false, false⟩, ⟨[.agg [.bool false, .vec false 1 ((Sp.limI 2).map (.int .u32))]], 2, 0, false, false⟩]) Q
theorem call94 {args : List AV} {d : AV} (h : Wp M1 (.run fi94 [.code (cd Try.f94)] (argVars 0 args) []) (PureQ d)) : Ev M1 (.pure 94 args) d [] :=
  pure_pq Try.f94 fi94 (by kernel_rfl) (by kernel_rfl) (by kernel_rfl) (by kernel_rfl) h
theorem rSqrt (fa : Bool) (a : Int)  (dq : AV) (H :
    ((Sp.isNeg a = true) -> Weak (tu [ag [vb false, AV.vnil], vi 7]) dq) /\
    (¬(Sp.isNeg a = true) -> (((↑(Sp.limI a).length : Int) = 0) -> Weak (tu [ag [vb false, AV.vnil], vi 0]) dq) /\
      (¬((↑(Sp.limI a).length : Int) = 0) -> (-9223372036854775808 <= (↑(Sp.limI a).length : Int) + 1 /\ (↑(Sp.limI a).length : Int) + 1 <= 9223372036854775807) /\
        (-9223372036854775808 <= ((↑(Sp.limI a).length : Int) + 1).tdiv 2 /\ ((↑(Sp.limI a).length : Int) + 1).tdiv 2 <= 9223372036854775807) /\
        (0 <= ((↑(Sp.limI a).length : Int) + 1).tdiv 2) /\
        (((↑(Sp.limI a).length : Int) + 1).tdiv 2 * 4 <= 1099511627776) /\
        (((↑(Sp.limI a).length : Int) + 1).tdiv 2 <= 1099511627776) /\
        (((List.replicate (((↑(Sp.limI a).length : Int) + 1).tdiv 2).toNat (0 : Int)).length + 1) * 4 <= 1099511627776) /\
        (Sp.inI 2) /\
        rSqrtF_at (fa) (a) ((((↑(Sp.limI a).length : Int) + 1).tdiv 2).toNat) (PureQ dq)))) :
  rSqrt_at fa a (PureQ dq) := by
  unfold rSqrt_at
  rcases xm (Sp.isNeg a = true) with d2 | d2
  · have H := H.1 d2
    exact path_rq (G := given kp94 [] []) 1000 [true] (asm := [0 == 0, (Sp.isNeg a) == true, true]) (tu [ag [vb false, AV.vnil], vi 7]) (by kernel_rfl) (bc (beq_self_eq_true _) (bc (beq_t ((i_var _).2 d2)) (bc rfl b0))) q0 c0 H
  · have H := H.2 d2
    have w3 : (us (Sp.limI a)).length = (Sp.limI a).length := List.length_map ..
    have i4 : ((↑(us (Sp.limI a)).length : Int) == 0) = true ↔ ((↑(Sp.limI a).length : Int) = 0) := (by (try rw [w3]); all_goals exact i_eq)
    rcases xm ((↑(Sp.limI a).length : Int) = 0) with d5 | d5
    · have H := H.1 d5
      exact path_rq (G := given kp94 [] []) 1000 [false, true] (asm := [0 == 0, (Sp.isNeg a) == false, true, ((↑(us (Sp.limI a)).length : Int) == 0) == true, true]) (tu [ag [vb false, AV.vnil], vi 0]) (by kernel_rfl) (bc (beq_self_eq_true _) (bc (beq_f (fun h => d2 ((i_var _).1 h))) (bc rfl (bc (beq_t (i4.2 d5)) (bc rfl b0))))) q0 c0 H
    · have H := H.2 d5
      obtain ⟨k6, H⟩ := H
      have w7 : wi ((↑(Sp.limI a).length : Int) + 1) = (↑(Sp.limI a).length : Int) + 1 := wI64 k6
      obtain ⟨k8, H⟩ := H
      have w9 : wi (((↑(Sp.limI a).length : Int) + 1).tdiv 2) = ((↑(Sp.limI a).length : Int) + 1).tdiv 2 := wI64 k8
      have i10 : (decide (0 <= wi ((wi ((↑(us (Sp.limI a)).length : Int) + 1)).tdiv 2))) = true ↔ (0 <= ((↑(Sp.limI a).length : Int) + 1).tdiv 2) := (by (try rw [w3]); (try rw [w7]); (try rw [w9]); all_goals exact i_dec)
      obtain ⟨k11, H⟩ := H
      have i12 : (decide (wi ((wi ((↑(us (Sp.limI a)).length : Int) + 1)).tdiv 2) <= wi ((wi ((↑(us (Sp.limI a)).length : Int) + 1)).tdiv 2))) = true ↔ (((↑(Sp.limI a).length : Int) + 1).tdiv 2 <= ((↑(Sp.limI a).length : Int) + 1).tdiv 2) := (by (try rw [w3]); (try rw [w7]); (try rw [w9]); all_goals exact i_dec)
      have i13 : (decide (wi ((wi ((↑(us (Sp.limI a)).length : Int) + 1)).tdiv 2) * 4 <= 1099511627776)) = true ↔ (((↑(Sp.limI a).length : Int) + 1).tdiv 2 * 4 <= 1099511627776) := (by (try rw [w3]); (try rw [w7]); (try rw [w9]); all_goals exact i_dec)
      obtain ⟨k14, H⟩ := H
      have i15 : (decide (wi ((wi ((↑(us (Sp.limI a)).length : Int) + 1)).tdiv 2) <= 1099511627776)) = true ↔ (((↑(Sp.limI a).length : Int) + 1).tdiv 2 <= 1099511627776) := (by (try rw [w3]); (try rw [w7]); (try rw [w9]); all_goals exact i_dec)
      obtain ⟨k16, H⟩ := H
      have w17 : List.replicate (((↑(Sp.limI a).length : Int) + 1).tdiv 2).toNat (vu 0) = us (List.replicate (((↑(Sp.limI a).length : Int) + 1).tdiv 2).toNat (0 : Int)) := (lm_rep rfl)
      have w18 : (us (List.replicate (((↑(Sp.limI a).length : Int) + 1).tdiv 2).toNat (0 : Int))).length = (List.replicate (((↑(Sp.limI a).length : Int) + 1).tdiv 2).toNat (0 : Int)).length := List.length_map ..
      have i19 : (decide (((List.replicate (wi ((wi ((↑(us (Sp.limI a)).length : Int) + 1)).tdiv 2)).toNat (vu 0)).length + 1) * 4 <= 1099511627776)) = true ↔ (((List.replicate (((↑(Sp.limI a).length : Int) + 1).tdiv 2).toNat (0 : Int)).length + 1) * 4 <= 1099511627776) := (by (try rw [w3]); (try rw [w7]); (try rw [w9]); (try rw [w17]); (try rw [w18]); all_goals exact i_dec)
      obtain ⟨k20, H⟩ := H
      have w21 : us (List.replicate (((↑(Sp.limI a).length : Int) + 1).tdiv 2).toNat (0 : Int)) ++ [vu 1] = us (List.replicate (((↑(Sp.limI a).length : Int) + 1).tdiv 2).toNat (0 : Int) ++ [1]) := (lm_app rfl rfl)
      obtain ⟨k22, H⟩ := H
      exact path_wp (G := given kp94 [(6, 0, .call (ag [vb false, vf (us (Sp.limI 2))]) none)] []) 1000 [false, false] ⟨(atC (cd Try.f94) [1, 1, 1, 1, 1, 0, 0]), [(1, AV.ptr 0 0 0 0), (2, AV.ptr 1 0 0 0), (4, AV.ptr 3 0 0 0), (5, AV.ptr 4 0 0 0)], [⟨[bigA fa a], 2, 0, false, false⟩, ⟨[ag [vb false, AV.vnil]], 2, 0, false, false⟩, ⟨List.replicate (wi ((wi ((↑(us (Sp.limI a)).length : Int) + 1)).tdiv 2)).toNat (vu 0) ++ [vu 1], 1, 1, false, true⟩, ⟨[ag [vb false, AV.row 2 1]], 2, 0, false, false⟩, ⟨[ag [vb false, vf (us (Sp.limI 2))]], 2, 0, false, false⟩], [0 == 0, (Sp.isNeg a) == false, true, ((↑(us (Sp.limI a)).length : Int) == 0) == false, true, true, decide (0 <= wi ((wi ((↑(us (Sp.limI a)).length : Int) + 1)).tdiv 2)), decide (wi ((wi ((↑(us (Sp.limI a)).length : Int) + 1)).tdiv 2) <= wi ((wi ((↑(us (Sp.limI a)).length : Int) + 1)).tdiv 2)), decide (wi ((wi ((↑(us (Sp.limI a)).length : Int) + 1)).tdiv 2) * 4 <= 1099511627776), decide (wi ((wi ((↑(us (Sp.limI a)).length : Int) + 1)).tdiv 2) <= 1099511627776), true, decide (((List.replicate (wi ((wi ((↑(us (Sp.limI a)).length : Int) + 1)).tdiv 2)).toNat (vu 0)).length + 1) * 4 <= 1099511627776), true, true], [], _⟩ (by kernel_rfl) (bc (beq_self_eq_true _) (bc (beq_f (fun h => d2 ((i_var _).1 h))) (bc rfl (bc (beq_f (fun h => d5 (i4.1 h))) (bc rfl (bc rfl (bc (i10.2 k11) (bc (i12.2 (by omega)) (bc (i13.2 k14) (bc (i15.2 k16) (bc rfl (bc (i19.2 k20) (bc rfl (bc rfl b0)))))))))))))) q0 (ce (@ev46 (2) k22) c0) (by (try rw [w3]); (try rw [w7]); (try rw [w9]); (try rw [w17]); (try rw [w21]); all_goals exact wp_narrow [0, 1, 3, 4, 2] (by kernel_rfl) H)
abbrev zNwF1 (k : Nat) (a : Int) := (↑(Sp.bk k) : Int) + Sp.flo a (↑(Sp.bk k) : Int)
abbrev zNwF2 := ag [vb false, vf (us (Sp.limI 2))]
abbrev zNwF3 (k : Nat) := ag [vb false, vf (us (List.replicate k (0 : Int) ++ [1]))]
theorem rSqrtF (fa : Bool) (a : Int) (k : Nat)  (dq : AV) (H :
    (Sp.cnt a.natAbs <= 399000 /\ Sp.okK k) /\
    (Sp.okK k /\ Sp.okB (Sp.flo a (↑(Sp.bk k) : Int))) /\
    (Sp.cnt ((↑(Sp.bk k) : Int) + Sp.flo a (↑(Sp.bk k) : Int)).natAbs <= 399000) /\
    (Sp.okB (Sp.flo ((↑(Sp.bk k) : Int) + Sp.flo a (↑(Sp.bk k) : Int)) 2) /\ Sp.okK k) /\
    ((Sp.sgnI (Sp.flo ((↑(Sp.bk k) : Int) + Sp.flo a (↑(Sp.bk k) : Int)) 2 - (↑(Sp.bk k) : Int)) >= 0) -> Weak (tu [ag [vb false, vf (us (List.replicate k (0 : Int) ++ [1]))], vi 0]) dq) /\
    (¬(Sp.sgnI (Sp.flo ((↑(Sp.bk k) : Int) + Sp.flo a (↑(Sp.bk k) : Int)) 2 - (↑(Sp.bk k) : Int)) >= 0) -> rSqrtH_at (fa) (a) (Sp.flo ((↑(Sp.bk k) : Int) + Sp.flo a (↑(Sp.bk k) : Int)) 2) (PureQ dq))) :
  rSqrtF_at fa a k (PureQ dq) := by
  unfold rSqrtF_at
  obtain ⟨k1, H⟩ := H
  obtain ⟨k2, H⟩ := H
  obtain ⟨k3, H⟩ := H
  refine path_wp (G := given kp94 [(7, 2, .call (tu [bigA false (Sp.flo a (↑(Sp.bk k) : Int)), bigA false (Sp.flr a (↑(Sp.bk k) : Int)), vi 0]) none), (8, 2, .call (bigA false (zNwF1 k a)) none), (8, 4, .call (tu [bigA false (Sp.flo (zNwF1 k a) 2), bigA false (Sp.flr (zNwF1 k a) 2), vi 0]) none)] []) 4 [] ⟨(atC (cd Try.f94) [1, 1, 1, 1, 1, 0, 0, 0, 1, 0]), [(1, AV.ptr 0 0 0 0), (2, AV.ptr 1 0 0 0), (4, AV.ptr 2 0 0 0), (5, AV.ptr 3 0 0 0), (6, AV.ptr 5 0 0 0)], [⟨[bigA fa a], 2, 0, false, false⟩, ⟨[ag [vb false, AV.vnil]], 2, 0, false, false⟩, ⟨[ag [vb false, AV.row 4 1]], 2, 0, false, false⟩, ⟨[zNwF2], 2, 0, false, false⟩, ⟨us (List.replicate k (0 : Int) ++ [1]), 1, 1, true, true⟩, ⟨[bigA false (Sp.flo a (↑(Sp.bk k) : Int))], 2, 0, false, false⟩, ⟨[bigA false (Sp.flr a (↑(Sp.bk k) : Int))], 2, 0, false, false⟩], _, [], _⟩ (by kernel_rfl) (bc rfl (bc rfl (bc rfl (bc rfl (bc rfl b0))))) q0 (ce (@ev79_c (fa) (a) (k) k1) c0) (wp_both (G := given kp94 [(7, 2, .call (tu [bigA false (Sp.flo a (↑(Sp.bk k) : Int)), bigA false (Sp.flr a (↑(Sp.bk k) : Int)), vi 0]) none), (8, 2, .call (bigA false (zNwF1 k a)) none), (8, 4, .call (tu [bigA false (Sp.flo (zNwF1 k a) 2), bigA false (Sp.flr (zNwF1 k a) 2), vi 0]) none)] []) [0, 1, 2, 3, 4, 5, 6, 8, 7] 9 (e1 := [(1, AV.ptr 0 0 0 0), (2, AV.ptr 1 0 0 0), (4, AV.ptr 2 0 0 0), (5, AV.ptr 3 0 0 0), (9, AV.ptr 7 0 0 0)]) (L1 := [⟨[bigA fa a], 2, 0, false, false⟩, ⟨[ag [vb false, AV.vnil]], 2, 0, false, false⟩, ⟨[ag [vb false, AV.row 4 1]], 2, 0, false, false⟩, ⟨[zNwF2], 2, 0, false, false⟩, ⟨us (List.replicate k (0 : Int) ++ [1]), 1, 1, true, true⟩, ⟨[bigA false (Sp.flo a (↑(Sp.bk k) : Int))], 2, 0, false, false⟩, ⟨[bigA false (Sp.flr a (↑(Sp.bk k) : Int))], 2, 0, false, false⟩, ⟨[bigA false (Sp.flo (zNwF1 k a) 2)], 2, 0, false, false⟩, ⟨[bigA false (Sp.flr (zNwF1 k a) 2)], 2, 0, false, false⟩]) (a := [true, true, true, true, true, true]) (q := []) (cs := [⟨true, false, 70, [(zNwF3 k), bigA false (Sp.flo a (↑(Sp.bk k) : Int))], [], bigA false (zNwF1 k a), []⟩, ⟨true, false, 79, [bigA false (zNwF1 k a), zNwF2], [], tu [bigA false (Sp.flo (zNwF1 k a) 2), bigA false (Sp.flr (zNwF1 k a) 2), vi 0], []⟩]) (by kernel_rfl) (by kernel_rfl) (allB_cons rfl (allB_cons rfl (allB_cons rfl (allB_cons rfl (allB_cons rfl (allB_cons rfl allB_nil)))))) allP_nil (allC_cons (fun _ => (@ev70_a (false) (Sp.flo a (↑(Sp.bk k) : Int)) (k) k2)) (allC_cons (fun _ => (@ev79_b (false) (zNwF1 k a) k3)) allC_nil)) ?_)
  obtain ⟨k4, H⟩ := H
  refine path_wp (G := given kp94 [(9, 2, .call (vi (Sp.sgnI (Sp.flo (zNwF1 k a) 2 - (↑(Sp.bk k) : Int)))) none)] []) 3 [] ⟨(atC (cd Try.f94) [1, 1, 1, 1, 1, 0, 0, 0, 1, 1, 0, 1]), [(1, AV.ptr 0 0 0 0), (2, AV.ptr 1 0 0 0), (4, AV.ptr 2 0 0 0), (5, AV.ptr 3 0 0 0), (9, AV.ptr 7 0 0 0), (49, vb (decide (Sp.sgnI (Sp.flo (zNwF1 k a) 2 - (↑(Sp.bk k) : Int)) >= 0)))], [⟨[bigA fa a], 2, 0, false, false⟩, ⟨[ag [vb false, AV.vnil]], 2, 0, false, false⟩, ⟨[ag [vb false, AV.row 4 1]], 2, 0, false, false⟩, ⟨[zNwF2], 2, 0, false, false⟩, ⟨us (List.replicate k (0 : Int) ++ [1]), 1, 1, true, true⟩, ⟨[bigA false (Sp.flo a (↑(Sp.bk k) : Int))], 2, 0, false, false⟩, ⟨[bigA false (Sp.flr a (↑(Sp.bk k) : Int))], 2, 0, false, false⟩, ⟨[bigA false (Sp.flo (zNwF1 k a) 2)], 2, 0, false, false⟩, ⟨[bigA false (Sp.flr (zNwF1 k a) 2)], 2, 0, false, false⟩], _, [], _⟩ (by kernel_rfl) (bc rfl (bc rfl (bc rfl b0))) q0 (ce (@ev106_a (false) (Sp.flo (zNwF1 k a) 2) (k) k4) c0) ?_
  rcases xm (Sp.sgnI (Sp.flo (zNwF1 k a) 2 - (↑(Sp.bk k) : Int)) >= 0) with d6 | d6
  · have H := H.1 d6
    exact path_ret (G := given kp94 [] []) 1000 [true] (k := ((atC (cd Try.f94) [1, 1, 1, 1, 1, 0, 0, 0, 1, 1, 0, 1, 0, 1])).tail) (env' := [(2, AV.ptr 1 0 0 0), (3, vi 0)]) (L' := [⟨[bigA fa a], 2, 0, false, false⟩, ⟨[ag [vb false, AV.row 4 1]], 2, 0, false, false⟩, ⟨[ag [vb false, AV.row 4 1]], 2, 0, false, false⟩, ⟨[zNwF2], 2, 0, false, false⟩, ⟨us (List.replicate k (0 : Int) ++ [1]), 1, 1, true, true⟩, ⟨[bigA false (Sp.flo a (↑(Sp.bk k) : Int))], 2, 0, false, false⟩, ⟨[bigA false (Sp.flr a (↑(Sp.bk k) : Int))], 2, 0, false, false⟩, ⟨[bigA false (Sp.flo (zNwF1 k a) 2)], 2, 0, false, false⟩, ⟨[bigA false (Sp.flr (zNwF1 k a) 2)], 2, 0, false, false⟩]) (asm := [(decide (Sp.sgnI (Sp.flo (zNwF1 k a) 2 - (↑(Sp.bk k) : Int)) >= 0)) == true, true, true]) (eqs := []) (calls := []) (tu [ag [vb false, AV.row 4 1], vi 0]) (by kernel_rfl) (by kernel_rfl) (allB_cons (beq_t (i_dec.2 d6)) (allB_cons rfl (allB_cons rfl allB_nil))) allP_nil allC_nil (pq_weak (d := (tu [(zNwF3 k), vi 0])) (bs := [1 == 1]) (by kernel_rfl) (by kernel_rfl) (allB_cons (beq_self_eq_true _) allB_nil) (by kernel_rfl) H)
  · have H := H.2 d6
    exact path_wp (G := given kp94 [] []) 1000 [false] ⟨(atC (cd Try.f94) [1, 1, 1, 1, 1, 0, 0]), [(1, AV.ptr 0 0 0 0), (2, AV.ptr 1 0 0 0), (4, AV.ptr 2 0 0 0), (5, AV.ptr 3 0 0 0)], [⟨[bigA fa a], 2, 0, false, false⟩, ⟨[ag [vb false, AV.vnil]], 2, 0, false, false⟩, ⟨[bigA false (Sp.flo (zNwF1 k a) 2)], 2, 0, false, false⟩, ⟨[zNwF2], 2, 0, false, false⟩, ⟨us (List.replicate k (0 : Int) ++ [1]), 1, 1, true, true⟩, ⟨[bigA false (Sp.flo a (↑(Sp.bk k) : Int))], 2, 0, false, false⟩, ⟨[bigA false (Sp.flr a (↑(Sp.bk k) : Int))], 2, 0, false, false⟩, ⟨[bigA false (Sp.flo (zNwF1 k a) 2)], 2, 0, false, false⟩, ⟨[bigA false (Sp.flr (zNwF1 k a) 2)], 2, 0, false, false⟩], _, [], _⟩ (by kernel_rfl) (bc (beq_f (fun h => d6 (i_dec.1 h))) (bc rfl (bc rfl b0))) q0 c0 (wp_narrow [0, 1, 2, 3] (by kernel_rfl) H)
abbrev zNwF4 := ag [vb false, vf (us (Sp.limI 2))]
theorem rSqrtH (fa : Bool) (a x : Int)  (dq : AV) (H :
    (Sp.cnt a.natAbs <= 399000 /\ Sp.cnt x.natAbs <= 399000 /\ x ≠ 0) /\
    (Sp.okB x /\ Sp.okB (Sp.flo a x)) /\
    (Sp.cnt (x + Sp.flo a x).natAbs <= 399000) /\
    (Sp.okB (Sp.flo (x + Sp.flo a x) 2) /\ Sp.okB x) /\
    ((Sp.sgnI (Sp.flo (x + Sp.flo a x) 2 - x) >= 0) -> Weak (tu [bigA false x, vi 0]) dq) /\
    (¬(Sp.sgnI (Sp.flo (x + Sp.flo a x) 2 - x) >= 0) -> rSqrtH_at (fa) (a) (Sp.flo (x + Sp.flo a x) 2) (PureQ dq))) :
  rSqrtH_at fa a x (PureQ dq) := by
  unfold rSqrtH_at
  obtain ⟨k1, H⟩ := H
  obtain ⟨k2, H⟩ := H
  obtain ⟨k3, H⟩ := H
  refine path_wp (G := given kp94 [(7, 2, .call (tu [bigA false (Sp.flo a x), bigA false (Sp.flr a x), vi 0]) none), (8, 2, .call (bigA false (x + Sp.flo a x)) none), (8, 4, .call (tu [bigA false (Sp.flo (x + Sp.flo a x) 2), bigA false (Sp.flr (x + Sp.flo a x) 2), vi 0]) none)] []) 4 [] ⟨(atC (cd Try.f94) [1, 1, 1, 1, 1, 0, 0, 0, 1, 0]), [(1, AV.ptr 0 0 0 0), (2, AV.ptr 1 0 0 0), (4, AV.ptr 2 0 0 0), (5, AV.ptr 3 0 0 0), (6, AV.ptr 4 0 0 0)], [⟨[bigA fa a], 2, 0, false, false⟩, ⟨[ag [vb false, AV.vnil]], 2, 0, false, false⟩, ⟨[bigA false x], 2, 0, false, false⟩, ⟨[zNwF4], 2, 0, false, false⟩, ⟨[bigA false (Sp.flo a x)], 2, 0, false, false⟩, ⟨[bigA false (Sp.flr a x)], 2, 0, false, false⟩], _, [], _⟩ (by kernel_rfl) (bc rfl (bc rfl (bc rfl (bc rfl b0)))) q0 (ce (@ev79 (fa) (false) (a) (x) k1) c0) (wp_both (G := given kp94 [(7, 2, .call (tu [bigA false (Sp.flo a x), bigA false (Sp.flr a x), vi 0]) none), (8, 2, .call (bigA false (x + Sp.flo a x)) none), (8, 4, .call (tu [bigA false (Sp.flo (x + Sp.flo a x) 2), bigA false (Sp.flr (x + Sp.flo a x) 2), vi 0]) none)] []) [0, 1, 2, 3, 4, 5, 7, 6] 9 (e1 := [(1, AV.ptr 0 0 0 0), (2, AV.ptr 1 0 0 0), (4, AV.ptr 2 0 0 0), (5, AV.ptr 3 0 0 0), (9, AV.ptr 6 0 0 0)]) (L1 := [⟨[bigA fa a], 2, 0, false, false⟩, ⟨[ag [vb false, AV.vnil]], 2, 0, false, false⟩, ⟨[bigA false x], 2, 0, false, false⟩, ⟨[zNwF4], 2, 0, false, false⟩, ⟨[bigA false (Sp.flo a x)], 2, 0, false, false⟩, ⟨[bigA false (Sp.flr a x)], 2, 0, false, false⟩, ⟨[bigA false (Sp.flo (x + Sp.flo a x) 2)], 2, 0, false, false⟩, ⟨[bigA false (Sp.flr (x + Sp.flo a x) 2)], 2, 0, false, false⟩]) (a := [true, true, true, true, true]) (q := []) (cs := [⟨true, false, 70, [bigA false x, bigA false (Sp.flo a x)], [], bigA false (x + Sp.flo a x), []⟩, ⟨true, false, 79, [bigA false (x + Sp.flo a x), zNwF4], [], tu [bigA false (Sp.flo (x + Sp.flo a x) 2), bigA false (Sp.flr (x + Sp.flo a x) 2), vi 0], []⟩]) (by kernel_rfl) (by kernel_rfl) (allB_cons rfl (allB_cons rfl (allB_cons rfl (allB_cons rfl (allB_cons rfl allB_nil))))) allP_nil (allC_cons (fun _ => (@ev70 (false) (false) (x) (Sp.flo a x) k2)) (allC_cons (fun _ => (@ev79_b (false) (x + Sp.flo a x) k3)) allC_nil)) ?_)
  obtain ⟨k4, H⟩ := H
  refine path_wp (G := given kp94 [(9, 2, .call (vi (Sp.sgnI (Sp.flo (x + Sp.flo a x) 2 - x))) none)] []) 3 [] ⟨(atC (cd Try.f94) [1, 1, 1, 1, 1, 0, 0, 0, 1, 1, 0, 1]), [(1, AV.ptr 0 0 0 0), (2, AV.ptr 1 0 0 0), (4, AV.ptr 2 0 0 0), (5, AV.ptr 3 0 0 0), (9, AV.ptr 6 0 0 0), (49, vb (decide (Sp.sgnI (Sp.flo (x + Sp.flo a x) 2 - x) >= 0)))], [⟨[bigA fa a], 2, 0, false, false⟩, ⟨[ag [vb false, AV.vnil]], 2, 0, false, false⟩, ⟨[bigA false x], 2, 0, false, false⟩, ⟨[zNwF4], 2, 0, false, false⟩, ⟨[bigA false (Sp.flo a x)], 2, 0, false, false⟩, ⟨[bigA false (Sp.flr a x)], 2, 0, false, false⟩, ⟨[bigA false (Sp.flo (x + Sp.flo a x) 2)], 2, 0, false, false⟩, ⟨[bigA false (Sp.flr (x + Sp.flo a x) 2)], 2, 0, false, false⟩], _, [], _⟩ (by kernel_rfl) (bc rfl (bc rfl b0)) q0 (ce (@ev106 (false) (false) (Sp.flo (x + Sp.flo a x) 2) (x) k4) c0) ?_
  rcases xm (Sp.sgnI (Sp.flo (x + Sp.flo a x) 2 - x) >= 0) with d6 | d6
  · have H := H.1 d6
    exact path_rq (G := given kp94 [] []) 1000 [true] (tu [bigA false x, vi 0]) (by kernel_rfl) (bc (beq_t (i_dec.2 d6)) (bc rfl (bc rfl b0))) q0 c0 H
  · have H := H.2 d6
    exact path_wp (G := given kp94 [] []) 1000 [false] ⟨(atC (cd Try.f94) [1, 1, 1, 1, 1, 0, 0]), [(1, AV.ptr 0 0 0 0), (2, AV.ptr 1 0 0 0), (4, AV.ptr 2 0 0 0), (5, AV.ptr 3 0 0 0)], [⟨[bigA fa a], 2, 0, false, false⟩, ⟨[ag [vb false, AV.vnil]], 2, 0, false, false⟩, ⟨[bigA false (Sp.flo (x + Sp.flo a x) 2)], 2, 0, false, false⟩, ⟨[zNwF4], 2, 0, false, false⟩, ⟨[bigA false (Sp.flo a x)], 2, 0, false, false⟩, ⟨[bigA false (Sp.flr a x)], 2, 0, false, false⟩, ⟨[bigA false (Sp.flo (x + Sp.flo a x) 2)], 2, 0, false, false⟩, ⟨[bigA false (Sp.flr (x + Sp.flo a x) 2)], 2, 0, false, false⟩], _, [], _⟩ (by kernel_rfl) (bc (beq_f (fun h => d6 (i_dec.1 h))) (bc rfl (bc rfl b0))) q0 c0 (wp_narrow [0, 1, 2, 3] (by kernel_rfl) H)
end Go.Av

namespace Go.Av
open Go.Proofs
set_option maxRecDepth 100000
def fi74 : Fi := ⟨2, [.cell 0 24]⟩
def kp74 : List (Nat × List Nat) := [(0, [0]), (1, [0])]
def fi93 : Fi := ⟨16, [.cell 4 24]⟩
def kp93 : List (Nat × List Nat) := [(0, [2, 3, 4]), (1, [4, 5]), (2, [4])]
def vUnit_at  (Q : AV → Heap → Prop) : Prop := Wp M1 (.run fi74 (atC (cd Try.f74) []) [] []) Q
def vExact_at (fa fb : Bool) (a b : Int) (Q : AV → Heap → Prop) : Prop := Wp M1 (.run fi93 (atC (cd Try.f93) []) [(0, .agg [.bool (Sp.isNeg a), .vec fa 1 ((Sp.limI a).map (.int .u32))]), (1, .agg [.bool (Sp.isNeg b), .vec fb 1 ((Sp.limI b).map (.int .u32))])] []) Q
theorem call74 {args : List AV} {d : AV} (h : Wp M1 (.run fi74 [.code (cd Try.f74)] (argVars 0 args) []) (PureQ d)) : Ev M1 (.pure 74 args) d [] :=
  pure_pq Try.f74 fi74 (by kernel_rfl) (by kernel_rfl) (by kernel_rfl) (by kernel_rfl) h
theorem call93 {args : List AV} {d : AV} (h : Wp M1 (.run fi93 [.code (cd Try.f93)] (argVars 0 args) []) (PureQ d)) : Ev M1 (.pure 93 args) d [] :=
  pure_pq Try.f93 fi93 (by kernel_rfl) (by kernel_rfl) (by kernel_rfl) (by kernel_rfl) h
theorem vUnit   (dq : AV) (H :
    (Sp.inI 1) /\
    Weak (ag [vb false, vf (us (Sp.limI 1))]) dq) :
  vUnit_at  (PureQ dq) := by
  unfold vUnit_at
  obtain ⟨k1, H⟩ := H
  exact path_rq (G := given kp74 [(1, 0, .call (ag [vb false, vf (us (Sp.limI 1))]) none)] []) 1000 [] (ag [vb false, vf (us (Sp.limI 1))]) (by kernel_rfl) (bc rfl b0) q0 (ce (@ev59 (1) k1) c0) H
theorem vExact (fa fb : Bool) (a b : Int)  (dq : AV) (H :
    (Sp.okB a /\ Sp.okB b /\ b ≠ 0) /\
    Weak (bigA false (Sp.flo a b)) dq) :
  vExact_at fa fb a b (PureQ dq) := by
  unfold vExact_at
  obtain ⟨k1, H⟩ := H
  exact path_rq (G := given kp93 [(1, 2, .call (tu [bigA false (Sp.flo a b), bigA false (Sp.flr a b), vi 0]) none)] []) 1000 [] (bigA false (Sp.flo a b)) (by kernel_rfl) (bc rfl (bc rfl (bc rfl (bc rfl (bc rfl (bc rfl b0)))))) q0 (ce (@ev60 (fa) (fb) (a) (b) k1) c0) H
end Go.Av

namespace Go.Av
open Go.Proofs
theorem ev74 : Ev M1 (.pure 74 []) (.agg [.bool false, .vec false 1 ((Sp.limI 1).map (.int .u32))]) [] :=
  call74 (vUnit _ ⟨by unfold Sp.inI; omega, .refl _⟩)
theorem ev93 (fa fb : Bool) (a b : Int) (h : Sp.okB a ∧ Sp.okB b ∧ b ≠ 0) : Ev M1 (.pure 93 [bigA fa a, bigA fb b]) (bigA false (Sp.flo a b)) [] :=
  call93 (vExact _ _ _ _ _ ⟨h, .refl _⟩)
theorem ev66_a (fa : Bool) (a : Int) (h : Sp.okB a) : Ev M1 (.pure 66 [bigA fa a, .agg [.bool false, .vec false 1 ((Sp.limI 1).map (.int .u32))]]) (.int .i64 (Sp.sgnI (a - 1))) [] :=
  ev66 fa false a 1 ⟨h, okB_small (by decide)⟩
end Go.Av

namespace Go.Av
open Go.Proofs
set_option maxRecDepth 100000
def fi31 : Fi := ⟨6, [.tmp 2]⟩
def kp31 : List (Nat × List Nat) := [(0, [1]), (1, [2])]
def fi53 : Fi := ⟨9, [.cell 2 26]⟩
def kp53 : List (Nat × List Nat) := [(0, [1, 2]), (1, [2])]
def fi54 : Fi := ⟨16, [.cell 2 24]⟩
def kp54 : List (Nat × List Nat) := [(0, [1, 2]), (1, [2, 3]), (2, [2])]
def fi65 : Fi := ⟨22, [.cell 2 24, .tmp 3]⟩
def kp65 : List (Nat × List Nat) := [(0, [1, 2]), (1, [1, 2, 4, 5]), (2, [2, 3])]
def fi67 : Fi := ⟨29, [.cell 4 26]⟩
def kp67 : List (Nat × List Nat) := [(0, [2, 3, 4]), (1, [2, 3, 4, 8]), (2, [2, 3, 4]), (3, [2, 3, 4, 5]), (4, [2, 3, 4, 5, 19]), (5, [2, 3, 4]), (6, [4])]
def fi80 : Fi := ⟨6, [.cell 2 26]⟩
def kp80 : List (Nat × List Nat) := [(0, [1, 2]), (1, [2])]
def vWhole_at (fa : Bool) (a : Int) (Q : AV → Heap → Prop) : Prop := Wp M1 (.run fi80 (atC (cd Try.f80) []) [(0, .agg [.bool (Sp.isNeg a), .vec fa 1 ((Sp.limI a).map (.int .u32))])] []) Q
def vReduce_at (fa fb : Bool) (a b : Int) (Q : AV → Heap → Prop) : Prop := Wp M1 (.run fi67 (atC (cd Try.f67) []) [(0, .agg [.bool (Sp.isNeg a), .vec fa 1 ((Sp.limI a).map (.int .u32))]), (1, .agg [.bool (Sp.isNeg b), .vec fb 1 ((Sp.limI b).map (.int .u32))])] []) Q
def vRSign_at (fa ga : Bool) (p q : Int) (Q : AV → Heap → Prop) : Prop := Wp M1 (.run fi31 (atC (cd Try.f31) []) [(0, .agg [.bool (Sp.isNeg p), .vec fa 1 ((Sp.limI p).map (.int .u32)), .bool (Sp.isNeg q), .vec ga 1 ((Sp.limI q).map (.int .u32))])] []) Q
def vRNeg_at (fa ga : Bool) (p q : Int) (Q : AV → Heap → Prop) : Prop := Wp M1 (.run fi53 (atC (cd Try.f53) []) [(0, .agg [.bool (Sp.isNeg p), .vec fa 1 ((Sp.limI p).map (.int .u32)), .bool (Sp.isNeg q), .vec ga 1 ((Sp.limI q).map (.int .u32))])] []) Q
def vRFloor_at (fa ga : Bool) (p q : Int) (Q : AV → Heap → Prop) : Prop := Wp M1 (.run fi54 (atC (cd Try.f54) []) [(0, .agg [.bool (Sp.isNeg p), .vec fa 1 ((Sp.limI p).map (.int .u32)), .bool (Sp.isNeg q), .vec ga 1 ((Sp.limI q).map (.int .u32))])] []) Q
def vSide_at (fa : Bool) (a : Int) (Q : AV → Heap → Prop) : Prop := Wp M1 (.run fi65 (atC (cd Try.f65) []) [(0, .agg [.bool (Sp.isNeg a), .vec fa 1 ((Sp.limI a).map (.int .u32))])] []) Q
theorem call31 {args : List AV} {d : AV} (h : Wp M1 (.run fi31 [.code (cd Try.f31)] (argVars 0 args) []) (PureQ d)) : Ev M1 (.pure 31 args) d [] :=
  pure_pq Try.f31 fi31 (by kernel_rfl) (by kernel_rfl) (by kernel_rfl) (by kernel_rfl) h
theorem call53 {args : List AV} {d : AV} (h : Wp M1 (.run fi53 [.code (cd Try.f53)] (argVars 0 args) []) (PureQ d)) : Ev M1 (.pure 53 args) d [] :=
  pure_pq Try.f53 fi53 (by kernel_rfl) (by kernel_rfl) (by kernel_rfl) (by kernel_rfl) h
theorem call54 {args : List AV} {d : AV} (h : Wp M1 (.run fi54 [.code (cd Try.f54)] (argVars 0 args) []) (PureQ d)) : Ev M1 (.pure 54 args) d [] :=
  pure_pq Try.f54 fi54 (by kernel_rfl) (by kernel_rfl) (by kernel_rfl) (by kernel_rfl) h
theorem call65 {args : List AV} {d : AV} (h : Wp M1 (.run fi65 [.code (cd Try.f65)] (argVars 0 args) []) (PureQ d)) : Ev M1 (.pure 65 args) d [] :=
  pure_pq Try.f65 fi65 (by kernel_rfl) (by kernel_rfl) (by kernel_rfl) (by kernel_rfl) h
theorem call67 {args : List AV} {d : AV} (h : Wp M1 (.run fi67 [.code (cd Try.f67)] (argVars 0 args) []) (PureQ d)) : Ev M1 (.pure 67 args) d [] :=
  pure_pq Try.f67 fi67 (by kernel_rfl) (by kernel_rfl) (by kernel_rfl) (by kernel_rfl) h
theorem call80 {args : List AV} {d : AV} (h : Wp M1 (.run fi80 [.code (cd Try.f80)] (argVars 0 args) []) (PureQ d)) : Ev M1 (.pure 80 args) d [] :=
  pure_pq Try.f80 fi80 (by kernel_rfl) (by kernel_rfl) (by kernel_rfl) (by kernel_rfl) h
theorem vWhole (fa : Bool) (a : Int)  (dq : AV) (H :
    Weak (ag [vb (Sp.isNeg a), AV.vec fa 1 (us (Sp.limI a)), vb false, vf (us (Sp.limI 1))]) dq) :
  vWhole_at fa a (PureQ dq) := by
  unfold vWhole_at
  exact path_rq (G := given kp80 [(1, 1, .call (ag [vb false, vf (us (Sp.limI 1))]) none)] []) 1000 [] (ag [vb (Sp.isNeg a), AV.vec fa 1 (us (Sp.limI a)), vb false, vf (us (Sp.limI 1))]) (by kernel_rfl) (bc rfl (bc rfl b0)) q0 (ce (@ev74 ) c0) H
noncomputable abbrev zNvJ1 := ag [vb false, AV.vnil, vb false, AV.vnil]
theorem vReduce (fa fb : Bool) (a b : Int)  (dq : AV) (H :
    ((Sp.sgnI b < 0) -> (Sp.okB a) /\
      (Sp.okB b) /\
      (Sp.okB (-a) /\ Sp.okB (-b)) /\
      (Sp.okB (↑((-a).gcd (-b)) : Int)) /\
      ((¬Sp.sgnI ((↑((-a).gcd (-b)) : Int) - 1) = 0) -> (Sp.okB (-a) /\ Sp.okB (↑((-a).gcd (-b)) : Int) /\ (↑((-a).gcd (-b)) : Int) ≠ 0) /\
        (Sp.okB (-b) /\ Sp.okB (↑((-a).gcd (-b)) : Int) /\ (↑((-a).gcd (-b)) : Int) ≠ 0) /\
        Weak (ag [vb (Sp.isNeg (Sp.flo (-a) (↑((-a).gcd (-b)) : Int))), vf (us (Sp.limI (Sp.flo (-a) (↑((-a).gcd (-b)) : Int)))), vb (Sp.isNeg (Sp.flo (-b) (↑((-a).gcd (-b)) : Int))), vf (us (Sp.limI (Sp.flo (-b) (↑((-a).gcd (-b)) : Int))))]) dq) /\
      (¬(¬Sp.sgnI ((↑((-a).gcd (-b)) : Int) - 1) = 0) -> Weak (ag [vb (Sp.isNeg (-a)), vf (us (Sp.limI (-a))), vb (Sp.isNeg (-b)), vf (us (Sp.limI (-b)))]) dq)) /\
    (¬(Sp.sgnI b < 0) -> (Sp.okB a /\ Sp.okB b) /\
      (Sp.okB (↑(a.gcd b) : Int)) /\
      ((¬Sp.sgnI ((↑(a.gcd b) : Int) - 1) = 0) -> (Sp.okB a /\ Sp.okB (↑(a.gcd b) : Int) /\ (↑(a.gcd b) : Int) ≠ 0) /\
        (Sp.okB b /\ Sp.okB (↑(a.gcd b) : Int) /\ (↑(a.gcd b) : Int) ≠ 0) /\
        Weak (ag [vb (Sp.isNeg (Sp.flo a (↑(a.gcd b) : Int))), vf (us (Sp.limI (Sp.flo a (↑(a.gcd b) : Int)))), vb (Sp.isNeg (Sp.flo b (↑(a.gcd b) : Int))), vf (us (Sp.limI (Sp.flo b (↑(a.gcd b) : Int))))]) dq) /\
      (¬(¬Sp.sgnI ((↑(a.gcd b) : Int) - 1) = 0) -> Weak (ag [vb (Sp.isNeg a), AV.vec fa 1 (us (Sp.limI a)), vb (Sp.isNeg b), AV.vec fb 1 (us (Sp.limI b))]) dq))) :
  vReduce_at fa fb a b (PureQ dq) := by
  unfold vReduce_at
  refine path_wp (G := given kp67 [(1, 1, .call (vi (Sp.sgnI b)) none)] []) 5 [] ⟨(atC (cd Try.f67) [1, 0, 1]), [(2, AV.ptr 0 0 0 0), (3, AV.ptr 1 0 0 0), (4, AV.ptr 2 0 0 0), (8, vb (decide (Sp.sgnI b < 0)))], [⟨[bigA fa a], 2, 0, false, false⟩, ⟨[bigA fb b], 2, 0, false, false⟩, ⟨[zNvJ1], 4, 0, false, false⟩], _, [], _⟩ (by kernel_rfl) (bc rfl b0) q0 (ce (@ev64 (fb) (b)) c0) ?_
  rcases xm (Sp.sgnI b < 0) with d2 | d2
  · have H := H.1 d2
    obtain ⟨k3, H⟩ := H
    obtain ⟨k4, H⟩ := H
    obtain ⟨k5, H⟩ := H
    obtain ⟨k6, H⟩ := H
    refine path_wp (G := given kp67 [(2, 1, .call (bigA false (-a)) none), (2, 3, .call (bigA false (-b)) none), (3, 2, .call (bigA false (↑((-a).gcd (-b)) : Int)) none), (4, 1, .call (ag [vb false, vf (us (Sp.limI 1))]) none), (4, 2, .call (vi (Sp.sgnI ((↑((-a).gcd (-b)) : Int) - 1))) none)] []) 7 [true] ⟨(atC (cd Try.f67) [1, 1, 0, 1, 1]), [(2, AV.ptr 0 0 0 0), (3, AV.ptr 1 0 0 0), (4, AV.ptr 2 0 0 0), (5, AV.ptr 3 0 0 0), (19, vb (Sp.sgnI ((↑((-a).gcd (-b)) : Int) - 1) != 0))], [⟨[bigA false (-a)], 2, 0, false, false⟩, ⟨[bigA false (-b)], 2, 0, false, false⟩, ⟨[zNvJ1], 4, 0, false, false⟩, ⟨[bigA false (↑((-a).gcd (-b)) : Int)], 2, 0, false, false⟩], _, [], _⟩ (by kernel_rfl) (bc (beq_t (i_dec.2 d2)) (bc rfl (bc rfl (bc rfl (bc rfl (bc rfl (bc rfl (bc rfl (bc rfl b0))))))))) q0 (ce (@ev57 (fa) (a) k3) (ce (@ev57 (fb) (b) k4) (ce (@ev73 (false) (false) (-a) (-b) k5) (ce (@ev74 ) (ce (@ev66_a (false) ((↑((-a).gcd (-b)) : Int)) k6) c0))))) ?_
    rcases xm (¬Sp.sgnI ((↑((-a).gcd (-b)) : Int) - 1) = 0) with d8 | d8
    · have H := H.1 d8
      obtain ⟨k9, H⟩ := H
      obtain ⟨k10, H⟩ := H
      exact path_rq (G := given kp67 [(5, 2, .call (bigA false (Sp.flo (-a) (↑((-a).gcd (-b)) : Int))) none), (5, 5, .call (bigA false (Sp.flo (-b) (↑((-a).gcd (-b)) : Int))) none)] []) 1000 [true] (ag [vb (Sp.isNeg (Sp.flo (-a) (↑((-a).gcd (-b)) : Int))), vf (us (Sp.limI (Sp.flo (-a) (↑((-a).gcd (-b)) : Int)))), vb (Sp.isNeg (Sp.flo (-b) (↑((-a).gcd (-b)) : Int))), vf (us (Sp.limI (Sp.flo (-b) (↑((-a).gcd (-b)) : Int))))]) (by kernel_rfl) (bc (beq_t (i_ne.2 d8)) (bc rfl (bc rfl (bc rfl (bc rfl (bc rfl (bc rfl (bc rfl (bc rfl (bc rfl b0)))))))))) q0 (ce (@ev93 (false) (false) (-a) ((↑((-a).gcd (-b)) : Int)) k9) (ce (@ev93 (false) (false) (-b) ((↑((-a).gcd (-b)) : Int)) k10) c0)) H
    · have H := H.2 d8
      exact path_rq (G := given kp67 [] []) 1000 [false] (ag [vb (Sp.isNeg (-a)), vf (us (Sp.limI (-a))), vb (Sp.isNeg (-b)), vf (us (Sp.limI (-b)))]) (by kernel_rfl) (bc (beq_f (fun h => d8 (i_ne.1 h))) (bc rfl (bc rfl (bc rfl b0)))) q0 c0 H
  · have H := H.2 d2
    obtain ⟨k11, H⟩ := H
    obtain ⟨k12, H⟩ := H
    refine path_wp (G := given kp67 [(3, 2, .call (bigA false (↑(a.gcd b) : Int)) none), (4, 1, .call (ag [vb false, vf (us (Sp.limI 1))]) none), (4, 2, .call (vi (Sp.sgnI ((↑(a.gcd b) : Int) - 1))) none)] []) 7 [false] ⟨(atC (cd Try.f67) [1, 1, 0, 1, 1]), [(2, AV.ptr 0 0 0 0), (3, AV.ptr 1 0 0 0), (4, AV.ptr 2 0 0 0), (5, AV.ptr 3 0 0 0), (19, vb (Sp.sgnI ((↑(a.gcd b) : Int) - 1) != 0))], [⟨[bigA fa a], 2, 0, false, false⟩, ⟨[bigA fb b], 2, 0, false, false⟩, ⟨[zNvJ1], 4, 0, false, false⟩, ⟨[bigA false (↑(a.gcd b) : Int)], 2, 0, false, false⟩], _, [], _⟩ (by kernel_rfl) (bc (beq_f (fun h => d2 (i_dec.1 h))) (bc rfl (bc rfl (bc rfl (bc rfl b0))))) q0 (ce (@ev73 (fa) (fb) (a) (b) k11) (ce (@ev74 ) (ce (@ev66_a (false) ((↑(a.gcd b) : Int)) k12) c0))) ?_
    rcases xm (¬Sp.sgnI ((↑(a.gcd b) : Int) - 1) = 0) with d14 | d14
    · have H := H.1 d14
      obtain ⟨k15, H⟩ := H
      obtain ⟨k16, H⟩ := H
      exact path_rq (G := given kp67 [(5, 2, .call (bigA false (Sp.flo a (↑(a.gcd b) : Int))) none), (5, 5, .call (bigA false (Sp.flo b (↑(a.gcd b) : Int))) none)] []) 1000 [true] (ag [vb (Sp.isNeg (Sp.flo a (↑(a.gcd b) : Int))), vf (us (Sp.limI (Sp.flo a (↑(a.gcd b) : Int)))), vb (Sp.isNeg (Sp.flo b (↑(a.gcd b) : Int))), vf (us (Sp.limI (Sp.flo b (↑(a.gcd b) : Int))))]) (by kernel_rfl) (bc (beq_t (i_ne.2 d14)) (bc rfl (bc rfl (bc rfl (bc rfl (bc rfl (bc rfl (bc rfl (bc rfl (bc rfl b0)))))))))) q0 (ce (@ev93 (fa) (false) (a) ((↑(a.gcd b) : Int)) k15) (ce (@ev93 (fb) (false) (b) ((↑(a.gcd b) : Int)) k16) c0)) H
    · have H := H.2 d14
      exact path_rq (G := given kp67 [] []) 1000 [false] (ag [vb (Sp.isNeg a), AV.vec fa 1 (us (Sp.limI a)), vb (Sp.isNeg b), AV.vec fb 1 (us (Sp.limI b))]) (by kernel_rfl) (bc (beq_f (fun h => d14 (i_ne.1 h))) (bc rfl (bc rfl (bc rfl b0)))) q0 c0 H
theorem vRSign (fa ga : Bool) (p q : Int)  (dq : AV) (H :
    vi (Sp.sgnI p) = dq) :
  vRSign_at fa ga p q (PureQ dq) := by
  unfold vRSign_at
  exact path_re (G := given kp31 [(1, 2, .call (vi (Sp.sgnI p)) none)] []) 1000 [] (vi (Sp.sgnI p)) (by kernel_rfl) (bc rfl b0) q0 (ce (@ev64 (fa) (p)) c0) H
theorem vRNeg (fa ga : Bool) (p q : Int)  (dq : AV) (H :
    (Sp.okB p) /\
    Weak (ag [vb (Sp.isNeg (-p)), vf (us (Sp.limI (-p))), vb (Sp.isNeg q), AV.vec ga 1 (us (Sp.limI q))]) dq) :
  vRNeg_at fa ga p q (PureQ dq) := by
  unfold vRNeg_at
  obtain ⟨k1, H⟩ := H
  exact path_rq (G := given kp53 [(1, 2, .call (bigA false (-p)) none)] []) 1000 [] (ag [vb (Sp.isNeg (-p)), vf (us (Sp.limI (-p))), vb (Sp.isNeg q), AV.vec ga 1 (us (Sp.limI q))]) (by kernel_rfl) (bc rfl (bc rfl (bc rfl b0))) q0 (ce (@ev57 (fa) (p) k1) c0) H
theorem vRFloor (fa ga : Bool) (p q : Int)  (dq : AV) (H :
    (Sp.okB p /\ Sp.okB q /\ q ≠ 0) /\
    Weak (bigA false (Sp.flo p q)) dq) :
  vRFloor_at fa ga p q (PureQ dq) := by
  unfold vRFloor_at
  obtain ⟨k1, H⟩ := H
  exact path_rq (G := given kp54 [(1, 4, .call (tu [bigA false (Sp.flo p q), bigA false (Sp.flr p q), vi 0]) none)] []) 1000 [] (bigA false (Sp.flo p q)) (by kernel_rfl) (bc rfl (bc rfl (bc rfl (bc rfl (bc rfl (bc rfl b0)))))) q0 (ce (@ev60 (fa) (ga) (p) (q) k1) c0) H
theorem vSide (fa : Bool) (a : Int)  (dq : AV) (H :
    (Sp.okS a) /\
    ((Sp.sqe a = 0) -> (Sp.okB (Sp.sq a) /\ Sp.okB (Sp.sq a))) /\
    ((Sp.sqe a = 0) -> (Sp.okB (Sp.sq a * Sp.sq a) /\ Sp.okB a)) /\
    Weak (tu [bigA false (Sp.sq a), vb (bif Sp.sqe a == 0 then Sp.sgnI (Sp.sq a * Sp.sq a - a) == 0 else false)]) dq) :
  vSide_at fa a (PureQ dq) := by
  unfold vSide_at
  obtain ⟨k1, H⟩ := H
  obtain ⟨k3, H⟩ := H
  obtain ⟨k5, H⟩ := H
  exact path_rq (G := given kp65 [(1, 1, .call (tu [bigA false (Sp.sq a), vi (Sp.sqe a)]) none), (2, 6, .call (bigA false (Sp.sq a * Sp.sq a)) none), (2, 8, .call (vi (Sp.sgnI (Sp.sq a * Sp.sq a - a))) none)] []) 1000 [] (asm := [true, true, true, !((Sp.sqe a == 0) == true && true) || true, !((Sp.sqe a == 0) == true && true) || true, !((Sp.sqe a == 0) == true && true) || true, true]) (calls := [⟨true, false, 56, [bigA fa a], [], tu [bigA false (Sp.sq a), vi (Sp.sqe a)], []⟩, ⟨(Sp.sqe a == 0) == true && true && true, false, 55, [bigA false (Sp.sq a), bigA false (Sp.sq a)], [], bigA false (Sp.sq a * Sp.sq a), []⟩, ⟨(Sp.sqe a == 0) == true && true && true, false, 66, [bigA false (Sp.sq a * Sp.sq a), bigA fa a], [], vi (Sp.sgnI (Sp.sq a * Sp.sq a - a)), []⟩]) (tu [bigA false (Sp.sq a), vb (bif Sp.sqe a == 0 then Sp.sgnI (Sp.sq a * Sp.sq a - a) == 0 else false)]) (by kernel_rfl) (bc rfl (bc rfl (bc rfl (bc (Bool.or_true _) (bc (Bool.or_true _) (bc (Bool.or_true _) (bc rfl b0))))))) q0 (cc (fun _ => (@ev56 (fa) (a) k1)) (cc (fun hc => ((@ev55 (false) (false) (Sp.sq a) (Sp.sq a) (k3 ((i_at (i_at (i_bt i_eq))).1 hc))) : Ev M1 (Conf.pure 55 [bigA false (Sp.sq a), bigA false (Sp.sq a)]) (bigA false (Sp.sq a * Sp.sq a)) [])) (cc (fun hc => ((@ev66 (false) (fa) (Sp.sq a * Sp.sq a) (a) (k5 ((i_at (i_at (i_bt i_eq))).1 hc))) : Ev M1 (Conf.pure 66 [bigA false (Sp.sq a * Sp.sq a), bigA fa a]) (vi (Sp.sgnI (Sp.sq a * Sp.sq a - a))) [])) c0))) H
end Go.Av

namespace Go.Av
open Go.Proofs
abbrev ratA (f g : Bool) (r : Rat) : AV := .agg [.bool (Sp.isNeg r.num), .vec f 1 ((Sp.limI r.num).map (.int .u32)), .bool (Sp.isNeg (r.den : Int)), .vec g 1 ((Sp.limI (r.den : Int)).map (.int .u32))]
theorem weak_rat (b d f g : Bool) (xs ys : List AV) : Weak (.agg [.bool b, .vec f 1 xs, .bool d, .vec g 1 ys]) (.agg [.bool b, .vec false 1 xs, .bool d, .vec false 1 ys]) := by
  refine .agg _ _ rfl fun i x y hx hy => ?_
  match i with
  | 0 => simp at hx hy; subst hx; subst hy; exact .refl _
  | 1 => simp at hx hy; subst hx; subst hy; exact weak_vec _ _ _
  | 2 => simp at hx hy; subst hx; subst hy; exact .refl _
  | 3 => simp at hx hy; subst hx; subst hy; exact weak_vec _ _ _
  | i + 4 => simp at hx
theorem rat_neg {a b : Int} (h : b < 0) : (Rat.divInt a b).num = (-a) / (((-a).gcd (-b) : Nat) : Int) ∧ ((Rat.divInt a b).den : Int) = (-b) / (((-a).gcd (-b) : Nat) : Int) := by
  have e : (-a).gcd (-b) = b.gcd a := by rw [Int.neg_gcd, Int.gcd_neg, Int.gcd_comm]
  rw [e, Rat.num_divInt, Rat.den_divInt, if_neg (by omega), Int.sign_eq_neg_one_of_neg h]
  refine ⟨by rw [Int.neg_mul, Int.one_mul], ?_⟩
  have e2 : ((b.natAbs / b.gcd a : Nat) : Int) = (b.natAbs : Int) / (b.gcd a : Int) := rfl
  rw [e2]
  congr 1; omega
theorem rat_pos {a b : Int} (h : 0 < b) : (Rat.divInt a b).num = a / ((a.gcd b : Nat) : Int) ∧ ((Rat.divInt a b).den : Int) = b / ((a.gcd b : Nat) : Int) := by
  have e : a.gcd b = b.gcd a := Int.gcd_comm _ _
  rw [e, Rat.num_divInt, Rat.den_divInt, if_neg (by omega), Int.sign_eq_one_of_pos h]
  refine ⟨by rw [Int.one_mul], ?_⟩
  have e2 : ((b.natAbs / b.gcd a : Nat) : Int) = (b.natAbs : Int) / (b.gcd a : Int) := rfl
  rw [e2]
  congr 1; omega
theorem gcd_okB {a b : Int} (hb : b ≠ 0) (h : Sp.okB b) : Sp.okB ((a.gcd b : Nat) : Int) ∧ ((a.gcd b : Nat) : Int) ≠ 0 := by
  have h1 : 0 < a.gcd b := Int.gcd_pos_of_ne_zero_right _ hb
  have h2 : a.gcd b ≤ b.natAbs := Nat.le_of_dvd (by omega) (Int.gcd_dvd_natAbs_right a b)
  have := cnt_mono h2
  refine ⟨?_, by omega⟩
  unfold Sp.okB at *
  rw [Int.natAbs_natCast]; omega
theorem flo_pos {a : Int} {g : Nat} (h : (g : Int) ≠ 0) : Sp.flo a (g : Int) = a / (g : Int) := by
  unfold Sp.flo
  rw [if_pos (by omega)]
theorem ev67 (fa fb : Bool) (a b : Int) (h : Sp.okB a ∧ Sp.okB b ∧ b ≠ 0) : Ev M1 (.pure 67 [bigA fa a, bigA fb b]) (ratA false false (Rat.divInt a b)) [] := by
  obtain ⟨ha, hb, h0⟩ := h
  have hna : Sp.okB (-a) := by unfold Sp.okB at *; rwa [Int.natAbs_neg]
  have hnb : Sp.okB (-b) := by unfold Sp.okB at *; rwa [Int.natAbs_neg]
  refine call67 (vReduce _ _ _ _ _ ⟨fun k => ?_, fun k => ?_⟩)
  · rw [sgnI_lt] at k
    obtain ⟨g1, g2⟩ := gcd_okB (a := -a) (b := -b) (by omega) hnb
    obtain ⟨r1, r2⟩ := rat_neg (a := a) k
    refine ⟨ha, hb, ⟨hna, hnb⟩, g1, fun _ => ⟨⟨hna, g1, g2⟩, ⟨hnb, g1, g2⟩, ?_⟩, fun k2 => ?_⟩
    · show Weak _ (AV.agg [.bool (Sp.isNeg (Rat.divInt a b).num), .vec false 1 ((Sp.limI (Rat.divInt a b).num).map (.int .u32)), .bool (Sp.isNeg ((Rat.divInt a b).den : Int)), .vec false 1 ((Sp.limI ((Rat.divInt a b).den : Int)).map (.int .u32))])
      rw [r1, r2, flo_pos g2, flo_pos g2]; exact .refl _
    · have k2 := sgnI_zero.1 (Classical.not_not.1 k2)
      have e : (((-a).gcd (-b) : Nat) : Int) = 1 := by omega
      show Weak _ (AV.agg [.bool (Sp.isNeg (Rat.divInt a b).num), .vec false 1 ((Sp.limI (Rat.divInt a b).num).map (.int .u32)), .bool (Sp.isNeg ((Rat.divInt a b).den : Int)), .vec false 1 ((Sp.limI ((Rat.divInt a b).den : Int)).map (.int .u32))])
      rw [r1, r2, e, Int.ediv_one, Int.ediv_one]; exact weak_rat _ _ _ _ _ _
  · rw [sgnI_lt] at k
    obtain ⟨g1, g2⟩ := gcd_okB (a := a) (b := b) h0 hb
    obtain ⟨r1, r2⟩ := rat_pos (a := a) (show 0 < b by omega)
    refine ⟨⟨ha, hb⟩, g1, fun _ => ⟨⟨ha, g1, g2⟩, ⟨hb, g1, g2⟩, ?_⟩, fun k2 => ?_⟩
    · show Weak _ (AV.agg [.bool (Sp.isNeg (Rat.divInt a b).num), .vec false 1 ((Sp.limI (Rat.divInt a b).num).map (.int .u32)), .bool (Sp.isNeg ((Rat.divInt a b).den : Int)), .vec false 1 ((Sp.limI ((Rat.divInt a b).den : Int)).map (.int .u32))])
      rw [r1, r2, flo_pos g2, flo_pos g2]; exact .refl _
    · have k2 := sgnI_zero.1 (Classical.not_not.1 k2)
      have e : ((a.gcd b : Nat) : Int) = 1 := by omega
      show Weak _ (AV.agg [.bool (Sp.isNeg (Rat.divInt a b).num), .vec false 1 ((Sp.limI (Rat.divInt a b).num).map (.int .u32)), .bool (Sp.isNeg ((Rat.divInt a b).den : Int)), .vec false 1 ((Sp.limI ((Rat.divInt a b).den : Int)).map (.int .u32))])
      rw [r1, r2, e, Int.ediv_one, Int.ediv_one]; exact weak_rat _ _ _ _ _ _
theorem ev31 (fa ga : Bool) (p q : Int) : Ev M1 (.pure 31 [.agg [.bool (Sp.isNeg p), .vec fa 1 ((Sp.limI p).map (.int .u32)), .bool (Sp.isNeg q), .vec ga 1 ((Sp.limI q).map (.int .u32))]]) (.int .i64 (Sp.sgnI p)) [] :=
  call31 (vRSign _ _ _ _ _ rfl)
end Go.Av

namespace Go.Av
open Go.Proofs
theorem ev53 (fa ga : Bool) (r : Rat) (h : Sp.okB r.num) : Ev M1 (.pure 53 [ratA fa ga r]) (ratA false false (-r)) [] := by
  refine call53 (vRNeg _ _ _ _ _ ⟨h, ?_⟩)
  show Weak _ (AV.agg [.bool (Sp.isNeg (-r).num), .vec false 1 ((Sp.limI (-r).num).map (.int .u32)), .bool (Sp.isNeg ((-r).den : Int)), .vec false 1 ((Sp.limI ((-r).den : Int)).map (.int .u32))])
  rw [Rat.neg_num, Rat.neg_den]
  exact weak_rat _ _ _ _ _ _
theorem ev54 (fa ga : Bool) (r : Rat) (h : Sp.okB r.num ∧ Sp.okB r.den) : Ev M1 (.pure 54 [ratA fa ga r]) (bigA false (Sp.flo r.num r.den)) [] :=
  call54 (vRFloor _ _ _ _ _ ⟨⟨h.1, h.2, by have := r.den_pos; omega⟩, .refl _⟩)
namespace Sp
noncomputable def isSq (a : Int) : Bool := bif sqe a == 0 then sgnI (sq a * sq a - a) == 0 else false
end Sp
theorem sq_le {a : Int} (h : 0 ≤ a) : (Sp.sq a).natAbs * (Sp.sq a).natAbs ≤ a.natAbs ∧ (Sp.sq a).natAbs ≤ a.natAbs := by
  have := isqrt_spec a.natAbs
  unfold Sp.sq
  rw [if_neg (by omega), Int.natAbs_natCast]
  refine ⟨this.1, ?_⟩
  have h1 := this.1
  by_cases hz : Sp.isqrt a.natAbs = 0
  · omega
  · have := Nat.le_mul_of_pos_left (Sp.isqrt a.natAbs) (Nat.pos_of_ne_zero hz)
    omega
theorem ev65 (fa : Bool) (a : Int) (h : Sp.okS a) : Ev M1 (.pure 65 [bigA fa a]) (.tup [bigA false (Sp.sq a), .bool (Sp.isSq a)]) [] := by
  have ha : Sp.okB a := by unfold Sp.okS at h; unfold Sp.okB; omega
  have hk : Sp.sqe a = 0 → 0 ≤ a := by
    intro k
    unfold Sp.sqe at k
    split at k <;> omega
  refine call65 (vSide _ _ _ ⟨h, fun k => ?_, fun k => ⟨?_, ha⟩, .refl _⟩)
  · have := cnt_mono (sq_le (hk k)).2
    unfold Sp.okS at h
    unfold Sp.okB
    omega
  · have := cnt_mono (sq_le (hk k)).1
    unfold Sp.okS at h
    unfold Sp.okB
    rw [Int.natAbs_mul]; omega
theorem ev80 (fa : Bool) (a : Int) : Ev M1 (.pure 80 [bigA fa a]) (ratA false false (a : Rat)) [] := by
  refine call80 (vWhole _ _ _ ?_)
  show Weak _ (AV.agg [.bool (Sp.isNeg (a : Rat).num), .vec false 1 ((Sp.limI (a : Rat).num).map (.int .u32)), .bool (Sp.isNeg ((a : Rat).den : Int)), .vec false 1 ((Sp.limI ((a : Rat).den : Int)).map (.int .u32))])
  rw [Rat.num_intCast, Rat.den_intCast]
  exact weak_rat _ _ _ _ _ _
end Go.Av

namespace Go.Av
open Go.Proofs
set_option maxRecDepth 100000
def fi32 : Fi := ⟨26, [.cell 2 26, .tmp 3]⟩
def kp32 : List (Nat × List Nat) := [(0, [1, 2]), (1, [1, 2, 4, 5]), (2, [1, 2, 4, 14]), (3, [2, 4, 6, 7]), (4, [2, 4, 6, 21]), (5, [2, 3]), (6, [2, 3])]
def fi33 : Fi := ⟨36, [.cell 4 26]⟩
def kp33 : List (Nat × List Nat) := [(0, [2, 3, 4]), (1, [2, 3, 4, 10]), (2, [4]), (3, [4])]
def fi34 : Fi := ⟨16, [.cell 4 26]⟩
def kp34 : List (Nat × List Nat) := [(0, [2, 3, 4]), (1, [4])]
def fi49 : Fi := ⟨21, [.cell 4 26, .tmp 5]⟩
def kp49 : List (Nat × List Nat) := [(0, [2, 3, 4]), (1, [2, 3, 4, 8]), (2, [4, 5]), (3, [4, 5])]
def fi50 : Fi := ⟨6, [.cell 2 26]⟩
def kp50 : List (Nat × List Nat) := [(0, [0, 2]), (1, [2])]
def fi75 : Fi := ⟨25, [.tmp 4]⟩
def kp75 : List (Nat × List Nat) := [(0, [2, 3]), (1, [2, 3, 5]), (2, [2, 3, 5, 12]), (3, [4]), (4, [4])]
def vRAdd_at (fa ga fb gb : Bool) (r s : Rat) (Q : AV → Heap → Prop) : Prop := Wp M1 (.run fi33 (atC (cd Try.f33) []) [(0, .agg [.bool (Sp.isNeg r.num), .vec fa 1 ((Sp.limI r.num).map (.int .u32)), .bool (Sp.isNeg (r.den : Int)), .vec ga 1 ((Sp.limI (r.den : Int)).map (.int .u32))]), (1, .agg [.bool (Sp.isNeg s.num), .vec fb 1 ((Sp.limI s.num).map (.int .u32)), .bool (Sp.isNeg (s.den : Int)), .vec gb 1 ((Sp.limI (s.den : Int)).map (.int .u32))])] []) Q
def vRMul_at (fa ga fb gb : Bool) (r s : Rat) (Q : AV → Heap → Prop) : Prop := Wp M1 (.run fi34 (atC (cd Try.f34) []) [(0, .agg [.bool (Sp.isNeg r.num), .vec fa 1 ((Sp.limI r.num).map (.int .u32)), .bool (Sp.isNeg (r.den : Int)), .vec ga 1 ((Sp.limI (r.den : Int)).map (.int .u32))]), (1, .agg [.bool (Sp.isNeg s.num), .vec fb 1 ((Sp.limI s.num).map (.int .u32)), .bool (Sp.isNeg (s.den : Int)), .vec gb 1 ((Sp.limI (s.den : Int)).map (.int .u32))])] []) Q
def vRDiv_at (fa ga fb gb : Bool) (r s : Rat) (Q : AV → Heap → Prop) : Prop := Wp M1 (.run fi49 (atC (cd Try.f49) []) [(0, .agg [.bool (Sp.isNeg r.num), .vec fa 1 ((Sp.limI r.num).map (.int .u32)), .bool (Sp.isNeg (r.den : Int)), .vec ga 1 ((Sp.limI (r.den : Int)).map (.int .u32))]), (1, .agg [.bool (Sp.isNeg s.num), .vec fb 1 ((Sp.limI s.num).map (.int .u32)), .bool (Sp.isNeg (s.den : Int)), .vec gb 1 ((Sp.limI (s.den : Int)).map (.int .u32))])] []) Q
def vRCmp_at (fa ga fb gb : Bool) (r s : Rat) (Q : AV → Heap → Prop) : Prop := Wp M1 (.run fi75 (atC (cd Try.f75) []) [(0, .agg [.bool (Sp.isNeg r.num), .vec fa 1 ((Sp.limI r.num).map (.int .u32)), .bool (Sp.isNeg (r.den : Int)), .vec ga 1 ((Sp.limI (r.den : Int)).map (.int .u32))]), (1, .agg [.bool (Sp.isNeg s.num), .vec fb 1 ((Sp.limI s.num).map (.int .u32)), .bool (Sp.isNeg (s.den : Int)), .vec gb 1 ((Sp.limI (s.den : Int)).map (.int .u32))])] []) Q
def vRFrom_at (n : Int) (Q : AV → Heap → Prop) : Prop := Wp M1 (.run fi50 (atC (cd Try.f50) []) [(0, .int .i64 n)] []) Q
def vRSqrt_at (fa ga : Bool) (r : Rat) (Q : AV → Heap → Prop) : Prop := Wp M1 (.run fi32 (atC (cd Try.f32) []) [(0, .agg [.bool (Sp.isNeg r.num), .vec fa 1 ((Sp.limI r.num).map (.int .u32)), .bool (Sp.isNeg (r.den : Int)), .vec ga 1 ((Sp.limI (r.den : Int)).map (.int .u32))])] []) Q
theorem call32 {args : List AV} {d : AV} (h : Wp M1 (.run fi32 [.code (cd Try.f32)] (argVars 0 args) []) (PureQ d)) : Ev M1 (.pure 32 args) d [] :=
  pure_pq Try.f32 fi32 (by kernel_rfl) (by kernel_rfl) (by kernel_rfl) (by kernel_rfl) h
theorem call33 {args : List AV} {d : AV} (h : Wp M1 (.run fi33 [.code (cd Try.f33)] (argVars 0 args) []) (PureQ d)) : Ev M1 (.pure 33 args) d [] :=
  pure_pq Try.f33 fi33 (by kernel_rfl) (by kernel_rfl) (by kernel_rfl) (by kernel_rfl) h
theorem call34 {args : List AV} {d : AV} (h : Wp M1 (.run fi34 [.code (cd Try.f34)] (argVars 0 args) []) (PureQ d)) : Ev M1 (.pure 34 args) d [] :=
  pure_pq Try.f34 fi34 (by kernel_rfl) (by kernel_rfl) (by kernel_rfl) (by kernel_rfl) h
theorem call49 {args : List AV} {d : AV} (h : Wp M1 (.run fi49 [.code (cd Try.f49)] (argVars 0 args) []) (PureQ d)) : Ev M1 (.pure 49 args) d [] :=
  pure_pq Try.f49 fi49 (by kernel_rfl) (by kernel_rfl) (by kernel_rfl) (by kernel_rfl) h
theorem call50 {args : List AV} {d : AV} (h : Wp M1 (.run fi50 [.code (cd Try.f50)] (argVars 0 args) []) (PureQ d)) : Ev M1 (.pure 50 args) d [] :=
  pure_pq Try.f50 fi50 (by kernel_rfl) (by kernel_rfl) (by kernel_rfl) (by kernel_rfl) h
theorem call75 {args : List AV} {d : AV} (h : Wp M1 (.run fi75 [.code (cd Try.f75)] (argVars 0 args) []) (PureQ d)) : Ev M1 (.pure 75 args) d [] :=
  pure_pq Try.f75 fi75 (by kernel_rfl) (by kernel_rfl) (by kernel_rfl) (by kernel_rfl) h
theorem vRAdd (fa ga fb gb : Bool) (r s : Rat)  (dq : AV) (H :
    (Sp.okB (↑r.den : Int) /\ Sp.okB (↑s.den : Int)) /\
    ((Sp.sgnI ((↑r.den : Int) - (↑s.den : Int)) = 0) -> (Sp.okB r.num /\ Sp.okB s.num) /\
      (Sp.okB (r.num + s.num) /\ Sp.okB (↑r.den : Int) /\ (↑r.den : Int) ≠ 0) /\
      Weak (ratA false false (Rat.divInt (r.num + s.num) (↑r.den : Int))) dq) /\
    (¬(Sp.sgnI ((↑r.den : Int) - (↑s.den : Int)) = 0) -> (Sp.okB r.num /\ Sp.okB (↑s.den : Int)) /\
      (Sp.okB s.num /\ Sp.okB (↑r.den : Int)) /\
      (Sp.okB (r.num * (↑s.den : Int)) /\ Sp.okB (s.num * (↑r.den : Int))) /\
      (Sp.okB (r.num * (↑s.den : Int) + s.num * (↑r.den : Int)) /\ Sp.okB ((↑r.den : Int) * (↑s.den : Int)) /\ (↑r.den : Int) * (↑s.den : Int) ≠ 0) /\
      Weak (ratA false false (Rat.divInt (r.num * (↑s.den : Int) + s.num * (↑r.den : Int)) ((↑r.den : Int) * (↑s.den : Int)))) dq)) :
  vRAdd_at fa ga fb gb r s (PureQ dq) := by
  unfold vRAdd_at
  obtain ⟨k1, H⟩ := H
  refine path_wp (G := given kp33 [(1, 4, .call (vi (Sp.sgnI ((↑r.den : Int) - (↑s.den : Int)))) none)] []) 5 [] ⟨(atC (cd Try.f33) [1, 0, 1]), [(2, AV.ptr 0 0 0 0), (3, AV.ptr 1 0 0 0), (4, AV.ptr 2 0 0 0), (10, vb (Sp.sgnI ((↑r.den : Int) - (↑s.den : Int)) == 0))], [⟨[ratA fa ga r], 4, 0, false, false⟩, ⟨[ratA fb gb s], 4, 0, false, false⟩, ⟨[ag [vb false, AV.vnil, vb false, AV.vnil]], 4, 0, false, false⟩], _, [], _⟩ (by kernel_rfl) (bc rfl (bc rfl b0)) q0 (ce (@ev66 (ga) (gb) ((↑r.den : Int)) ((↑s.den : Int)) k1) c0) ?_
  rcases xm (Sp.sgnI ((↑r.den : Int) - (↑s.den : Int)) = 0) with d3 | d3
  · have H := H.1 d3
    obtain ⟨k4, H⟩ := H
    obtain ⟨k5, H⟩ := H
    exact path_rq (G := given kp33 [(2, 4, .call (bigA false (r.num + s.num)) none), (2, 7, .call (ratA false false (Rat.divInt (r.num + s.num) (↑r.den : Int))) none)] []) 1000 [true] (ratA false false (Rat.divInt (r.num + s.num) (↑r.den : Int))) (by kernel_rfl) (bc (beq_t (i_eq.2 d3)) (bc rfl (bc rfl (bc rfl (bc rfl b0))))) q0 (ce (@ev58 (fa) (fb) (r.num) (s.num) k4) (ce (@ev67 (false) (ga) (r.num + s.num) ((↑r.den : Int)) k5) c0)) H
  · have H := H.2 d3
    obtain ⟨k6, H⟩ := H
    obtain ⟨k7, H⟩ := H
    obtain ⟨k8, H⟩ := H
    obtain ⟨k9, H⟩ := H
    exact path_rq (G := given kp33 [(3, 4, .call (bigA false (r.num * (↑s.den : Int))) none), (3, 9, .call (bigA false (s.num * (↑r.den : Int))) none), (3, 10, .call (bigA false (r.num * (↑s.den : Int) + s.num * (↑r.den : Int))) none), (3, 15, .call (bigA false ((↑r.den : Int) * (↑s.den : Int))) none), (3, 16, .call (ratA false false (Rat.divInt (r.num * (↑s.den : Int) + s.num * (↑r.den : Int)) ((↑r.den : Int) * (↑s.den : Int)))) none)] []) 1000 [false] (ratA false false (Rat.divInt (r.num * (↑s.den : Int) + s.num * (↑r.den : Int)) ((↑r.den : Int) * (↑s.den : Int)))) (by kernel_rfl) (bc (beq_f (fun h => d3 (i_eq.1 h))) (bc rfl (bc rfl (bc rfl (bc rfl (bc rfl (bc rfl (bc rfl b0)))))))) q0 (ce (@ev55 (fa) (gb) (r.num) ((↑s.den : Int)) k6) (ce (@ev55 (fb) (ga) (s.num) ((↑r.den : Int)) k7) (ce (@ev58 (false) (false) (r.num * (↑s.den : Int)) (s.num * (↑r.den : Int)) k8) (ce (@ev55 (ga) (gb) ((↑r.den : Int)) ((↑s.den : Int)) k1) (ce (@ev67 (false) (false) (r.num * (↑s.den : Int) + s.num * (↑r.den : Int)) ((↑r.den : Int) * (↑s.den : Int)) k9) c0))))) H
theorem vRMul (fa ga fb gb : Bool) (r s : Rat)  (dq : AV) (H :
    (Sp.okB r.num /\ Sp.okB s.num) /\
    (Sp.okB (↑r.den : Int) /\ Sp.okB (↑s.den : Int)) /\
    (Sp.okB (r.num * s.num) /\ Sp.okB ((↑r.den : Int) * (↑s.den : Int)) /\ (↑r.den : Int) * (↑s.den : Int) ≠ 0) /\
    Weak (ratA false false (Rat.divInt (r.num * s.num) ((↑r.den : Int) * (↑s.den : Int)))) dq) :
  vRMul_at fa ga fb gb r s (PureQ dq) := by
  unfold vRMul_at
  obtain ⟨k1, H⟩ := H
  obtain ⟨k2, H⟩ := H
  obtain ⟨k3, H⟩ := H
  exact path_rq (G := given kp34 [(1, 4, .call (bigA false (r.num * s.num)) none), (1, 9, .call (bigA false ((↑r.den : Int) * (↑s.den : Int))) none), (1, 10, .call (ratA false false (Rat.divInt (r.num * s.num) ((↑r.den : Int) * (↑s.den : Int)))) none)] []) 1000 [] (ratA false false (Rat.divInt (r.num * s.num) ((↑r.den : Int) * (↑s.den : Int)))) (by kernel_rfl) (bc rfl (bc rfl (bc rfl (bc rfl (bc rfl b0))))) q0 (ce (@ev55 (fa) (fb) (r.num) (s.num) k1) (ce (@ev55 (ga) (gb) ((↑r.den : Int)) ((↑s.den : Int)) k2) (ce (@ev67 (false) (false) (r.num * s.num) ((↑r.den : Int) * (↑s.den : Int)) k3) c0))) H
theorem vRDiv (fa ga fb gb : Bool) (r s : Rat)  (dq : AV) (H :
    ((Sp.sgnI s.num = 0) -> Weak (tu [ag [vb false, AV.vnil, vb false, AV.vnil], vi 6]) dq) /\
    (¬(Sp.sgnI s.num = 0) -> (Sp.okB r.num /\ Sp.okB (↑s.den : Int)) /\
      (Sp.okB (↑r.den : Int) /\ Sp.okB s.num) /\
      (Sp.okB (r.num * (↑s.den : Int)) /\ Sp.okB ((↑r.den : Int) * s.num) /\ (↑r.den : Int) * s.num ≠ 0) /\
      Weak (tu [ratA false false (Rat.divInt (r.num * (↑s.den : Int)) ((↑r.den : Int) * s.num)), vi 0]) dq)) :
  vRDiv_at fa ga fb gb r s (PureQ dq) := by
  unfold vRDiv_at
  refine path_wp (G := given kp49 [(1, 1, .call (vi (Sp.sgnI s.num)) none)] []) 5 [] ⟨(atC (cd Try.f49) [1, 0, 1]), [(2, AV.ptr 0 0 0 0), (3, AV.ptr 1 0 0 0), (4, AV.ptr 2 0 0 0), (8, vb (Sp.sgnI s.num == 0))], [⟨[ratA fa ga r], 4, 0, false, false⟩, ⟨[ratA fb gb s], 4, 0, false, false⟩, ⟨[ag [vb false, AV.vnil, vb false, AV.vnil]], 4, 0, false, false⟩], _, [], _⟩ (by kernel_rfl) (bc rfl b0) q0 (ce (@ev31 (fb) (gb) (s.num) ((↑s.den : Int))) c0) ?_
  rcases xm (Sp.sgnI s.num = 0) with d2 | d2
  · have H := H.1 d2
    exact path_rq (G := given kp49 [] []) 1000 [true] (tu [ag [vb false, AV.vnil, vb false, AV.vnil], vi 6]) (by kernel_rfl) (bc (beq_t (i_eq.2 d2)) (bc rfl b0)) q0 c0 H
  · have H := H.2 d2
    obtain ⟨k3, H⟩ := H
    obtain ⟨k4, H⟩ := H
    obtain ⟨k5, H⟩ := H
    exact path_rq (G := given kp49 [(3, 4, .call (bigA false (r.num * (↑s.den : Int))) none), (3, 9, .call (bigA false ((↑r.den : Int) * s.num)) none), (3, 10, .call (ratA false false (Rat.divInt (r.num * (↑s.den : Int)) ((↑r.den : Int) * s.num))) none)] []) 1000 [false] (tu [ratA false false (Rat.divInt (r.num * (↑s.den : Int)) ((↑r.den : Int) * s.num)), vi 0]) (by kernel_rfl) (bc (beq_f (fun h => d2 (i_eq.1 h))) (bc rfl (bc rfl (bc rfl (bc rfl (bc rfl b0)))))) q0 (ce (@ev55 (fa) (gb) (r.num) ((↑s.den : Int)) k3) (ce (@ev55 (ga) (fb) ((↑r.den : Int)) (s.num) k4) (ce (@ev67 (false) (false) (r.num * (↑s.den : Int)) ((↑r.den : Int) * s.num) k5) c0))) H
theorem vRCmp (fa ga fb gb : Bool) (r s : Rat)  (dq : AV) (H :
    ∃ (n1 : Int),
    (Ev M1 (Conf.pure 99 [vi (Sp.sgnI r.num), vi (Sp.sgnI s.num)]) (vi n1) []) /\
    ((¬n1 = 0) -> vi n1 = dq) /\
    (¬(¬n1 = 0) -> (Sp.okB r.num /\ Sp.okB (↑s.den : Int)) /\
      (Sp.okB s.num /\ Sp.okB (↑r.den : Int)) /\
      (Sp.okB (r.num * (↑s.den : Int)) /\ Sp.okB (s.num * (↑r.den : Int))) /\
      vi (Sp.sgnI (r.num * (↑s.den : Int) - s.num * (↑r.den : Int))) = dq)) :
  vRCmp_at fa ga fb gb r s (PureQ dq) := by
  unfold vRCmp_at
  obtain ⟨n1, H⟩ := H
  obtain ⟨k1, H⟩ := H
  refine path_wp (G := given kp75 [(1, 1, .call (vi (Sp.sgnI r.num)) none), (1, 3, .call (vi (Sp.sgnI s.num)) none), (1, 4, .call (vi n1) none)] []) 7 [] ⟨(atC (cd Try.f75) [1, 0, 1, 1]), [(2, AV.ptr 0 0 0 0), (3, AV.ptr 1 0 0 0), (5, vi n1), (12, vb (n1 != 0))], [⟨[ratA fa ga r], 4, 0, false, false⟩, ⟨[ratA fb gb s], 4, 0, false, false⟩], _, [], _⟩ (by kernel_rfl) (bc rfl (bc rfl b0)) q0 (ce (@ev31 (fa) (ga) (r.num) ((↑r.den : Int))) (ce (@ev31 (fb) (gb) (s.num) ((↑s.den : Int))) (ce k1 c0))) ?_
  rcases xm (¬n1 = 0) with d3 | d3
  · have H := H.1 d3
    exact path_re (G := given kp75 [] []) 1000 [true] (vi n1) (by kernel_rfl) (bc (beq_t (i_ne.2 d3)) b0) q0 c0 H
  · have H := H.2 d3
    obtain ⟨k4, H⟩ := H
    obtain ⟨k5, H⟩ := H
    obtain ⟨k6, H⟩ := H
    exact path_re (G := given kp75 [(4, 4, .call (bigA false (r.num * (↑s.den : Int))) none), (4, 9, .call (bigA false (s.num * (↑r.den : Int))) none), (4, 10, .call (vi (Sp.sgnI (r.num * (↑s.den : Int) - s.num * (↑r.den : Int)))) none)] []) 1000 [false] (vi (Sp.sgnI (r.num * (↑s.den : Int) - s.num * (↑r.den : Int)))) (by kernel_rfl) (bc (beq_f (fun h => d3 (i_ne.1 h))) (bc rfl (bc rfl (bc rfl (bc rfl b0))))) q0 (ce (@ev55 (fa) (gb) (r.num) ((↑s.den : Int)) k4) (ce (@ev55 (fb) (ga) (s.num) ((↑r.den : Int)) k5) (ce (@ev66 (false) (false) (r.num * (↑s.den : Int)) (s.num * (↑r.den : Int)) k6) c0))) H
theorem vRFrom (n : Int)  (dq : AV) (H :
    (Sp.inI n) /\
    Weak (ratA false false (↑n : Rat)) dq) :
  vRFrom_at n (PureQ dq) := by
  unfold vRFrom_at
  obtain ⟨k1, H⟩ := H
  exact path_rq (G := given kp50 [(1, 1, .call (bigA false n) none), (1, 2, .call (ratA false false (↑n : Rat)) none)] []) 1000 [] (ratA false false (↑n : Rat)) (by kernel_rfl) (bc rfl b0) q0 (ce (@ev59 (n) k1) (ce (@ev80 (false) (n)) c0)) H
noncomputable abbrev zNvK1 := ag [vb false, AV.vnil, vb false, AV.vnil]
theorem vRSqrt (fa ga : Bool) (r : Rat)  (dq : AV) (H :
    (Sp.okS r.num) /\
    ((Sp.isSq r.num = true) -> (Sp.okS (↑r.den : Int)) /\
      ((Sp.isSq (↑r.den : Int) = true) -> Weak (tu [ag [vb (Sp.isNeg (Sp.sq r.num)), vf (us (Sp.limI (Sp.sq r.num))), vb (Sp.isNeg (Sp.sq (↑r.den : Int))), vf (us (Sp.limI (Sp.sq (↑r.den : Int))))], vb true]) dq) /\
      (¬(Sp.isSq (↑r.den : Int) = true) -> Weak (tu [ag [vb false, AV.vnil, vb false, AV.vnil], vb false]) dq)) /\
    (¬(Sp.isSq r.num = true) -> Weak (tu [ag [vb false, AV.vnil, vb false, AV.vnil], vb false]) dq)) :
  vRSqrt_at fa ga r (PureQ dq) := by
  unfold vRSqrt_at
  obtain ⟨k1, H⟩ := H
  refine path_wp (G := given kp32 [(1, 2, .call (tu [bigA false (Sp.sq r.num), vb (Sp.isSq r.num)]) none)] []) 7 [] ⟨(atC (cd Try.f32) [1, 0, 1, 1]), [(1, AV.ptr 0 0 0 0), (2, AV.ptr 1 0 0 0), (4, AV.ptr 2 0 0 0), (14, vb (Sp.isSq r.num))], [⟨[ratA fa ga r], 4, 0, false, false⟩, ⟨[zNvK1], 4, 0, false, false⟩, ⟨[bigA false (Sp.sq r.num)], 2, 0, false, false⟩], _, [], _⟩ (by kernel_rfl) (bc rfl (bc rfl b0)) q0 (ce (@ev65 (fa) (r.num) k1) c0) ?_
  rcases xm (Sp.isSq r.num = true) with d3 | d3
  · have H := H.1 d3
    obtain ⟨k4, H⟩ := H
    refine path_wp (G := given kp32 [(3, 2, .call (tu [bigA false (Sp.sq (↑r.den : Int)), vb (Sp.isSq (↑r.den : Int))]) none)] []) 5 [true] ⟨(atC (cd Try.f32) [1, 0, 1, 1, 0, 1, 1]), [(2, AV.ptr 1 0 0 0), (4, AV.ptr 2 0 0 0), (6, AV.ptr 3 0 0 0), (21, vb (Sp.isSq (↑r.den : Int)))], [⟨[ratA fa ga r], 4, 0, false, false⟩, ⟨[zNvK1], 4, 0, false, false⟩, ⟨[bigA false (Sp.sq r.num)], 2, 0, false, false⟩, ⟨[bigA false (Sp.sq (↑r.den : Int))], 2, 0, false, false⟩], [(Sp.isSq r.num) == true, true, true], [], _⟩ (by kernel_rfl) (bc (beq_t ((i_var _).2 d3)) (bc rfl (bc rfl b0))) q0 (ce (@ev65 (ga) ((↑r.den : Int)) k4) c0) ?_
    rcases xm (Sp.isSq (↑r.den : Int) = true) with d6 | d6
    · have H := H.1 d6
      exact path_rq (G := given kp32 [] []) 1000 [true] (asm := [(Sp.isSq (↑r.den : Int)) == true, true, true, true]) (tu [ag [vb (Sp.isNeg (Sp.sq r.num)), vf (us (Sp.limI (Sp.sq r.num))), vb (Sp.isNeg (Sp.sq (↑r.den : Int))), vf (us (Sp.limI (Sp.sq (↑r.den : Int))))], vb true]) (by kernel_rfl) (bc (beq_t ((i_var _).2 d6)) (bc rfl (bc rfl (bc rfl b0)))) q0 c0 H
    · have H := H.2 d6
      exact path_rq (G := given kp32 [] []) 1000 [false] (asm := [(Sp.isSq (↑r.den : Int)) == false, true]) (tu [zNvK1, vb false]) (by kernel_rfl) (bc (beq_f (fun h => d6 ((i_var _).1 h))) (bc rfl b0)) q0 c0 H
  · have H := H.2 d3
    exact path_rq (G := given kp32 [] []) 1000 [false] (asm := [(Sp.isSq r.num) == false, true]) (tu [zNvK1, vb false]) (by kernel_rfl) (bc (beq_f (fun h => d3 ((i_var _).1 h))) (bc rfl b0)) q0 c0 H
end Go.Av

namespace Go.Av
open Go.Proofs
def Sp.okR (r : Rat) : Prop := Sp.cnt r.num.natAbs ≤ 90000 ∧ Sp.cnt r.den ≤ 90000
theorem okR_B {r : Rat} (h : Sp.okR r) : Sp.okB r.num ∧ Sp.okB (r.den : Int) := by
  unfold Sp.okR at h
  unfold Sp.okB
  rw [Int.natAbs_natCast]; omega
theorem cnt_mulI {a b : Int} {n m : Nat} (ha : Sp.cnt a.natAbs ≤ n) (hb : Sp.cnt b.natAbs ≤ m) : Sp.cnt (a * b).natAbs ≤ n + m := by
  rw [Int.natAbs_mul]
  exact fits_cnt.1 (fits_prod (fits_cnt.2 ha) (fits_cnt.2 hb))
theorem cnt_addI {a b : Int} {n : Nat} (ha : Sp.cnt a.natAbs ≤ n) (hb : Sp.cnt b.natAbs ≤ n) : Sp.cnt (a + b).natAbs ≤ n + 1 := by
  have h := fits_cnt.1 (fits_sum (fits_cnt.2 ha) (fits_cnt.2 hb))
  exact Nat.le_trans (cnt_mono (Int.natAbs_add_le a b)) h
theorem cnt_den {r : Rat} {n : Nat} (h : Sp.cnt r.den ≤ n) : Sp.cnt ((r.den : Int)).natAbs ≤ n := by rwa [Int.natAbs_natCast]
theorem den_ne (r : Rat) : (r.den : Int) ≠ 0 := by have := r.den_pos; omega
theorem rat_add (r s : Rat) : Rat.divInt (r.num * (s.den : Int) + s.num * (r.den : Int)) ((r.den : Int) * (s.den : Int)) = r + s := by
  rw [← Rat.divInt_add_divInt _ _ (den_ne r) (den_ne s), Rat.num_divInt_den, Rat.num_divInt_den]
theorem rat_add_same {r s : Rat} (h : (r.den : Int) = (s.den : Int)) : Rat.divInt (r.num + s.num) (r.den : Int) = r + s := by
  rw [← rat_add, ← h, ← Int.add_mul, Rat.divInt_mul_right (den_ne r)]
theorem rat_mul (r s : Rat) : Rat.divInt (r.num * s.num) ((r.den : Int) * (s.den : Int)) = r * s := by
  rw [← Rat.divInt_mul_divInt, Rat.num_divInt_den, Rat.num_divInt_den]
theorem rat_div (r s : Rat) : Rat.divInt (r.num * (s.den : Int)) ((r.den : Int) * s.num) = r / s := by
  rw [← Rat.divInt_mul_divInt, Rat.num_divInt_den, ← Rat.inv_divInt, Rat.num_divInt_den, Rat.div_def]
theorem ev33 (fa ga fb gb : Bool) (r s : Rat) (h : Sp.okR r ∧ Sp.okR s) : Ev M1 (.pure 33 [ratA fa ga r, ratA fb gb s]) (ratA false false (r + s)) [] := by
  obtain ⟨hr, hs⟩ := h
  obtain ⟨r1, r2⟩ := okR_B hr
  obtain ⟨s1, s2⟩ := okR_B hs
  obtain ⟨cr1, cr2⟩ := hr
  obtain ⟨cs1, cs2⟩ := hs
  have m1 := cnt_mulI cr1 (cnt_den cs2)
  have m2 := cnt_mulI cs1 (cnt_den cr2)
  have m3 := cnt_mulI (cnt_den cr2) (cnt_den cs2)
  have a1 := cnt_addI m1 m2
  have a2 := cnt_addI cr1 cs1
  refine call33 (vRAdd _ _ _ _ _ _ _ ⟨⟨r2, s2⟩, fun k => ⟨⟨r1, s1⟩, ⟨by unfold Sp.okB; omega, r2, den_ne r⟩, ?_⟩, fun k => ⟨⟨r1, s2⟩, ⟨s1, r2⟩, ⟨by unfold Sp.okB; omega, by unfold Sp.okB; omega⟩, ⟨by unfold Sp.okB; omega, by unfold Sp.okB; omega, Int.mul_ne_zero (den_ne r) (den_ne s)⟩, ?_⟩⟩)
  · have k := sgnI_zero.1 k
    rw [rat_add_same (by omega)]; exact .refl _
  · rw [rat_add]; exact .refl _
theorem ev34 (fa ga fb gb : Bool) (r s : Rat) (h : Sp.okR r ∧ Sp.okR s) : Ev M1 (.pure 34 [ratA fa ga r, ratA fb gb s]) (ratA false false (r * s)) [] := by
  obtain ⟨hr, hs⟩ := h
  obtain ⟨r1, r2⟩ := okR_B hr
  obtain ⟨s1, s2⟩ := okR_B hs
  obtain ⟨cr1, cr2⟩ := hr
  obtain ⟨cs1, cs2⟩ := hs
  have m1 := cnt_mulI cr1 cs1
  have m3 := cnt_mulI (cnt_den cr2) (cnt_den cs2)
  refine call34 (vRMul _ _ _ _ _ _ _ ⟨⟨r1, s1⟩, ⟨r2, s2⟩, ⟨by unfold Sp.okB; omega, by unfold Sp.okB; omega, Int.mul_ne_zero (den_ne r) (den_ne s)⟩, ?_⟩)
  rw [rat_mul]; exact .refl _
theorem hid_ex (r : Rat) : ∃ s : Rat, s = r := ⟨r, rfl⟩
noncomputable def Sp.hid (r : Rat) : Rat := Classical.choose (hid_ex r)
theorem hid_eq (r : Rat) : Sp.hid r = r := Classical.choose_spec (hid_ex r)
noncomputable def Sp.qi (n : Int) : Rat := Sp.hid n
theorem qi_eq (n : Int) : Sp.qi n = (n : Rat) := hid_eq _
theorem ev50 (n : Int) (h : Sp.inI n) : Ev M1 (.pure 50 [.int .i64 n]) (ratA false false (Sp.qi n)) [] := by
  rw [qi_eq]
  exact call50 (vRFrom _ _ ⟨h, .refl _⟩)
end Go.Av

namespace Go.Av
open Go.Proofs
theorem isSq_iff (a : Int) : Sp.isSq a = true ↔ 0 ≤ a ∧ Sp.sq a * Sp.sq a = a := by
  unfold Sp.isSq Sp.sqe
  by_cases h : a < 0
  · rw [if_pos h]; simp; omega
  · rw [if_neg h]
    have := @sgnI_zero (Sp.sq a * Sp.sq a - a)
    simp only [beq_self_eq_true, cond_true, beq_iff_eq, this]
    omega
theorem sq_nonneg (a : Int) : 0 ≤ Sp.sq a := by
  unfold Sp.sq; split <;> omega
theorem sq_nat (n : Nat) : Sp.sq ((n * n : Nat) : Int) = n := by
  unfold Sp.sq
  rw [if_neg (by omega), Int.natAbs_natCast, isqrt_eq ⟨Nat.le_refl _, Nat.mul_lt_mul'' (Nat.lt_succ_self n) (Nat.lt_succ_self n)⟩]
theorem isSq_nat (n : Nat) : Sp.isSq ((n * n : Nat) : Int) = true := by
  rw [isSq_iff, sq_nat]; omega
namespace Sp
def rsq (r : Rat) : Prop := isSq r.num = true ∧ isSq (r.den : Int) = true
noncomputable def rt (r : Rat) : Rat := Rat.divInt (sq r.num) (sq (r.den : Int))
end Sp
theorem dvd_one {g : Nat} (h : g ∣ 1) : g = 1 := Nat.dvd_one.1 h
theorem gcd_sq {r : Rat} (h : Sp.rsq r) : Int.gcd (Sp.sq r.num) (Sp.sq (r.den : Int)) = 1 := by
  obtain ⟨h1, h2⟩ := h
  obtain ⟨_, h1⟩ := (isSq_iff _).1 h1
  obtain ⟨_, h2⟩ := (isSq_iff _).1 h2
  have c : Nat.gcd r.num.natAbs r.den = 1 := r.reduced
  generalize Sp.sq r.num = x at *
  generalize Sp.sq (r.den : Int) = y at *
  have e1 : x.natAbs ∣ r.num.natAbs := by rw [← h1, Int.natAbs_mul]; exact Nat.dvd_mul_right _ _
  have e2 : y.natAbs ∣ r.den := by
    have : r.den = (r.den : Int).natAbs := rfl
    rw [this, ← h2, Int.natAbs_mul]; exact Nat.dvd_mul_right _ _
  apply Nat.dvd_one.1
  rw [← c]
  exact Nat.dvd_gcd (Nat.dvd_trans (Nat.gcd_dvd_left _ _) e1) (Nat.dvd_trans (Nat.gcd_dvd_right _ _) e2)
theorem sq_den_pos {r : Rat} (h : Sp.rsq r) : 0 < Sp.sq (r.den : Int) := by
  obtain ⟨_, h2⟩ := (isSq_iff _).1 h.2
  have := sq_nonneg (r.den : Int)
  have hd := r.den_pos
  by_cases e : Sp.sq (r.den : Int) = 0
  · rw [e] at h2; omega
  · omega
theorem rt_num {r : Rat} (h : Sp.rsq r) : (Sp.rt r).num = Sp.sq r.num ∧ ((Sp.rt r).den : Int) = Sp.sq (r.den : Int) := by
  obtain ⟨e1, e2⟩ := rat_pos (a := Sp.sq r.num) (sq_den_pos h)
  unfold Sp.rt
  rw [e1, e2, gcd_sq h]; simp
theorem mul_self (s : Rat) : (s * s).num = s.num * s.num ∧ ((s * s).den : Int) = (s.den : Int) * (s.den : Int) := by
  have hd := s.den_pos
  have c : Nat.gcd s.num.natAbs s.den = 1 := s.reduced
  have g : Int.gcd (s.num * s.num) ((s.den : Int) * (s.den : Int)) = 1 := by
    rw [Int.gcd, Int.natAbs_mul, Int.natAbs_mul, Int.natAbs_natCast]
    exact Nat.Coprime.mul_left (Nat.Coprime.mul_right c c) (Nat.Coprime.mul_right c c)
  obtain ⟨e1, e2⟩ := rat_pos (a := s.num * s.num) (b := (s.den : Int) * (s.den : Int)) (Int.mul_pos (by omega) (by omega))
  rw [rat_mul, g] at e1 e2
  rw [e1, e2]; simp
theorem rsq_of {r s : Rat} (h : s * s = r) : Sp.rsq r := by
  obtain ⟨e1, e2⟩ := mul_self s
  rw [h] at e1 e2
  unfold Sp.rsq
  rw [e1, e2]
  refine ⟨?_, isSq_nat s.den⟩
  rw [← Int.natAbs_mul_self]
  exact isSq_nat _
end Go.Av

namespace Go.Av
open Go.Proofs
theorem rsqrtH (fa : Bool) (a : Nat) (ha : Sp.cnt a ≤ 300000) (h0 : a ≠ 0) (n : Nat) : ∀ x : Nat, x ≤ n → 0 < x → a < (x + 1) * (x + 1) → Sp.fits 300001 x →
    rSqrtH_at fa a x (PureQ (.tup [bigA false (Sp.isqrt a : Nat), .int .i64 0])) := by
  induction n with
  | zero => intro x h1 h2; omega
  | succ n ih =>
    intro x h1 h2 h3 h4
    have hfa : Sp.fits 300001 a := fits_mono (fits_self a) (by omega)
    have hfq : Sp.fits 300001 (a / x) := fits_le hfa (Nat.div_le_self _ _)
    have hfs : Sp.fits 300002 (x + a / x) := fits_sum h4 hfq
    have hfy : Sp.fits 300002 ((x + a / x) / 2) := fits_le hfs (Nat.div_le_self _ _)
    have e2 : (x : Int) + ((a / x : Nat) : Int) = ((x + a / x : Nat) : Int) := by omega
    refine rSqrtH fa _ _ _ ?_
    rw [flo_nat h2, e2, flo_two]
    have c1 := fits_cnt.1 hfa
    have c2 := fits_cnt.1 h4
    have c3 := fits_cnt.1 hfs
    refine ⟨⟨by rw [Int.natAbs_natCast]; omega, by rw [Int.natAbs_natCast]; omega, by omega⟩, ⟨okB_fits h4 (by omega), okB_fits hfq (by omega)⟩, by rw [Int.natAbs_natCast]; omega, ⟨okB_fits hfy (by omega), okB_fits h4 (by omega)⟩, fun k => ?_, fun k => ?_⟩
    · have k : ¬(Sp.sgnI (((x + a / x) / 2 : Nat) - (x : Int)) < 0) := by omega
      rw [sgnI_lt] at k
      rw [newton_done h2 h3 (by omega)]
      exact .refl _
    · have k : Sp.sgnI (((x + a / x) / 2 : Nat) - (x : Int)) < 0 := by omega
      rw [sgnI_lt] at k
      have hn := newton_above (a := a) h2
      refine ih _ (by omega) ?_ hn (fits_le h4 (by omega))
      apply Nat.pos_of_ne_zero
      intro e
      rw [e] at hn
      omega
theorem ev94 (fa : Bool) (v : Int) (h : Sp.okS v) : Ev M1 (.pure 94 [bigA fa v]) (.tup [bigA false (Sp.sq v), .int .i64 (Sp.sqe v)]) [] := by
  have hl := limI_len v
  have e1 : Sp.limI (0 : Int) = [] := lim_zero
  have e2 : Sp.isNeg (0 : Int) = false := rfl
  have w0 : ∀ e : Int, Weak (.tup [.agg [.bool false, .vnil], .int .i64 e]) (.tup [bigA false 0, .int .i64 e]) := by
    intro e
    show Weak _ (.tup [.agg [.bool (Sp.isNeg 0), .vec false 1 ((Sp.limI 0).map (.int .u32))], .int .i64 e])
    rw [e1, e2]
    exact weak_two (weak_bnil false) (.refl _)
  unfold Sp.okS at h
  by_cases hneg : v < 0
  · unfold Sp.sq Sp.sqe
    rw [if_pos hneg, if_pos hneg]
    exact call94 (rSqrt _ _ _ ⟨fun _ => w0 7, fun k => absurd (isNeg_iff.2 hneg) k⟩)
  · unfold Sp.sq Sp.sqe
    rw [if_neg hneg, if_neg hneg]
    refine call94 (rSqrt _ _ _ ⟨fun k => absurd (isNeg_iff.1 k) hneg, fun _ => ⟨fun k => ?_, fun k => ?_⟩⟩)
    · have hz : v.natAbs = 0 := cnt_eq_zero.1 (by omega)
      have : Sp.isqrt v.natAbs = 0 := by rw [hz]; exact isqrt_eq ⟨by omega, by omega⟩
      rw [this]; exact w0 0
    · have hz : Sp.cnt v.natAbs ≠ 0 := by omega
      have hz' : v.natAbs ≠ 0 := fun e => hz (by rw [e]; exact cnt_zero)
      have ek : (((Sp.limI v).length : Int) + 1).tdiv 2 = (((Sp.cnt v.natAbs + 1) / 2 : Nat) : Int) := by
        rw [hl]
        have : ((Sp.cnt v.natAbs : Nat) : Int) + 1 = ((Sp.cnt v.natAbs + 1 : Nat) : Int) := by omega
        rw [this]
        exact (Int.ofNat_tdiv (Sp.cnt v.natAbs + 1) 2).symm
      rw [ek, Int.toNat_natCast, List.length_replicate]
      generalize hk : (Sp.cnt v.natAbs + 1) / 2 = k
      have hv : ((v.natAbs : Nat) : Int) = v := by omega
      have big : v.natAbs < (1000000000 ^ k + 1) * (1000000000 ^ k + 1) := by
        have h1 := fits_self v.natAbs
        unfold Sp.fits at h1
        have h2 : 1000000000 ^ Sp.cnt v.natAbs ≤ 1000000000 ^ (k + k) := Nat.pow_le_pow_right (by omega) (by omega)
        rw [Nat.pow_add] at h2
        have h3 := Nat.mul_le_mul (Nat.le_succ (1000000000 ^ k)) (Nat.le_succ (1000000000 ^ k))
        exact Nat.lt_of_lt_of_le h1 (Nat.le_trans h2 h3)
      have hp : 0 < 1000000000 ^ k := Nat.pow_pos (by omega)
      have hf : Sp.fits 300001 (1000000000 ^ k) := fits_pow (by omega)
      refine ⟨by omega, by omega, by omega, by omega, by omega, by omega, by unfold Sp.inI; omega, ?_⟩
      rw [← hv, Int.natAbs_natCast]
      generalize v.natAbs = a at *
      have hkk : Sp.okK k := by unfold Sp.okK; omega
      have hfa : Sp.fits 300001 a := fits_mono (fits_self a) (by omega)
      have hfq : Sp.fits 300001 (a / 1000000000 ^ k) := fits_le hfa (Nat.div_le_self _ _)
      have hfs : Sp.fits 300002 (1000000000 ^ k + a / 1000000000 ^ k) := fits_sum hf hfq
      have hfy : Sp.fits 300002 ((1000000000 ^ k + a / 1000000000 ^ k) / 2) := fits_le hfs (Nat.div_le_self _ _)
      refine rSqrtF fa _ _ _ ?_
      have hu := unit_bk k
      rw [show (ag [vb false, vf (us (List.replicate k (0 : Int) ++ [1]))]) = bigA false (Sp.bk k : Int) from hu]
      rw [show Sp.bk k = 1000000000 ^ k from rfl]
      generalize 1000000000 ^ k = x at *
      have e2 : (x : Int) + ((a / x : Nat) : Int) = ((x + a / x : Nat) : Int) := by omega
      rw [flo_nat hp, e2, flo_two]
      have c1 := fits_cnt.1 hfa
      have c3 := fits_cnt.1 hfs
      refine ⟨⟨by rw [Int.natAbs_natCast]; omega, hkk⟩, ⟨hkk, okB_fits hfq (by omega)⟩, by rw [Int.natAbs_natCast]; omega, ⟨okB_fits hfy (by omega), hkk⟩, fun k => ?_, fun k => ?_⟩
      · have k : ¬(Sp.sgnI (((x + a / x) / 2 : Nat) - (x : Int)) < 0) := by omega
        rw [sgnI_lt] at k
        rw [newton_done hp big (by omega)]
        exact .refl _
      · have k : Sp.sgnI (((x + a / x) / 2 : Nat) - (x : Int)) < 0 := by omega
        rw [sgnI_lt] at k
        have hn := newton_above (a := a) hp
        refine rsqrtH fa a h hz' _ _ (Nat.le_refl _) ?_ hn (fits_le hf (by omega))
        apply Nat.pos_of_ne_zero
        intro e
        rw [e] at hn
        omega
end Go.Av

namespace Go.Av
open Go.Proofs
set_option maxRecDepth 100000
def fi15 : Fi := ⟨17, [.tmp 4]⟩
def kp15 : List (Nat × List Nat) := [(0, [2, 3]), (1, [4])]
def fi36 : Fi := ⟨6, [.tmp 2]⟩
def kp36 : List (Nat × List Nat) := [(0, [1]), (1, [2])]
def fi47 : Fi := ⟨2, [.cell 0 24]⟩
def kp47 : List (Nat × List Nat) := [(0, [0]), (1, [0])]
def fi48 : Fi := ⟨39, [.cell 4 26]⟩
def kp48 : List (Nat × List Nat) := [(0, [2, 3, 4]), (1, [2, 3, 4, 14]), (2, [2, 3, 4]), (3, [2, 3, 4, 5]), (4, [3, 4, 5, 6]), (5, [4, 6, 9]), (6, [4])]
def fi68 : Fi := ⟨21, [.cell 2 24, .tmp 3]⟩
def kp68 : List (Nat × List Nat) := [(0, [1, 2]), (1, [1, 2, 4, 5]), (2, [2, 3])]
def rUnit_at  (Q : AV → Heap → Prop) : Prop := Wp M1 (.run fi47 (atC (cd Try.f47) []) [] []) Q
def rOf_at (fa fb : Bool) (a b : Int) (Q : AV → Heap → Prop) : Prop := Wp M1 (.run fi48 (atC (cd Try.f48) []) [(0, .agg [.bool (Sp.isNeg a), .vec fa 1 ((Sp.limI a).map (.int .u32))]), (1, .agg [.bool (Sp.isNeg b), .vec fb 1 ((Sp.limI b).map (.int .u32))])] []) Q
def rRSign_at (fa ga : Bool) (p q : Int) (Q : AV → Heap → Prop) : Prop := Wp M1 (.run fi36 (atC (cd Try.f36) []) [(0, .agg [.bool (Sp.isNeg p), .vec fa 1 ((Sp.limI p).map (.int .u32)), .bool (Sp.isNeg q), .vec ga 1 ((Sp.limI q).map (.int .u32))])] []) Q
def rRSame_at (fa ga fb gb : Bool) (p q p2 q2 : Int) (Q : AV → Heap → Prop) : Prop := Wp M1 (.run fi15 (atC (cd Try.f15) []) [(0, .agg [.bool (Sp.isNeg p), .vec fa 1 ((Sp.limI p).map (.int .u32)), .bool (Sp.isNeg q), .vec ga 1 ((Sp.limI q).map (.int .u32))]), (1, .agg [.bool (Sp.isNeg p2), .vec fb 1 ((Sp.limI p2).map (.int .u32)), .bool (Sp.isNeg q2), .vec gb 1 ((Sp.limI q2).map (.int .u32))])] []) Q
def rPerf_at (fa : Bool) (a : Int) (Q : AV → Heap → Prop) : Prop := Wp M1 (.run fi68 (atC (cd Try.f68) []) [(0, .agg [.bool (Sp.isNeg a), .vec fa 1 ((Sp.limI a).map (.int .u32))])] []) Q
theorem call15 {args : List AV} {d : AV} (h : Wp M1 (.run fi15 [.code (cd Try.f15)] (argVars 0 args) []) (PureQ d)) : Ev M1 (.pure 15 args) d [] :=
  pure_pq Try.f15 fi15 (by kernel_rfl) (by kernel_rfl) (by kernel_rfl) (by kernel_rfl) h
theorem call36 {args : List AV} {d : AV} (h : Wp M1 (.run fi36 [.code (cd Try.f36)] (argVars 0 args) []) (PureQ d)) : Ev M1 (.pure 36 args) d [] :=
  pure_pq Try.f36 fi36 (by kernel_rfl) (by kernel_rfl) (by kernel_rfl) (by kernel_rfl) h
theorem call47 {args : List AV} {d : AV} (h : Wp M1 (.run fi47 [.code (cd Try.f47)] (argVars 0 args) []) (PureQ d)) : Ev M1 (.pure 47 args) d [] :=
  pure_pq Try.f47 fi47 (by kernel_rfl) (by kernel_rfl) (by kernel_rfl) (by kernel_rfl) h
theorem call48 {args : List AV} {d : AV} (h : Wp M1 (.run fi48 [.code (cd Try.f48)] (argVars 0 args) []) (PureQ d)) : Ev M1 (.pure 48 args) d [] :=
  pure_pq Try.f48 fi48 (by kernel_rfl) (by kernel_rfl) (by kernel_rfl) (by kernel_rfl) h
theorem call68 {args : List AV} {d : AV} (h : Wp M1 (.run fi68 [.code (cd Try.f68)] (argVars 0 args) []) (PureQ d)) : Ev M1 (.pure 68 args) d [] :=
  pure_pq Try.f68 fi68 (by kernel_rfl) (by kernel_rfl) (by kernel_rfl) (by kernel_rfl) h
theorem rUnit   (dq : AV) (H :
    (Sp.inI 1) /\
    Weak (ag [vb false, vf (us (Sp.limI 1))]) dq) :
  rUnit_at  (PureQ dq) := by
  unfold rUnit_at
  obtain ⟨k1, H⟩ := H
  exact path_rq (G := given kp47 [(1, 0, .call (ag [vb false, vf (us (Sp.limI 1))]) none)] []) 1000 [] (ag [vb false, vf (us (Sp.limI 1))]) (by kernel_rfl) (bc rfl b0) q0 (ce (@ev46 (1) k1) c0) H
theorem rOf (fa fb : Bool) (a b : Int)  (dq : AV) (H :
    ((Sp.sgnI b < 0) -> (Sp.ok a) /\
      (Sp.ok b) /\
      (Sp.cnt (-a).natAbs <= 399000 /\ Sp.cnt (-b).natAbs <= 399000) /\
      (Sp.cnt (-a).natAbs <= 399000 /\ Sp.cnt (↑((-a).gcd (-b)) : Int).natAbs <= 399000 /\ (↑((-a).gcd (-b)) : Int) ≠ 0) /\
      (Sp.cnt (-b).natAbs <= 399000 /\ Sp.cnt (↑((-a).gcd (-b)) : Int).natAbs <= 399000 /\ (↑((-a).gcd (-b)) : Int) ≠ 0) /\
      Weak (ag [vb (Sp.isNeg (Sp.flo (-a) (↑((-a).gcd (-b)) : Int))), vf (us (Sp.limI (Sp.flo (-a) (↑((-a).gcd (-b)) : Int)))), vb (Sp.isNeg (Sp.flo (-b) (↑((-a).gcd (-b)) : Int))), vf (us (Sp.limI (Sp.flo (-b) (↑((-a).gcd (-b)) : Int))))]) dq) /\
    (¬(Sp.sgnI b < 0) -> (Sp.cnt a.natAbs <= 399000 /\ Sp.cnt b.natAbs <= 399000) /\
      (Sp.cnt a.natAbs <= 399000 /\ Sp.cnt (↑(a.gcd b) : Int).natAbs <= 399000 /\ (↑(a.gcd b) : Int) ≠ 0) /\
      (Sp.cnt b.natAbs <= 399000 /\ Sp.cnt (↑(a.gcd b) : Int).natAbs <= 399000 /\ (↑(a.gcd b) : Int) ≠ 0) /\
      Weak (ag [vb (Sp.isNeg (Sp.flo a (↑(a.gcd b) : Int))), vf (us (Sp.limI (Sp.flo a (↑(a.gcd b) : Int)))), vb (Sp.isNeg (Sp.flo b (↑(a.gcd b) : Int))), vf (us (Sp.limI (Sp.flo b (↑(a.gcd b) : Int))))]) dq)) :
  rOf_at fa fb a b (PureQ dq) := by
  unfold rOf_at
  refine path_wp (G := given kp48 [(1, 1, .call (vi (Sp.sgnI b)) none)] []) 5 [] ⟨(atC (cd Try.f48) [1, 0, 1]), [(2, AV.ptr 0 0 0 0), (3, AV.ptr 1 0 0 0), (4, AV.ptr 2 0 0 0), (14, vb (decide (Sp.sgnI b < 0)))], [⟨[bigA fa a], 2, 0, false, false⟩, ⟨[bigA fb b], 2, 0, false, false⟩, ⟨[ag [vb false, AV.vnil, vb false, AV.vnil]], 4, 0, false, false⟩], _, [], _⟩ (by kernel_rfl) (bc rfl b0) q0 (ce (@ev62 (fb) (b)) c0) ?_
  rcases xm (Sp.sgnI b < 0) with d2 | d2
  · have H := H.1 d2
    obtain ⟨k3, H⟩ := H
    obtain ⟨k4, H⟩ := H
    obtain ⟨k5, H⟩ := H
    obtain ⟨k6, H⟩ := H
    obtain ⟨k7, H⟩ := H
    exact path_rq (G := given kp48 [(2, 1, .call (bigA false (-a)) none), (2, 3, .call (bigA false (-b)) none), (3, 2, .call (bigA false (↑((-a).gcd (-b)) : Int)) none), (4, 2, .call (tu [bigA false (Sp.flo (-a) (↑((-a).gcd (-b)) : Int)), bigA false (Sp.flr (-a) (↑((-a).gcd (-b)) : Int)), vi 0]) none), (5, 2, .call (tu [bigA false (Sp.flo (-b) (↑((-a).gcd (-b)) : Int)), bigA false (Sp.flr (-b) (↑((-a).gcd (-b)) : Int)), vi 0]) none)] []) 1000 [true] (ag [vb (Sp.isNeg (Sp.flo (-a) (↑((-a).gcd (-b)) : Int))), vf (us (Sp.limI (Sp.flo (-a) (↑((-a).gcd (-b)) : Int)))), vb (Sp.isNeg (Sp.flo (-b) (↑((-a).gcd (-b)) : Int))), vf (us (Sp.limI (Sp.flo (-b) (↑((-a).gcd (-b)) : Int))))]) (by kernel_rfl) (bc (beq_t (i_dec.2 d2)) (bc rfl (bc rfl (bc rfl (bc rfl (bc rfl (bc rfl (bc rfl (bc rfl (bc rfl (bc rfl (bc rfl (bc rfl (bc rfl (bc rfl (bc rfl (bc rfl (bc rfl (bc rfl b0))))))))))))))))))) q0 (ce (@ev78 (fa) (a) k3) (ce (@ev78 (fb) (b) k4) (ce (@ev63 (false) (false) (-a) (-b) k5) (ce (@ev79 (false) (false) (-a) ((↑((-a).gcd (-b)) : Int)) k6) (ce (@ev79 (false) (false) (-b) ((↑((-a).gcd (-b)) : Int)) k7) c0))))) H
  · have H := H.2 d2
    obtain ⟨k8, H⟩ := H
    obtain ⟨k9, H⟩ := H
    obtain ⟨k10, H⟩ := H
    exact path_rq (G := given kp48 [(3, 2, .call (bigA false (↑(a.gcd b) : Int)) none), (4, 2, .call (tu [bigA false (Sp.flo a (↑(a.gcd b) : Int)), bigA false (Sp.flr a (↑(a.gcd b) : Int)), vi 0]) none), (5, 2, .call (tu [bigA false (Sp.flo b (↑(a.gcd b) : Int)), bigA false (Sp.flr b (↑(a.gcd b) : Int)), vi 0]) none)] []) 1000 [false] (ag [vb (Sp.isNeg (Sp.flo a (↑(a.gcd b) : Int))), vf (us (Sp.limI (Sp.flo a (↑(a.gcd b) : Int)))), vb (Sp.isNeg (Sp.flo b (↑(a.gcd b) : Int))), vf (us (Sp.limI (Sp.flo b (↑(a.gcd b) : Int))))]) (by kernel_rfl) (bc (beq_f (fun h => d2 (i_dec.1 h))) (bc rfl (bc rfl (bc rfl (bc rfl (bc rfl (bc rfl (bc rfl (bc rfl (bc rfl (bc rfl (bc rfl (bc rfl (bc rfl (bc rfl b0))))))))))))))) q0 (ce (@ev63 (fa) (fb) (a) (b) k8) (ce (@ev79 (fa) (false) (a) ((↑(a.gcd b) : Int)) k9) (ce (@ev79 (fb) (false) (b) ((↑(a.gcd b) : Int)) k10) c0))) H
theorem rRSign (fa ga : Bool) (p q : Int)  (dq : AV) (H :
    vi (Sp.sgnI p) = dq) :
  rRSign_at fa ga p q (PureQ dq) := by
  unfold rRSign_at
  exact path_re (G := given kp36 [(1, 2, .call (vi (Sp.sgnI p)) none)] []) 1000 [] (vi (Sp.sgnI p)) (by kernel_rfl) (bc rfl b0) q0 (ce (@ev62 (fa) (p)) c0) H
theorem rRSame (fa ga fb gb : Bool) (p q p2 q2 : Int)  (dq : AV) (H :
    (Sp.ok p /\ Sp.ok p2) /\
    ((p = p2) -> (Sp.ok q /\ Sp.ok q2)) /\
    vb (bif decide (p = p2) then decide (q = q2) else false) = dq) :
  rRSame_at fa ga fb gb p q p2 q2 (PureQ dq) := by
  unfold rRSame_at
  obtain ⟨k1, H⟩ := H
  obtain ⟨k3, H⟩ := H
  exact path_re (G := given kp15 [(1, 4, .call (vb (decide (p = p2))) none), (1, 10, .call (vb (decide (q = q2))) none)] []) 1000 [] (asm := [true, true, !(decide (p = p2) == true && true) || true, !(decide (p = p2) == true && true) || true]) (calls := [⟨true, false, 43, [bigA fa p, bigA fb p2], [], vb (decide (p = p2)), []⟩, ⟨decide (p = p2) == true && true && true, false, 43, [bigA ga q, bigA gb q2], [], vb (decide (q = q2)), []⟩]) (vb (bif decide (p = p2) then decide (q = q2) else false)) (by kernel_rfl) (bc rfl (bc rfl (bc (Bool.or_true _) (bc (Bool.or_true _) b0)))) q0 (cc (fun _ => (@ev43 (fa) (fb) (p) (p2) k1)) (cc (fun hc => ((@ev43 (ga) (gb) (q) (q2) (k3 ((i_at (i_at (i_bt i_dec))).1 hc))) : Ev M1 (Conf.pure 43 [bigA ga q, bigA gb q2]) (vb (decide (q = q2))) [])) c0)) H
theorem rPerf (fa : Bool) (a : Int)  (dq : AV) (H :
    (Sp.okS a) /\
    ((Sp.sqe a = 0) -> (Sp.okB (Sp.sq a) /\ Sp.okB (Sp.sq a))) /\
    ((Sp.sqe a = 0) -> (Sp.ok (Sp.sq a * Sp.sq a) /\ Sp.ok a)) /\
    Weak (tu [bigA false (Sp.sq a), vb (bif Sp.sqe a == 0 then decide (Sp.sq a * Sp.sq a = a) else false)]) dq) :
  rPerf_at fa a (PureQ dq) := by
  unfold rPerf_at
  obtain ⟨k1, H⟩ := H
  obtain ⟨k3, H⟩ := H
  obtain ⟨k5, H⟩ := H
  exact path_rq (G := given kp68 [(1, 1, .call (tu [bigA false (Sp.sq a), vi (Sp.sqe a)]) none), (2, 6, .call (bigA false (Sp.sq a * Sp.sq a)) none), (2, 8, .call (vb (decide (Sp.sq a * Sp.sq a = a))) none)] []) 1000 [] (asm := [true, true, true, !((Sp.sqe a == 0) == true && true) || true, !((Sp.sqe a == 0) == true && true) || true, !((Sp.sqe a == 0) == true && true) || true, true]) (calls := [⟨true, false, 94, [bigA fa a], [], tu [bigA false (Sp.sq a), vi (Sp.sqe a)], []⟩, ⟨(Sp.sqe a == 0) == true && true && true, false, 69, [bigA false (Sp.sq a), bigA false (Sp.sq a)], [], bigA false (Sp.sq a * Sp.sq a), []⟩, ⟨(Sp.sqe a == 0) == true && true && true, false, 43, [bigA false (Sp.sq a * Sp.sq a), bigA fa a], [], vb (decide (Sp.sq a * Sp.sq a = a)), []⟩]) (tu [bigA false (Sp.sq a), vb (bif Sp.sqe a == 0 then decide (Sp.sq a * Sp.sq a = a) else false)]) (by kernel_rfl) (bc rfl (bc rfl (bc rfl (bc (Bool.or_true _) (bc (Bool.or_true _) (bc (Bool.or_true _) (bc rfl b0))))))) q0 (cc (fun _ => (@ev94 (fa) (a) k1)) (cc (fun hc => ((@ev69 (false) (false) (Sp.sq a) (Sp.sq a) (k3 ((i_at (i_at (i_bt i_eq))).1 hc))) : Ev M1 (Conf.pure 69 [bigA false (Sp.sq a), bigA false (Sp.sq a)]) (bigA false (Sp.sq a * Sp.sq a)) [])) (cc (fun hc => ((@ev43 (false) (fa) (Sp.sq a * Sp.sq a) (a) (k5 ((i_at (i_at (i_bt i_eq))).1 hc))) : Ev M1 (Conf.pure 43 [bigA false (Sp.sq a * Sp.sq a), bigA fa a]) (vb (decide (Sp.sq a * Sp.sq a = a))) [])) c0))) H
end Go.Av

namespace Go.Av
open Go.Proofs
set_option maxRecDepth 100000
def fi107 : Fi := ⟨6, [.tmp 2]⟩
def kp107 : List (Nat × List Nat) := [(0, [0]), (1, [2])]
def vIsNaN_at (x : Int) (Q : AV → Heap → Prop) : Prop := Wp M1 (.run fi107 (atC (cd Try.f107) []) [(0, .int .i64 x)] []) Q
theorem call107 {args : List AV} {d : AV} (h : Wp M1 (.run fi107 [.code (cd Try.f107)] (argVars 0 args) []) (PureQ d)) : Ev M1 (.pure 107 args) d [] :=
  pure_pq Try.f107 fi107 (by kernel_rfl) (by kernel_rfl) (by kernel_rfl) (by kernel_rfl) h
theorem vIsNaN (x : Int)  (dq : AV) (H :
    (vb (x != x)) = dq) :
  vIsNaN_at x (PureQ dq) := by
  unfold vIsNaN_at
  exact path_re (G := given kp107 [] []) 1000 [] (vb (x != x)) (by kernel_rfl) b0 q0 c0 H
end Go.Av

namespace Go.Av
open Go.Proofs
theorem ev107 (x : Int) : Ev M1 (.pure 107 [.int .i64 x]) (.bool false) [] :=
  call107 (vIsNaN _ _ (by simp))
theorem ev49 (fa ga fb gb : Bool) (r s : Rat) (h : Sp.okR r ∧ Sp.okR s ∧ s.num ≠ 0) : Ev M1 (.pure 49 [ratA fa ga r, ratA fb gb s]) (.tup [ratA false false (r / s), .int .i64 0]) [] := by
  obtain ⟨hr, hs, h0⟩ := h
  obtain ⟨r1, r2⟩ := okR_B hr
  obtain ⟨s1, s2⟩ := okR_B hs
  obtain ⟨cr1, cr2⟩ := hr
  obtain ⟨cs1, cs2⟩ := hs
  have m1 := cnt_mulI cr1 (cnt_den cs2)
  have m3 := cnt_mulI (cnt_den cr2) cs1
  refine call49 (vRDiv _ _ _ _ _ _ _ ⟨fun k => absurd (sgnI_zero.1 k) h0, fun _ => ⟨⟨r1, s2⟩, ⟨r2, s1⟩, ⟨by unfold Sp.okB; omega, by unfold Sp.okB; omega, Int.mul_ne_zero (den_ne r) h0⟩, ?_⟩⟩)
  rw [rat_div]; exact .refl _
end Go.Av

namespace Go.Av
open Go.Proofs
set_option maxRecDepth 100000
def fi81 : Fi := ⟨9, [.cell 4 26]⟩
def kp81 : List (Nat × List Nat) := [(0, [2, 3, 4]), (1, [4])]
def fi99 : Fi := ⟨20, [.tmp 4]⟩
def kp99 : List (Nat × List Nat) := [(0, [0, 1]), (1, [0, 1, 5]), (2, [0, 1, 5, 6]), (3, [0, 1, 6, 11]), (4, [12]), (5, [4]), (6, [4]), (7, [0, 1, 13]), (8, [4]), (9, [0, 1, 16]), (10, [4]), (11, [19]), (12, [4]), (13, [4])]
def vCmpInt_at (x y : Int) (Q : AV → Heap → Prop) : Prop := Wp M1 (.run fi99 (atC (cd Try.f99) []) [(0, .int .i64 x), (1, .int .i64 y)] []) Q
def vRSub_at (fa ga fb gb : Bool) (r s : Rat) (Q : AV → Heap → Prop) : Prop := Wp M1 (.run fi81 (atC (cd Try.f81) []) [(0, .agg [.bool (Sp.isNeg r.num), .vec fa 1 ((Sp.limI r.num).map (.int .u32)), .bool (Sp.isNeg (r.den : Int)), .vec ga 1 ((Sp.limI (r.den : Int)).map (.int .u32))]), (1, .agg [.bool (Sp.isNeg s.num), .vec fb 1 ((Sp.limI s.num).map (.int .u32)), .bool (Sp.isNeg (s.den : Int)), .vec gb 1 ((Sp.limI (s.den : Int)).map (.int .u32))])] []) Q
theorem call81 {args : List AV} {d : AV} (h : Wp M1 (.run fi81 [.code (cd Try.f81)] (argVars 0 args) []) (PureQ d)) : Ev M1 (.pure 81 args) d [] :=
  pure_pq Try.f81 fi81 (by kernel_rfl) (by kernel_rfl) (by kernel_rfl) (by kernel_rfl) h
theorem call99 {args : List AV} {d : AV} (h : Wp M1 (.run fi99 [.code (cd Try.f99)] (argVars 0 args) []) (PureQ d)) : Ev M1 (.pure 99 args) d [] :=
  pure_pq Try.f99 fi99 (by kernel_rfl) (by kernel_rfl) (by kernel_rfl) (by kernel_rfl) h
theorem vCmpInt (x y : Int)  (dq : AV) (H :
    ((x < y) -> vi (-1) = dq) /\
    (¬(x < y) -> ((x > y) -> vi 1 = dq) /\
      (¬(x > y) -> vi 0 = dq))) :
  vCmpInt_at x y (PureQ dq) := by
  unfold vCmpInt_at
  refine path_wp (G := given kp99 [(1, 1, .call (vb false) none), (2, 1, .call (vb false) none)] []) 19 [false, false] ⟨(atC (cd Try.f99) [1, 1, 1, 1, 1, 0, 1]), [(0, vi x), (1, vi y), (16, vb (decide (x < y)))], [], _, [], _⟩ (by kernel_rfl) (bc rfl (bc rfl b0)) q0 (ce (@ev107 (x)) (ce (@ev107 (y)) c0)) ?_
  rcases xm (x < y) with d2 | d2
  · have H := H.1 d2
    exact path_re (G := given kp99 [] []) 1000 [true] (vi (-1)) (by kernel_rfl) (bc (beq_t (i_dec.2 d2)) b0) q0 c0 H
  · have H := H.2 d2
    rcases xm (x > y) with d4 | d4
    · have H := H.1 d4
      exact path_re (G := given kp99 [] []) 1000 [false, true] (vi 1) (by kernel_rfl) (bc (beq_f (fun h => d2 (i_dec.1 h))) (bc (beq_t (i_dec.2 d4)) b0)) q0 c0 H
    · have H := H.2 d4
      exact path_re (G := given kp99 [] []) 1000 [false, false] (vi 0) (by kernel_rfl) (bc (beq_f (fun h => d2 (i_dec.1 h))) (bc (beq_f (fun h => d4 (i_dec.1 h))) b0)) q0 c0 H
theorem vRSub (fa ga fb gb : Bool) (r s : Rat)  (dq : AV) (H :
    (Sp.okB s.num) /\
    (Sp.okR r /\ Sp.okR (-s)) /\
    Weak (ratA false false (r + -s)) dq) :
  vRSub_at fa ga fb gb r s (PureQ dq) := by
  unfold vRSub_at
  obtain ⟨k1, H⟩ := H
  obtain ⟨k2, H⟩ := H
  exact path_rq (G := given kp81 [(1, 2, .call (ratA false false (-s)) none), (1, 3, .call (ratA false false (r + -s)) none)] []) 1000 [] (ratA false false (r + -s)) (by kernel_rfl) (bc rfl (bc rfl (bc rfl b0))) q0 (ce (@ev53 (fb) (gb) (s) k1) (ce (@ev33 (fa) (ga) (false) (false) (r) (-s) k2) c0)) H
end Go.Av

namespace Go.Av
open Go.Proofs
theorem ev99 (x y : Int) : Ev M1 (.pure 99 [.int .i64 x, .int .i64 y]) (.int .i64 (Sp.sgnI (x - y))) [] := by
  refine call99 (vCmpInt _ _ _ ⟨fun h => ?_, fun h => ⟨fun k => ?_, fun k => ?_⟩⟩)
  · unfold Sp.sgnI; rw [if_pos (by omega)]
  · unfold Sp.sgnI; rw [if_neg (by omega), if_pos (by omega)]
  · unfold Sp.sgnI; rw [if_neg (by omega), if_neg (by omega)]
theorem okR_neg {s : Rat} (h : Sp.okR s) : Sp.okR (-s) := by
  unfold Sp.okR at *
  rw [Rat.neg_num, Rat.neg_den, Int.natAbs_neg]; exact h
theorem ev81 (fa ga fb gb : Bool) (r s : Rat) (h : Sp.okR r ∧ Sp.okR s) : Ev M1 (.pure 81 [ratA fa ga r, ratA fb gb s]) (ratA false false (r - s)) [] := by
  refine call81 (vRSub _ _ _ _ _ _ _ ⟨(okR_B h.2).1, ⟨h.1, okR_neg h.2⟩, ?_⟩)
  rw [← Rat.sub_eq_add_neg]; exact .refl _
theorem sgn_mul (a : Int) {d : Int} (h : 0 < d) : (a < 0 → a * d < 0) ∧ (a = 0 → a * d = 0) ∧ (0 < a → 0 < a * d) :=
  ⟨fun k => Int.mul_neg_of_neg_of_pos k h, fun k => by rw [k, Int.zero_mul], fun k => Int.mul_pos k h⟩
theorem ev75 (fa ga fb gb : Bool) (r s : Rat) (h : Sp.okR r ∧ Sp.okR s) : Ev M1 (.pure 75 [ratA fa ga r, ratA fb gb s]) (.int .i64 (Sp.sgnI (r.num * (s.den : Int) - s.num * (r.den : Int)))) [] := by
  obtain ⟨hr, hs⟩ := h
  obtain ⟨r1, r2⟩ := okR_B hr
  obtain ⟨s1, s2⟩ := okR_B hs
  obtain ⟨cr1, cr2⟩ := hr
  obtain ⟨cs1, cs2⟩ := hs
  have m1 := cnt_mulI cr1 (cnt_den cs2)
  have m2 := cnt_mulI cs1 (cnt_den cr2)
  refine call75 (vRCmp _ _ _ _ _ _ _ ⟨_, ev99 _ _, fun k => ?_, fun _ => ⟨⟨r1, s2⟩, ⟨s1, r2⟩, ⟨by unfold Sp.okB; omega, by unfold Sp.okB; omega⟩, rfl⟩⟩)
  obtain ⟨a1, a2, a3⟩ := sgn_mul r.num (d := (s.den : Int)) (by have := s.den_pos; omega)
  obtain ⟨b1, b2, b3⟩ := sgn_mul s.num (d := (r.den : Int)) (by have := r.den_pos; omega)
  congr 1
  generalize r.num * (s.den : Int) = A at a1 a2 a3 ⊢
  generalize s.num * (r.den : Int) = B at b1 b2 b3 ⊢
  unfold Sp.sgnI at k ⊢
  (repeat' split at k) <;> (repeat' split) <;> omega
end Go.Av

namespace Go.Av
open Go.Proofs
abbrev fracA (f g : Bool) (p q : Int) : AV := .agg [.bool (Sp.isNeg p), .vec f 1 ((Sp.limI p).map (.int .u32)), .bool (Sp.isNeg q), .vec g 1 ((Sp.limI q).map (.int .u32))]
abbrev noR : AV := .agg [.bool false, .vec false 1 [], .bool false, .vec false 1 []]
theorem weak_nr : Weak (.agg [.bool false, .vnil, .bool false, .vnil]) noR := by
  have w : Weak .vnil (.vec false 1 []) := by
    have := weak_bnil false
    cases this with
    | agg xs ys hl h => exact h 1 _ _ rfl rfl
  refine .agg _ _ rfl fun i x y hx hy => ?_
  match i with
  | 0 => simp at hx hy; subst hx; subst hy; exact .refl _
  | 1 => simp at hx hy; subst hx; subst hy; exact w
  | 2 => simp at hx hy; subst hx; subst hy; exact .refl _
  | 3 => simp at hx hy; subst hx; subst hy; exact w
  | i + 4 => simp at hx
theorem okR_S {r : Rat} (h : Sp.okR r) : Sp.okS r.num ∧ Sp.okS (r.den : Int) := by
  unfold Sp.okR at h
  unfold Sp.okS
  rw [Int.natAbs_natCast]; omega
theorem ev32_y (fa ga : Bool) (r : Rat) (h : Sp.okR r) (k : Sp.rsq r) : Ev M1 (.pure 32 [ratA fa ga r]) (.tup [ratA false false (Sp.rt r), .bool true]) [] := by
  obtain ⟨h1, h2⟩ := okR_S h
  obtain ⟨e1, e2⟩ := rt_num k
  refine call32 (vRSqrt _ _ _ _ ⟨h1, fun _ => ⟨h2, fun _ => ?_, fun x => absurd k.2 x⟩, fun x => absurd k.1 x⟩)
  show Weak _ (AV.tup [AV.agg [.bool (Sp.isNeg (Sp.rt r).num), .vec false 1 ((Sp.limI (Sp.rt r).num).map (.int .u32)), .bool (Sp.isNeg ((Sp.rt r).den : Int)), .vec false 1 ((Sp.limI ((Sp.rt r).den : Int)).map (.int .u32))], .bool true])
  rw [e1, e2]; exact .refl _
theorem ev32_n (fa ga : Bool) (r : Rat) (h : Sp.okR r) (k : ¬(Sp.rsq r)) : Ev M1 (.pure 32 [ratA fa ga r]) (.tup [noR, .bool false]) [] := by
  obtain ⟨h1, h2⟩ := okR_S h
  exact call32 (vRSqrt _ _ _ _ ⟨h1, fun x => ⟨h2, fun y => absurd ⟨x, y⟩ k, fun _ => weak_two weak_nr (.refl _)⟩, fun _ => weak_two weak_nr (.refl _)⟩)
end Go.Av

namespace Go.Av
open Go.Proofs
theorem gcd_cnt {a b : Int} (hb : b ≠ 0) (h : Sp.cnt b.natAbs ≤ 399000) : Sp.cnt ((a.gcd b : Nat) : Int).natAbs ≤ 399000 ∧ ((a.gcd b : Nat) : Int) ≠ 0 := by
  have h1 : 0 < a.gcd b := Int.gcd_pos_of_ne_zero_right _ hb
  have h2 : a.gcd b ≤ b.natAbs := Nat.le_of_dvd (by omega) (Int.gcd_dvd_natAbs_right a b)
  have := cnt_mono h2
  rw [Int.natAbs_natCast]
  omega
theorem ev47 : Ev M1 (.pure 47 []) (.agg [.bool false, .vec false 1 ((Sp.limI 1).map (.int .u32))]) [] :=
  call47 (rUnit _ ⟨by unfold Sp.inI; omega, .refl _⟩)
theorem ev48 (fa fb : Bool) (a b : Int) (h : Sp.cnt a.natAbs ≤ 399000 ∧ Sp.cnt b.natAbs ≤ 399000 ∧ b ≠ 0) : Ev M1 (.pure 48 [bigA fa a, bigA fb b]) (ratA false false (Rat.divInt a b)) [] := by
  obtain ⟨ha, hb, h0⟩ := h
  have hna : Sp.cnt (-a).natAbs ≤ 399000 := by rwa [Int.natAbs_neg]
  have hnb : Sp.cnt (-b).natAbs ≤ 399000 := by rwa [Int.natAbs_neg]
  refine call48 (rOf _ _ _ _ _ ⟨fun k => ?_, fun k => ?_⟩)
  · rw [sgnI_lt] at k
    obtain ⟨g1, g2⟩ := gcd_cnt (a := -a) (b := -b) (by omega) hnb
    obtain ⟨r1, r2⟩ := rat_neg (a := a) k
    refine ⟨by unfold Sp.ok; omega, by unfold Sp.ok; omega, ⟨hna, hnb⟩, ⟨hna, g1, g2⟩, ⟨hnb, g1, g2⟩, ?_⟩
    show Weak _ (AV.agg [.bool (Sp.isNeg (Rat.divInt a b).num), .vec false 1 ((Sp.limI (Rat.divInt a b).num).map (.int .u32)), .bool (Sp.isNeg ((Rat.divInt a b).den : Int)), .vec false 1 ((Sp.limI ((Rat.divInt a b).den : Int)).map (.int .u32))])
    rw [r1, r2, flo_pos g2, flo_pos g2]; exact .refl _
  · rw [sgnI_lt] at k
    obtain ⟨g1, g2⟩ := gcd_cnt (a := a) (b := b) h0 hb
    obtain ⟨r1, r2⟩ := rat_pos (a := a) (show 0 < b by omega)
    refine ⟨⟨ha, hb⟩, ⟨ha, g1, g2⟩, ⟨hb, g1, g2⟩, ?_⟩
    show Weak _ (AV.agg [.bool (Sp.isNeg (Rat.divInt a b).num), .vec false 1 ((Sp.limI (Rat.divInt a b).num).map (.int .u32)), .bool (Sp.isNeg ((Rat.divInt a b).den : Int)), .vec false 1 ((Sp.limI ((Rat.divInt a b).den : Int)).map (.int .u32))])
    rw [r1, r2, flo_pos g2, flo_pos g2]; exact .refl _
theorem ev36 (fa ga : Bool) (p q : Int) : Ev M1 (.pure 36 [fracA fa ga p q]) (.int .i64 (Sp.sgnI p)) [] :=
  call36 (rRSign _ _ _ _ _ rfl)
theorem ev15 (fa ga fb gb : Bool) (r s : Rat) (h : Sp.okR r ∧ Sp.okR s) : Ev M1 (.pure 15 [ratA fa ga r, ratA fb gb s]) (.bool (decide (r = s))) [] := by
  obtain ⟨⟨h1, h2⟩, ⟨h3, h4⟩⟩ := h
  refine call15 (rRSame _ _ _ _ _ _ _ _ _ ⟨by unfold Sp.ok; omega, fun _ => by unfold Sp.ok; rw [Int.natAbs_natCast, Int.natAbs_natCast]; omega, ?_⟩)
  congr 1
  by_cases e : r = s
  · subst e; simp
  · rw [decide_eq_false e]
    by_cases e1 : r.num = s.num
    · have : ¬(r.den : Int) = (s.den : Int) := fun e2 => e (Rat.ext e1 (by omega))
      rw [decide_eq_false this]; simp
    · rw [decide_eq_false e1]; rfl
theorem isSqD (a : Int) : (bif Sp.sqe a == 0 then decide (Sp.sq a * Sp.sq a = a) else false) = Sp.isSq a := by
  unfold Sp.isSq
  congr 1
  have h := @sgnI_zero (Sp.sq a * Sp.sq a - a)
  by_cases e : Sp.sq a * Sp.sq a = a
  · rw [decide_eq_true e, h.2 (by omega)]; rfl
  · rw [decide_eq_false e]
    exact (beq_eq_false_iff_ne.2 fun x => e (by have := h.1 x; omega)).symm
theorem ev68 (fa : Bool) (a : Int) (h : Sp.okS a) : Ev M1 (.pure 68 [bigA fa a]) (.tup [bigA false (Sp.sq a), .bool (Sp.isSq a)]) [] := by
  have hk : Sp.sqe a = 0 → 0 ≤ a := by
    intro k
    unfold Sp.sqe at k
    split at k <;> omega
  have h' := h
  unfold Sp.okS at h'
  refine call68 (rPerf _ _ _ ⟨h, fun k => ?_, fun k => ⟨?_, ?_⟩, ?_⟩)
  · have := cnt_mono (sq_le (hk k)).2
    unfold Sp.okB
    omega
  · have := cnt_mono (sq_le (hk k)).1
    unfold Sp.ok
    rw [Int.natAbs_mul]; omega
  · unfold Sp.ok; omega
  · rw [isSqD]; exact .refl _
end Go.Av

namespace Go.Av
open Go.Proofs
set_option maxRecDepth 100000
def fi22 : Fi := ⟨7, [.cell 2 26]⟩
def kp22 : List (Nat × List Nat) := [(0, [0, 2]), (1, [2])]
def fi23 : Fi := ⟨12, [.cell 4 26]⟩
def kp23 : List (Nat × List Nat) := [(0, [0, 1, 4]), (1, [0, 1, 4, 6]), (2, [0, 1, 4]), (3, [4])]
def fi37 : Fi := ⟨30, [.cell 2 26, .tmp 3]⟩
def kp37 : List (Nat × List Nat) := [(0, [1, 2]), (1, [1, 2, 4, 5]), (2, [2, 4, 5, 6, 7]), (3, [2, 4, 6, 25]), (4, [2, 3]), (5, [2, 3])]
def fi38 : Fi := ⟨26, [.cell 4 26]⟩
def kp38 : List (Nat × List Nat) := [(0, [2, 3, 4]), (1, [2, 3, 4, 5]), (2, [2, 3, 4, 5, 6]), (3, [4])]
def fi39 : Fi := ⟨16, [.cell 4 26]⟩
def kp39 : List (Nat × List Nat) := [(0, [2, 3, 4]), (1, [4])]
def rRFrom_at (n : Int) (Q : AV → Heap → Prop) : Prop := Wp M1 (.run fi22 (atC (cd Try.f22) []) [(0, .int .i64 n)] []) Q
def rRAdd_at (fa ga fb gb : Bool) (r s : Rat) (Q : AV → Heap → Prop) : Prop := Wp M1 (.run fi38 (atC (cd Try.f38) []) [(0, .agg [.bool (Sp.isNeg r.num), .vec fa 1 ((Sp.limI r.num).map (.int .u32)), .bool (Sp.isNeg (r.den : Int)), .vec ga 1 ((Sp.limI (r.den : Int)).map (.int .u32))]), (1, .agg [.bool (Sp.isNeg s.num), .vec fb 1 ((Sp.limI s.num).map (.int .u32)), .bool (Sp.isNeg (s.den : Int)), .vec gb 1 ((Sp.limI (s.den : Int)).map (.int .u32))])] []) Q
def rRMul_at (fa ga fb gb : Bool) (r s : Rat) (Q : AV → Heap → Prop) : Prop := Wp M1 (.run fi39 (atC (cd Try.f39) []) [(0, .agg [.bool (Sp.isNeg r.num), .vec fa 1 ((Sp.limI r.num).map (.int .u32)), .bool (Sp.isNeg (r.den : Int)), .vec ga 1 ((Sp.limI (r.den : Int)).map (.int .u32))]), (1, .agg [.bool (Sp.isNeg s.num), .vec fb 1 ((Sp.limI s.num).map (.int .u32)), .bool (Sp.isNeg (s.den : Int)), .vec gb 1 ((Sp.limI (s.den : Int)).map (.int .u32))])] []) Q
def rRFrac_at (n d : Int) (Q : AV → Heap → Prop) : Prop := Wp M1 (.run fi23 (atC (cd Try.f23) []) [(0, .int .i64 n), (1, .int .i64 d)] []) Q
def rRSqrt_at (fa ga : Bool) (r : Rat) (Q : AV → Heap → Prop) : Prop := Wp M1 (.run fi37 (atC (cd Try.f37) []) [(0, .agg [.bool (Sp.isNeg r.num), .vec fa 1 ((Sp.limI r.num).map (.int .u32)), .bool (Sp.isNeg (r.den : Int)), .vec ga 1 ((Sp.limI (r.den : Int)).map (.int .u32))])] []) Q
theorem call22 {args : List AV} {d : AV} (h : Wp M1 (.run fi22 [.code (cd Try.f22)] (argVars 0 args) []) (PureQ d)) : Ev M1 (.pure 22 args) d [] :=
  pure_pq Try.f22 fi22 (by kernel_rfl) (by kernel_rfl) (by kernel_rfl) (by kernel_rfl) h
theorem call23 {args : List AV} {d : AV} (h : Wp M1 (.run fi23 [.code (cd Try.f23)] (argVars 0 args) []) (PureQ d)) : Ev M1 (.pure 23 args) d [] :=
  pure_pq Try.f23 fi23 (by kernel_rfl) (by kernel_rfl) (by kernel_rfl) (by kernel_rfl) h
theorem call37 {args : List AV} {d : AV} (h : Wp M1 (.run fi37 [.code (cd Try.f37)] (argVars 0 args) []) (PureQ d)) : Ev M1 (.pure 37 args) d [] :=
  pure_pq Try.f37 fi37 (by kernel_rfl) (by kernel_rfl) (by kernel_rfl) (by kernel_rfl) h
theorem call38 {args : List AV} {d : AV} (h : Wp M1 (.run fi38 [.code (cd Try.f38)] (argVars 0 args) []) (PureQ d)) : Ev M1 (.pure 38 args) d [] :=
  pure_pq Try.f38 fi38 (by kernel_rfl) (by kernel_rfl) (by kernel_rfl) (by kernel_rfl) h
theorem call39 {args : List AV} {d : AV} (h : Wp M1 (.run fi39 [.code (cd Try.f39)] (argVars 0 args) []) (PureQ d)) : Ev M1 (.pure 39 args) d [] :=
  pure_pq Try.f39 fi39 (by kernel_rfl) (by kernel_rfl) (by kernel_rfl) (by kernel_rfl) h
theorem rRFrom (n : Int)  (dq : AV) (H :
    (Sp.inI n) /\
    Weak (ag [vb (Sp.isNeg n), vf (us (Sp.limI n)), vb false, vf (us (Sp.limI 1))]) dq) :
  rRFrom_at n (PureQ dq) := by
  unfold rRFrom_at
  obtain ⟨k1, H⟩ := H
  exact path_rq (G := given kp22 [(1, 1, .call (bigA false n) none), (1, 2, .call (ag [vb false, vf (us (Sp.limI 1))]) none)] []) 1000 [] (ag [vb (Sp.isNeg n), vf (us (Sp.limI n)), vb false, vf (us (Sp.limI 1))]) (by kernel_rfl) (bc rfl b0) q0 (ce (@ev46 (n) k1) (ce (@ev47 ) c0)) H
theorem rRAdd (fa ga fb gb : Bool) (r s : Rat)  (dq : AV) (H :
    (Sp.okB r.num /\ Sp.okB (↑s.den : Int)) /\
    (Sp.okB s.num /\ Sp.okB (↑r.den : Int)) /\
    (Sp.okB (r.num * (↑s.den : Int)) /\ Sp.okB (s.num * (↑r.den : Int))) /\
    (Sp.okB (↑r.den : Int) /\ Sp.okB (↑s.den : Int)) /\
    (Sp.cnt (r.num * (↑s.den : Int) + s.num * (↑r.den : Int)).natAbs <= 399000 /\ Sp.cnt ((↑r.den : Int) * (↑s.den : Int)).natAbs <= 399000 /\ (↑r.den : Int) * (↑s.den : Int) ≠ 0) /\
    Weak (ratA false false (Rat.divInt (r.num * (↑s.den : Int) + s.num * (↑r.den : Int)) ((↑r.den : Int) * (↑s.den : Int)))) dq) :
  rRAdd_at fa ga fb gb r s (PureQ dq) := by
  unfold rRAdd_at
  obtain ⟨k1, H⟩ := H
  obtain ⟨k2, H⟩ := H
  obtain ⟨k3, H⟩ := H
  obtain ⟨k4, H⟩ := H
  obtain ⟨k5, H⟩ := H
  exact path_rq (G := given kp38 [(1, 4, .call (bigA false (r.num * (↑s.den : Int))) none), (2, 4, .call (bigA false (s.num * (↑r.den : Int))) none), (3, 2, .call (bigA false (r.num * (↑s.den : Int) + s.num * (↑r.den : Int))) none), (3, 7, .call (bigA false ((↑r.den : Int) * (↑s.den : Int))) none), (3, 8, .call (ratA false false (Rat.divInt (r.num * (↑s.den : Int) + s.num * (↑r.den : Int)) ((↑r.den : Int) * (↑s.den : Int)))) none)] []) 1000 [] (ratA false false (Rat.divInt (r.num * (↑s.den : Int) + s.num * (↑r.den : Int)) ((↑r.den : Int) * (↑s.den : Int)))) (by kernel_rfl) (bc rfl (bc rfl (bc rfl (bc rfl (bc rfl (bc rfl (bc rfl (bc rfl (bc rfl (bc rfl (bc rfl b0))))))))))) q0 (ce (@ev69 (fa) (gb) (r.num) ((↑s.den : Int)) k1) (ce (@ev69 (fb) (ga) (s.num) ((↑r.den : Int)) k2) (ce (@ev70 (false) (false) (r.num * (↑s.den : Int)) (s.num * (↑r.den : Int)) k3) (ce (@ev69 (ga) (gb) ((↑r.den : Int)) ((↑s.den : Int)) k4) (ce (@ev48 (false) (false) (r.num * (↑s.den : Int) + s.num * (↑r.den : Int)) ((↑r.den : Int) * (↑s.den : Int)) k5) c0))))) H
theorem rRMul (fa ga fb gb : Bool) (r s : Rat)  (dq : AV) (H :
    (Sp.okB r.num /\ Sp.okB s.num) /\
    (Sp.okB (↑r.den : Int) /\ Sp.okB (↑s.den : Int)) /\
    (Sp.cnt (r.num * s.num).natAbs <= 399000 /\ Sp.cnt ((↑r.den : Int) * (↑s.den : Int)).natAbs <= 399000 /\ (↑r.den : Int) * (↑s.den : Int) ≠ 0) /\
    Weak (ratA false false (Rat.divInt (r.num * s.num) ((↑r.den : Int) * (↑s.den : Int)))) dq) :
  rRMul_at fa ga fb gb r s (PureQ dq) := by
  unfold rRMul_at
  obtain ⟨k1, H⟩ := H
  obtain ⟨k2, H⟩ := H
  obtain ⟨k3, H⟩ := H
  exact path_rq (G := given kp39 [(1, 4, .call (bigA false (r.num * s.num)) none), (1, 9, .call (bigA false ((↑r.den : Int) * (↑s.den : Int))) none), (1, 10, .call (ratA false false (Rat.divInt (r.num * s.num) ((↑r.den : Int) * (↑s.den : Int)))) none)] []) 1000 [] (ratA false false (Rat.divInt (r.num * s.num) ((↑r.den : Int) * (↑s.den : Int)))) (by kernel_rfl) (bc rfl (bc rfl (bc rfl (bc rfl (bc rfl b0))))) q0 (ce (@ev69 (fa) (fb) (r.num) (s.num) k1) (ce (@ev69 (ga) (gb) ((↑r.den : Int)) ((↑s.den : Int)) k2) (ce (@ev48 (false) (false) (r.num * s.num) ((↑r.den : Int) * (↑s.den : Int)) k3) c0))) H
theorem rRFrac (n d : Int)  (dq : AV) (H :
    ((d = 0) -> (Sp.inI 0) /\
      (Sp.inI 1) /\
      ∃ (b1 : Bool) (l1 : List (Int)) (b2 : Bool) (l2 : List (Int)),
      (Ev M1 (Conf.pure 48 [ag [vb false, vf (us (Sp.limI 0))], ag [vb false, vf (us (Sp.limI 1))]]) (ag [vb b1, vf (us l1), vb b2, vf (us l2)]) []) /\
      Weak (ag [vb b1, vf (us l1), vb b2, vf (us l2)]) dq) /\
    (¬(d = 0) -> (Sp.inI n) /\
      (Sp.inI d) /\
      (Sp.cnt n.natAbs <= 399000 /\ Sp.cnt d.natAbs <= 399000 /\ d ≠ 0) /\
      Weak (ratA false false (Rat.divInt n d)) dq)) :
  rRFrac_at n d (PureQ dq) := by
  unfold rRFrac_at
  rcases xm (d = 0) with d2 | d2
  · have H := H.1 d2
    obtain ⟨k3, H⟩ := H
    obtain ⟨k4, H⟩ := H
    obtain ⟨b1, l1, b2, l2, H⟩ := H
    obtain ⟨k5, H⟩ := H
    exact path_rq (G := given kp23 [(3, 1, .call (ag [vb false, vf (us (Sp.limI 0))]) none), (3, 3, .call (ag [vb false, vf (us (Sp.limI 1))]) none), (3, 4, .call (ag [vb b1, vf (us l1), vb b2, vf (us l2)]) none)] []) 1000 [true] (ag [vb b1, vf (us l1), vb b2, vf (us l2)]) (by kernel_rfl) (bc (beq_t (i_eq.2 d2)) (bc rfl b0)) q0 (ce (@ev46 (0) k3) (ce (@ev46 (1) k4) (ce k5 c0))) H
  · have H := H.2 d2
    obtain ⟨k6, H⟩ := H
    obtain ⟨k7, H⟩ := H
    obtain ⟨k8, H⟩ := H
    exact path_rq (G := given kp23 [(3, 1, .call (bigA false n) none), (3, 3, .call (bigA false d) none), (3, 4, .call (ratA false false (Rat.divInt n d)) none)] []) 1000 [false] (ratA false false (Rat.divInt n d)) (by kernel_rfl) (bc (beq_f (fun h => d2 (i_eq.1 h))) (bc rfl b0)) q0 (ce (@ev46 (n) k6) (ce (@ev46 (d) k7) (ce (@ev48 (false) (false) (n) (d) k8) c0))) H
noncomputable abbrev zNwH2 (r : Rat) := bif !Sp.isSq r.num then true else !Sp.isSq (↑r.den : Int)
theorem rRSqrt (fa ga : Bool) (r : Rat)  (dq : AV) (H :
    (Sp.okS r.num) /\
    (Sp.okS (↑r.den : Int)) /\
    (((¬(Sp.isSq r.num = true)) ∨ (¬(Sp.isSq (↑r.den : Int) = true))) -> Weak (tu [ag [vb false, AV.vnil, vb false, AV.vnil], vb false]) dq) /\
    (¬((¬(Sp.isSq r.num = true)) ∨ (¬(Sp.isSq (↑r.den : Int) = true))) -> Weak (tu [ag [vb (Sp.isNeg (Sp.sq r.num)), vf (us (Sp.limI (Sp.sq r.num))), vb (Sp.isNeg (Sp.sq (↑r.den : Int))), vf (us (Sp.limI (Sp.sq (↑r.den : Int))))], vb true]) dq)) :
  rRSqrt_at fa ga r (PureQ dq) := by
  unfold rRSqrt_at
  obtain ⟨k1, H⟩ := H
  obtain ⟨k2, H⟩ := H
  refine path_wp (G := given kp37 [(1, 2, .call (tu [bigA false (Sp.sq r.num), vb (Sp.isSq r.num)]) none), (2, 2, .call (tu [bigA false (Sp.sq (↑r.den : Int)), vb (Sp.isSq (↑r.den : Int))]) none)] []) 9 [] ⟨(atC (cd Try.f37) [1, 1, 1, 0, 1]), [(2, AV.ptr 1 0 0 0), (4, AV.ptr 2 0 0 0), (6, AV.ptr 3 0 0 0), (25, vb (zNwH2 r))], [⟨[ratA fa ga r], 4, 0, false, false⟩, ⟨[ag [vb false, AV.vnil, vb false, AV.vnil]], 4, 0, false, false⟩, ⟨[bigA false (Sp.sq r.num)], 2, 0, false, false⟩, ⟨[bigA false (Sp.sq (↑r.den : Int))], 2, 0, false, false⟩], _, [], _⟩ (by kernel_rfl) (bc rfl (bc rfl (bc rfl (bc rfl b0)))) q0 (ce (@ev68 (fa) (r.num) k1) (ce (@ev68 (ga) ((↑r.den : Int)) k2) c0)) ?_
  rcases xm ((¬(Sp.isSq r.num = true)) ∨ (¬(Sp.isSq (↑r.den : Int) = true))) with d4 | d4
  · have H := H.1 d4
    exact path_rq (G := given kp37 [] []) 1000 [true] (asm := [(zNwH2 r) == true, true]) (tu [ag [vb false, AV.vnil, vb false, AV.vnil], vb false]) (by kernel_rfl) (bc (beq_t ((i_bor (i_not (i_var _)) (i_not (i_var _))).2 d4)) (bc rfl b0)) q0 c0 H
  · have H := H.2 d4
    exact path_rq (G := given kp37 [] []) 1000 [false] (asm := [(zNwH2 r) == false, true, true, true]) (tu [ag [vb (Sp.isNeg (Sp.sq r.num)), vf (us (Sp.limI (Sp.sq r.num))), vb (Sp.isNeg (Sp.sq (↑r.den : Int))), vf (us (Sp.limI (Sp.sq (↑r.den : Int))))], vb true]) (by kernel_rfl) (bc (beq_f (fun h => d4 ((i_bor (i_not (i_var _)) (i_not (i_var _))).1 h))) (bc rfl (bc rfl (bc rfl b0)))) q0 c0 H
end Go.Av

namespace Go.Av
open Go.Proofs
set_option maxRecDepth 100000
end Go.Av

namespace Go.Av
open Go.Proofs
def Sp.okA (a b : List Int) : Prop := (a.length ≤ 90000 ∧ ∀ x ∈ a, 0 ≤ x) ∧ (b.length ≤ 90000 ∧ ∀ x ∈ b, 0 ≤ x)
end Go.Av

namespace Go.Av
open Go.Proofs
theorem ev22 (n : Int) (h : Sp.inI n) : Ev M1 (.pure 22 [.int .i64 n]) (ratA false false (Sp.qi n)) [] := by
  rw [qi_eq]
  refine call22 (rRFrom _ _ ⟨h, ?_⟩)
  show Weak _ (AV.agg [.bool (Sp.isNeg (n : Rat).num), .vec false 1 ((Sp.limI (n : Rat).num).map (.int .u32)), .bool (Sp.isNeg ((n : Rat).den : Int)), .vec false 1 ((Sp.limI ((n : Rat).den : Int)).map (.int .u32))])
  rw [Rat.num_intCast, Rat.den_intCast]
  exact .refl _
theorem ev38 (fa ga fb gb : Bool) (r s : Rat) (h : Sp.okR r ∧ Sp.okR s) : Ev M1 (.pure 38 [ratA fa ga r, ratA fb gb s]) (ratA false false (r + s)) [] := by
  obtain ⟨hr, hs⟩ := h
  obtain ⟨r1, r2⟩ := okR_B hr
  obtain ⟨s1, s2⟩ := okR_B hs
  obtain ⟨cr1, cr2⟩ := hr
  obtain ⟨cs1, cs2⟩ := hs
  have m1 := cnt_mulI cr1 (cnt_den cs2)
  have m2 := cnt_mulI cs1 (cnt_den cr2)
  have m3 := cnt_mulI (cnt_den cr2) (cnt_den cs2)
  have a1 := cnt_addI m1 m2
  refine call38 (rRAdd _ _ _ _ _ _ _ ⟨⟨r1, s2⟩, ⟨s1, r2⟩, ⟨by unfold Sp.okB; omega, by unfold Sp.okB; omega⟩, ⟨r2, s2⟩, ⟨by omega, by omega, Int.mul_ne_zero (den_ne r) (den_ne s)⟩, ?_⟩)
  rw [rat_add]; exact .refl _
theorem ev39 (fa ga fb gb : Bool) (r s : Rat) (h : Sp.okR r ∧ Sp.okR s) : Ev M1 (.pure 39 [ratA fa ga r, ratA fb gb s]) (ratA false false (r * s)) [] := by
  obtain ⟨hr, hs⟩ := h
  obtain ⟨r1, r2⟩ := okR_B hr
  obtain ⟨s1, s2⟩ := okR_B hs
  obtain ⟨cr1, cr2⟩ := hr
  obtain ⟨cs1, cs2⟩ := hs
  have m1 := cnt_mulI cr1 cs1
  have m3 := cnt_mulI (cnt_den cr2) (cnt_den cs2)
  refine call39 (rRMul _ _ _ _ _ _ _ ⟨⟨r1, s1⟩, ⟨r2, s2⟩, ⟨by omega, by omega, Int.mul_ne_zero (den_ne r) (den_ne s)⟩, ?_⟩)
  rw [rat_mul]; exact .refl _
def Sp.okF (n d : Int) : Prop := Sp.inI n ∧ Sp.inI d ∧ d ≠ 0
noncomputable def Sp.qf (n d : Int) : Rat := Sp.hid (Rat.divInt n d)
theorem qf_eq (n d : Int) : Sp.qf n d = Rat.divInt n d := hid_eq _
theorem inI_cnt {n : Int} (h : Sp.inI n) : Sp.cnt n.natAbs ≤ 3 := by
  unfold Sp.inI at h
  exact cnt_u64 (by omega)
theorem ev23 (n d : Int) (h : Sp.okF n d) : Ev M1 (.pure 23 [.int .i64 n, .int .i64 d]) (ratA false false (Sp.qf n d)) [] := by
  obtain ⟨h1, h2, h3⟩ := h
  have c1 := inI_cnt h1
  have c2 := inI_cnt h2
  rw [qf_eq]
  exact call23 (rRFrac _ _ _ ⟨fun k => absurd k h3, fun _ => ⟨h1, h2, ⟨by omega, by omega, h3⟩, .refl _⟩⟩)
theorem ev37_y (fa ga : Bool) (r : Rat) (h : Sp.okR r) (k : Sp.rsq r) : Ev M1 (.pure 37 [ratA fa ga r]) (.tup [ratA false false (Sp.rt r), .bool true]) [] := by
  obtain ⟨h1, h2⟩ := okR_S h
  obtain ⟨e1, e2⟩ := rt_num k
  refine call37 (rRSqrt _ _ _ _ ⟨h1, h2, fun x => ?_, fun _ => ?_⟩)
  · rcases x with x | x
    · exact absurd k.1 x
    · exact absurd k.2 x
  · show Weak _ (AV.tup [AV.agg [.bool (Sp.isNeg (Sp.rt r).num), .vec false 1 ((Sp.limI (Sp.rt r).num).map (.int .u32)), .bool (Sp.isNeg ((Sp.rt r).den : Int)), .vec false 1 ((Sp.limI ((Sp.rt r).den : Int)).map (.int .u32))], .bool true])
    rw [e1, e2]; exact .refl _
theorem ev37_n (fa ga : Bool) (r : Rat) (h : Sp.okR r) (k : ¬(Sp.rsq r)) : Ev M1 (.pure 37 [ratA fa ga r]) (.tup [noR, .bool false]) [] := by
  obtain ⟨h1, h2⟩ := okR_S h
  refine call37 (rRSqrt _ _ _ _ ⟨h1, h2, fun _ => weak_two weak_nr (.refl _), fun x => ?_⟩)
  have x1 : Sp.isSq r.num = true := Classical.byContradiction fun y => x (.inl y)
  have x2 : Sp.isSq (r.den : Int) = true := Classical.byContradiction fun y => x (.inr y)
  exact absurd ⟨x1, x2⟩ k
end Go.Av

namespace Go.Av
open Go.Proofs
set_option maxRecDepth 100000
end Go.Av

namespace Go.Av
open Go.Proofs
end Go.Av

namespace Go.Av
open Go.Proofs
set_option maxRecDepth 100000
def fi11 : Fi := ⟨24, [.tmp 4]⟩
def kp11 : List (Nat × List Nat) := [(0, [2, 3]), (1, [4])]
def fi41 : Fi := ⟨2, [.cell 0 26]⟩
def kp41 : List (Nat × List Nat) := [(0, [0]), (1, [0])]
def fi42 : Fi := ⟨2, [.cell 0 26]⟩
def kp42 : List (Nat × List Nat) := [(0, [0]), (1, [0])]
def fi45 : Fi := ⟨26, [.cell 4 26, .tmp 5]⟩
def kp45 : List (Nat × List Nat) := [(0, [2, 3, 4]), (1, [2, 3, 4, 9]), (2, [4, 5]), (3, [4, 5])]
def fi51 : Fi := ⟨17, [.cell 2 26]⟩
def kp51 : List (Nat × List Nat) := [(0, [1, 2]), (1, [2])]
def oZero_at  (Q : AV → Heap → Prop) : Prop := Wp M1 (.run fi41 (atC (cd Try.f41) []) [] []) Q
def pZero_at  (Q : AV → Heap → Prop) : Prop := Wp M1 (.run fi42 (atC (cd Try.f42) []) [] []) Q
def oNorm_at (f1 f2 f3 f4 f5 f6 : Bool) (a b c : Rat) (Q : AV → Heap → Prop) : Prop := Wp M1 (.run fi51 (atC (cd Try.f51) []) [(0, .agg [.bool (Sp.isNeg a.num), .vec f1 1 ((Sp.limI a.num).map (.int .u32)), .bool (Sp.isNeg (a.den : Int)), .vec f2 1 ((Sp.limI (a.den : Int)).map (.int .u32)), .bool (Sp.isNeg b.num), .vec f3 1 ((Sp.limI b.num).map (.int .u32)), .bool (Sp.isNeg (b.den : Int)), .vec f4 1 ((Sp.limI (b.den : Int)).map (.int .u32)), .bool (Sp.isNeg c.num), .vec f5 1 ((Sp.limI c.num).map (.int .u32)), .bool (Sp.isNeg (c.den : Int)), .vec f6 1 ((Sp.limI (c.den : Int)).map (.int .u32))])] []) Q
def oCommon_at (f1 f2 f3 f4 f5 f6 g1 g2 g3 g4 g5 g6 : Bool) (a b c x y z : Rat) (Q : AV → Heap → Prop) : Prop := Wp M1 (.run fi45 (atC (cd Try.f45) []) [(0, .agg [.bool (Sp.isNeg a.num), .vec f1 1 ((Sp.limI a.num).map (.int .u32)), .bool (Sp.isNeg (a.den : Int)), .vec f2 1 ((Sp.limI (a.den : Int)).map (.int .u32)), .bool (Sp.isNeg b.num), .vec f3 1 ((Sp.limI b.num).map (.int .u32)), .bool (Sp.isNeg (b.den : Int)), .vec f4 1 ((Sp.limI (b.den : Int)).map (.int .u32)), .bool (Sp.isNeg c.num), .vec f5 1 ((Sp.limI c.num).map (.int .u32)), .bool (Sp.isNeg (c.den : Int)), .vec f6 1 ((Sp.limI (c.den : Int)).map (.int .u32))]), (1, .agg [.bool (Sp.isNeg x.num), .vec g1 1 ((Sp.limI x.num).map (.int .u32)), .bool (Sp.isNeg (x.den : Int)), .vec g2 1 ((Sp.limI (x.den : Int)).map (.int .u32)), .bool (Sp.isNeg y.num), .vec g3 1 ((Sp.limI y.num).map (.int .u32)), .bool (Sp.isNeg (y.den : Int)), .vec g4 1 ((Sp.limI (y.den : Int)).map (.int .u32)), .bool (Sp.isNeg z.num), .vec g5 1 ((Sp.limI z.num).map (.int .u32)), .bool (Sp.isNeg (z.den : Int)), .vec g6 1 ((Sp.limI (z.den : Int)).map (.int .u32))])] []) Q
def pSame_at (f1 f2 f3 f4 f5 f6 g1 g2 g3 g4 g5 g6 : Bool) (a b c x y z : Rat) (Q : AV → Heap → Prop) : Prop := Wp M1 (.run fi11 (atC (cd Try.f11) []) [(0, .agg [.bool (Sp.isNeg a.num), .vec f1 1 ((Sp.limI a.num).map (.int .u32)), .bool (Sp.isNeg (a.den : Int)), .vec f2 1 ((Sp.limI (a.den : Int)).map (.int .u32)), .bool (Sp.isNeg b.num), .vec f3 1 ((Sp.limI b.num).map (.int .u32)), .bool (Sp.isNeg (b.den : Int)), .vec f4 1 ((Sp.limI (b.den : Int)).map (.int .u32)), .bool (Sp.isNeg c.num), .vec f5 1 ((Sp.limI c.num).map (.int .u32)), .bool (Sp.isNeg (c.den : Int)), .vec f6 1 ((Sp.limI (c.den : Int)).map (.int .u32))]), (1, .agg [.bool (Sp.isNeg x.num), .vec g1 1 ((Sp.limI x.num).map (.int .u32)), .bool (Sp.isNeg (x.den : Int)), .vec g2 1 ((Sp.limI (x.den : Int)).map (.int .u32)), .bool (Sp.isNeg y.num), .vec g3 1 ((Sp.limI y.num).map (.int .u32)), .bool (Sp.isNeg (y.den : Int)), .vec g4 1 ((Sp.limI (y.den : Int)).map (.int .u32)), .bool (Sp.isNeg z.num), .vec g5 1 ((Sp.limI z.num).map (.int .u32)), .bool (Sp.isNeg (z.den : Int)), .vec g6 1 ((Sp.limI (z.den : Int)).map (.int .u32))])] []) Q
theorem call11 {args : List AV} {d : AV} (h : Wp M1 (.run fi11 [.code (cd Try.f11)] (argVars 0 args) []) (PureQ d)) : Ev M1 (.pure 11 args) d [] :=
  pure_pq Try.f11 fi11 (by kernel_rfl) (by kernel_rfl) (by kernel_rfl) (by kernel_rfl) h
theorem call41 {args : List AV} {d : AV} (h : Wp M1 (.run fi41 [.code (cd Try.f41)] (argVars 0 args) []) (PureQ d)) : Ev M1 (.pure 41 args) d [] :=
  pure_pq Try.f41 fi41 (by kernel_rfl) (by kernel_rfl) (by kernel_rfl) (by kernel_rfl) h
theorem call42 {args : List AV} {d : AV} (h : Wp M1 (.run fi42 [.code (cd Try.f42)] (argVars 0 args) []) (PureQ d)) : Ev M1 (.pure 42 args) d [] :=
  pure_pq Try.f42 fi42 (by kernel_rfl) (by kernel_rfl) (by kernel_rfl) (by kernel_rfl) h
theorem call45 {args : List AV} {d : AV} (h : Wp M1 (.run fi45 [.code (cd Try.f45)] (argVars 0 args) []) (PureQ d)) : Ev M1 (.pure 45 args) d [] :=
  pure_pq Try.f45 fi45 (by kernel_rfl) (by kernel_rfl) (by kernel_rfl) (by kernel_rfl) h
theorem call51 {args : List AV} {d : AV} (h : Wp M1 (.run fi51 [.code (cd Try.f51)] (argVars 0 args) []) (PureQ d)) : Ev M1 (.pure 51 args) d [] :=
  pure_pq Try.f51 fi51 (by kernel_rfl) (by kernel_rfl) (by kernel_rfl) (by kernel_rfl) h
theorem oZero   (dq : AV) (H :
    (Sp.inI 0) /\
    Weak (ratA false false (Sp.qi 0)) dq) :
  oZero_at  (PureQ dq) := by
  unfold oZero_at
  obtain ⟨k1, H⟩ := H
  exact path_rq (G := given kp41 [(1, 0, .call (ratA false false (Sp.qi 0)) none)] []) 1000 [] (ratA false false (Sp.qi 0)) (by kernel_rfl) (bc rfl b0) q0 (ce (@ev50 (0) k1) c0) H
theorem pZero   (dq : AV) (H :
    (Sp.inI 0) /\
    Weak (ratA false false (Sp.qi 0)) dq) :
  pZero_at  (PureQ dq) := by
  unfold pZero_at
  obtain ⟨k1, H⟩ := H
  exact path_rq (G := given kp42 [(1, 0, .call (ratA false false (Sp.qi 0)) none)] []) 1000 [] (ratA false false (Sp.qi 0)) (by kernel_rfl) (bc rfl b0) q0 (ce (@ev22 (0) k1) c0) H
theorem oNorm (f1 f2 f3 f4 f5 f6 : Bool) (a b c : Rat)  (dq : AV) (H :
    (Sp.okR a /\ Sp.okR a) /\
    (Sp.okR b /\ Sp.okR b) /\
    (Sp.okR (b * b) /\ Sp.okR c) /\
    (Sp.okR (a * a) /\ Sp.okR (b * b * c)) /\
    Weak (ratA false false (a * a - b * b * c)) dq) :
  oNorm_at f1 f2 f3 f4 f5 f6 a b c (PureQ dq) := by
  unfold oNorm_at
  obtain ⟨k1, H⟩ := H
  obtain ⟨k2, H⟩ := H
  obtain ⟨k3, H⟩ := H
  obtain ⟨k4, H⟩ := H
  exact path_rq (G := given kp51 [(1, 4, .call (ratA false false (a * a)) none), (1, 9, .call (ratA false false (b * b)) none), (1, 12, .call (ratA false false (b * b * c)) none), (1, 13, .call (ratA false false (a * a - b * b * c)) none)] []) 1000 [] (ratA false false (a * a - b * b * c)) (by kernel_rfl) (bc rfl (bc rfl (bc rfl (bc rfl (bc rfl (bc rfl b0)))))) q0 (ce (@ev34 (f1) (f2) (f1) (f2) (a) (a) k1) (ce (@ev34 (f3) (f4) (f3) (f4) (b) (b) k2) (ce (@ev34 (false) (false) (f5) (f6) (b * b) (c) k3) (ce (@ev81 (false) (false) (false) (false) (a * a) (b * b * c) k4) c0)))) H
theorem oCommon (f1 f2 f3 f4 f5 f6 g1 g2 g3 g4 g5 g6 : Bool) (a b c x y z : Rat)  (dq : AV) (H :
    ((Sp.sgnI b.num = 0) -> Weak (tu [ratA g5 g6 z, vb true]) dq) /\
    (¬(Sp.sgnI b.num = 0) -> ((¬(Sp.sgnI y.num = 0)) -> (Sp.okR c /\ Sp.okR z)) /\
      Weak (tu [ratA f5 f6 c, vb (bif Sp.sgnI y.num == 0 then true else Sp.sgnI (c.num * (↑z.den : Int) - z.num * (↑c.den : Int)) == 0)]) dq)) :
  oCommon_at f1 f2 f3 f4 f5 f6 g1 g2 g3 g4 g5 g6 a b c x y z (PureQ dq) := by
  unfold oCommon_at
  refine path_wp (G := given kp45 [(1, 2, .call (vi (Sp.sgnI b.num)) none)] []) 5 [] ⟨(atC (cd Try.f45) [1, 0, 1]), [(2, AV.ptr 0 0 0 0), (3, AV.ptr 1 0 0 0), (4, AV.ptr 2 0 0 0), (9, vb (Sp.sgnI b.num == 0))], [⟨[ag [vb (Sp.isNeg a.num), AV.vec f1 1 (us (Sp.limI a.num)), vb (Sp.isNeg (↑a.den : Int)), AV.vec f2 1 (us (Sp.limI (↑a.den : Int))), vb (Sp.isNeg b.num), AV.vec f3 1 (us (Sp.limI b.num)), vb (Sp.isNeg (↑b.den : Int)), AV.vec f4 1 (us (Sp.limI (↑b.den : Int))), vb (Sp.isNeg c.num), AV.vec f5 1 (us (Sp.limI c.num)), vb (Sp.isNeg (↑c.den : Int)), AV.vec f6 1 (us (Sp.limI (↑c.den : Int)))]], 12, 0, false, false⟩, ⟨[ag [vb (Sp.isNeg x.num), AV.vec g1 1 (us (Sp.limI x.num)), vb (Sp.isNeg (↑x.den : Int)), AV.vec g2 1 (us (Sp.limI (↑x.den : Int))), vb (Sp.isNeg y.num), AV.vec g3 1 (us (Sp.limI y.num)), vb (Sp.isNeg (↑y.den : Int)), AV.vec g4 1 (us (Sp.limI (↑y.den : Int))), vb (Sp.isNeg z.num), AV.vec g5 1 (us (Sp.limI z.num)), vb (Sp.isNeg (↑z.den : Int)), AV.vec g6 1 (us (Sp.limI (↑z.den : Int)))]], 12, 0, false, false⟩, ⟨[ag [vb false, AV.vnil, vb false, AV.vnil]], 4, 0, false, false⟩], _, [], _⟩ (by kernel_rfl) (bc rfl b0) q0 (ce (@ev31 (f3) (f4) (b.num) ((↑b.den : Int))) c0) ?_
  rcases xm (Sp.sgnI b.num = 0) with d2 | d2
  · have H := H.1 d2
    exact path_rq (G := given kp45 [] []) 1000 [true] (tu [ratA g5 g6 z, vb true]) (by kernel_rfl) (bc (beq_t (i_eq.2 d2)) (bc rfl (bc rfl b0))) q0 c0 H
  · have H := H.2 d2
    obtain ⟨k4, H⟩ := H
    exact path_rq (G := given kp45 [(3, 4, .call (vi (Sp.sgnI y.num)) none), (3, 11, .call (vi (Sp.sgnI (c.num * (↑z.den : Int) - z.num * (↑c.den : Int)))) none)] []) 1000 [false] (asm := [(Sp.sgnI b.num == 0) == false, true, true, !((Sp.sgnI y.num == 0) == false && true) || true, !((Sp.sgnI y.num == 0) == false && true) || true, true]) (calls := [⟨true, false, 31, [ratA g3 g4 y], [], vi (Sp.sgnI y.num), []⟩, ⟨(Sp.sgnI y.num == 0) == false && true && true, false, 75, [ratA f5 f6 c, ratA g5 g6 z], [], vi (Sp.sgnI (c.num * (↑z.den : Int) - z.num * (↑c.den : Int))), []⟩]) (tu [ratA f5 f6 c, vb (bif Sp.sgnI y.num == 0 then true else Sp.sgnI (c.num * (↑z.den : Int) - z.num * (↑c.den : Int)) == 0)]) (by kernel_rfl) (bc (beq_f (fun h => d2 (i_eq.1 h))) (bc rfl (bc rfl (bc (Bool.or_true _) (bc (Bool.or_true _) (bc rfl b0)))))) q0 (cc (fun _ => (@ev31 (g3) (g4) (y.num) ((↑y.den : Int)))) (cc (fun hc => ((@ev75 (f5) (f6) (g5) (g6) (c) (z) (k4 ((i_at (i_at (i_bf i_eq))).1 hc))) : Ev M1 (Conf.pure 75 [ratA f5 f6 c, ratA g5 g6 z]) (vi (Sp.sgnI (c.num * (↑z.den : Int) - z.num * (↑c.den : Int)))) [])) c0)) H
theorem pSame (f1 f2 f3 f4 f5 f6 g1 g2 g3 g4 g5 g6 : Bool) (a b c x y z : Rat)  (dq : AV) (H :
    (Sp.okR a /\ Sp.okR x) /\
    ((a = x) -> (Sp.okR b /\ Sp.okR y)) /\
    (((a = x) /\ (b = y)) -> (Sp.okR c /\ Sp.okR z)) /\
    vb (bif bif decide (a = x) then decide (b = y) else false then decide (c = z) else false) = dq) :
  pSame_at f1 f2 f3 f4 f5 f6 g1 g2 g3 g4 g5 g6 a b c x y z (PureQ dq) := by
  unfold pSame_at
  obtain ⟨k1, H⟩ := H
  obtain ⟨k3, H⟩ := H
  obtain ⟨k5, H⟩ := H
  exact path_re (G := given kp11 [(1, 4, .call (vb (decide (a = x))) none), (1, 10, .call (vb (decide (b = y))) none), (1, 17, .call (vb (decide (c = z))) none)] []) 1000 [] (asm := [true, true, !(decide (a = x) == true && true) || true, !(decide (a = x) == true && true) || true, !((bif decide (a = x) then decide (b = y) else false) == true && true) || true, !((bif decide (a = x) then decide (b = y) else false) == true && true) || true]) (calls := [⟨true, false, 15, [ratA f1 f2 a, ratA g1 g2 x], [], vb (decide (a = x)), []⟩, ⟨decide (a = x) == true && true && true, false, 15, [ratA f3 f4 b, ratA g3 g4 y], [], vb (decide (b = y)), []⟩, ⟨(bif decide (a = x) then decide (b = y) else false) == true && true && true, false, 15, [ratA f5 f6 c, ratA g5 g6 z], [], vb (decide (c = z)), []⟩]) (vb (bif bif decide (a = x) then decide (b = y) else false then decide (c = z) else false)) (by kernel_rfl) (bc rfl (bc rfl (bc (Bool.or_true _) (bc (Bool.or_true _) (bc (Bool.or_true _) (bc (Bool.or_true _) b0)))))) q0 (cc (fun _ => (@ev15 (f1) (f2) (g1) (g2) (a) (x) k1)) (cc (fun hc => ((@ev15 (f3) (f4) (g3) (g4) (b) (y) (k3 ((i_at (i_at (i_bt i_dec))).1 hc))) : Ev M1 (Conf.pure 15 [ratA f3 f4 b, ratA g3 g4 y]) (vb (decide (b = y))) [])) (cc (fun hc => ((@ev15 (f5) (f6) (g5) (g6) (c) (z) (k5 ((i_at (i_at (i_bt (i_band i_dec i_dec)))).1 hc))) : Ev M1 (Conf.pure 15 [ratA f5 f6 c, ratA g5 g6 z]) (vb (decide (c = z))) [])) c0))) H
end Go.Av

namespace Go.Av
open Go.Proofs
abbrev rootA (f1 f2 f3 f4 f5 f6 : Bool) (a b c : Rat) : AV := .agg [.bool (Sp.isNeg a.num), .vec f1 1 ((Sp.limI a.num).map (.int .u32)), .bool (Sp.isNeg (a.den : Int)), .vec f2 1 ((Sp.limI (a.den : Int)).map (.int .u32)), .bool (Sp.isNeg b.num), .vec f3 1 ((Sp.limI b.num).map (.int .u32)), .bool (Sp.isNeg (b.den : Int)), .vec f4 1 ((Sp.limI (b.den : Int)).map (.int .u32)), .bool (Sp.isNeg c.num), .vec f5 1 ((Sp.limI c.num).map (.int .u32)), .bool (Sp.isNeg (c.den : Int)), .vec f6 1 ((Sp.limI (c.den : Int)).map (.int .u32))]
abbrev rootF (a b c : Rat) : AV := rootA false false false false false false a b c
theorem weak_rf {f1 f2 : Bool} (a : Rat) : Weak (ratA f1 f2 a) (ratA false false a) := weak_rat _ _ _ _ _ _
theorem weak_root {f1 f2 f3 f4 f5 f6 : Bool} (a b c : Rat) : Weak (rootA f1 f2 f3 f4 f5 f6 a b c) (rootF a b c) := by
  refine .agg _ _ rfl fun i x y hx hy => ?_
  match i with
  | 0 => simp at hx hy; subst hx; subst hy; exact .refl _
  | 1 => simp at hx hy; subst hx; subst hy; exact weak_vec _ _ _
  | 2 => simp at hx hy; subst hx; subst hy; exact .refl _
  | 3 => simp at hx hy; subst hx; subst hy; exact weak_vec _ _ _
  | 4 => simp at hx hy; subst hx; subst hy; exact .refl _
  | 5 => simp at hx hy; subst hx; subst hy; exact weak_vec _ _ _
  | 6 => simp at hx hy; subst hx; subst hy; exact .refl _
  | 7 => simp at hx hy; subst hx; subst hy; exact weak_vec _ _ _
  | 8 => simp at hx hy; subst hx; subst hy; exact .refl _
  | 9 => simp at hx hy; subst hx; subst hy; exact weak_vec _ _ _
  | 10 => simp at hx hy; subst hx; subst hy; exact .refl _
  | 11 => simp at hx hy; subst hx; subst hy; exact weak_vec _ _ _
  | i + 12 => simp at hx
theorem sgn_num {r : Rat} : Sp.sgnI r.num = 0 ↔ r = 0 := by rw [sgnI_zero, Rat.num_eq_zero]
def Sp.okT (k : Nat) (r : Rat) : Prop := Sp.cnt r.num.natAbs ≤ k ∧ Sp.cnt r.den ≤ k
theorem okT_R {k : Nat} {r : Rat} (h : Sp.okT k r) (hk : k ≤ 90000) : Sp.okR r := ⟨Nat.le_trans h.1 hk, Nat.le_trans h.2 hk⟩
theorem okT_le {k m : Nat} {r : Rat} (h : Sp.okT k r) (hk : k ≤ m) : Sp.okT m r := ⟨Nat.le_trans h.1 hk, Nat.le_trans h.2 hk⟩
theorem divInt_le {p q : Int} (hq : q ≠ 0) : (Rat.divInt p q).num.natAbs ≤ p.natAbs ∧ (Rat.divInt p q).den ≤ q.natAbs := by
  by_cases h : 0 < q
  · obtain ⟨e1, e2⟩ := rat_pos (a := p) h
    have e3 : (Rat.divInt p q).den = ((q / ((p.gcd q : Nat) : Int))).natAbs := by omega
    rw [e1, e3]
    refine ⟨?_, ?_⟩
    · rw [Int.natAbs_ediv_of_dvd (Int.gcd_dvd_left ..)]; exact Nat.div_le_self _ _
    · rw [Int.natAbs_ediv_of_dvd (Int.gcd_dvd_right ..)]; exact Nat.div_le_self _ _
  · obtain ⟨e1, e2⟩ := rat_neg (a := p) (b := q) (by omega)
    have e3 : (Rat.divInt p q).den = ((-q / (((-p).gcd (-q) : Nat) : Int))).natAbs := by omega
    rw [e1, e3]
    refine ⟨?_, ?_⟩
    · rw [Int.natAbs_ediv_of_dvd (Int.gcd_dvd_left ..), Int.natAbs_neg]; exact Nat.div_le_self _ _
    · rw [Int.natAbs_ediv_of_dvd (Int.gcd_dvd_right ..), Int.natAbs_neg]; exact Nat.div_le_self _ _
theorem okT_mul {k m : Nat} {r s : Rat} (h : Sp.okT k r) (h2 : Sp.okT m s) : Sp.okT (k + m) (r * s) := by
  have e := divInt_le (p := r.num * s.num) (q := (r.den : Int) * (s.den : Int)) (Int.mul_ne_zero (den_ne r) (den_ne s))
  rw [rat_mul] at e
  refine ⟨Nat.le_trans (cnt_mono e.1) (cnt_mulI h.1 h2.1), Nat.le_trans (cnt_mono e.2) (cnt_mulI (cnt_den h.2) (cnt_den h2.2))⟩
theorem okT_add {k m : Nat} {r s : Rat} (h : Sp.okT k r) (h2 : Sp.okT m s) : Sp.okT (k + m + 1) (r + s) := by
  have e := divInt_le (p := r.num * (s.den : Int) + s.num * (r.den : Int)) (q := (r.den : Int) * (s.den : Int)) (Int.mul_ne_zero (den_ne r) (den_ne s))
  rw [rat_add] at e
  have m1 := cnt_mulI h.1 (cnt_den h2.2)
  have m2 := cnt_mulI h2.1 (cnt_den h.2)
  have m3 := cnt_mulI (cnt_den h.2) (cnt_den h2.2)
  have := cnt_addI m1 (Nat.le_trans m2 (by omega))
  exact ⟨Nat.le_trans (cnt_mono e.1) this, Nat.le_trans (cnt_mono e.2) (Nat.le_trans m3 (by omega))⟩
theorem okT_neg {k : Nat} {r : Rat} (h : Sp.okT k r) : Sp.okT k (-r) := by
  unfold Sp.okT
  rw [Rat.neg_num, Rat.neg_den, Int.natAbs_neg]; exact h
theorem okT_sub {k m : Nat} {r s : Rat} (h : Sp.okT k r) (h2 : Sp.okT m s) : Sp.okT (k + m + 1) (r - s) := by
  rw [Rat.sub_eq_add_neg]; exact okT_add h (okT_neg h2)
theorem okT_rt {k : Nat} {r : Rat} (h : Sp.rsq r) (hr : Sp.okT k r) : Sp.okT k (Sp.rt r) := by
  obtain ⟨e1, e2⟩ := rt_num h
  obtain ⟨a1, a2⟩ := hr
  have h1 := (sq_le ((isSq_iff _).1 h.1).1).2
  have h2 := (sq_le ((isSq_iff _).1 h.2).1).2
  unfold Sp.okT
  rw [e1]
  have : (Sp.rt r).den = (Sp.sq (r.den : Int)).natAbs := by omega
  rw [this]
  exact ⟨Nat.le_trans (cnt_mono h1) a1, Nat.le_trans (cnt_mono h2) a2⟩
theorem okT_int {n : Int} (h : Sp.inI n) : Sp.okT 3 (Sp.qi n) := by
  rw [qi_eq]
  unfold Sp.okT
  rw [Rat.num_intCast, Rat.den_intCast]
  exact ⟨inI_cnt h, by have := cnt_small (n := 1) (by decide); omega⟩
theorem okT_zero : Sp.okT 1 (0 : Rat) := by
  have h0 : Sp.cnt ((0 : Rat).num.natAbs) = 0 := cnt_zero
  have h1 := cnt_small (n := 1) (by decide)
  have h2 : (0 : Rat).den = 1 := rfl
  unfold Sp.okT
  rw [h0, h2]
  omega
theorem ev41 : Ev M1 (.pure 41 []) (ratA false false (Sp.qi 0)) [] :=
  call41 (oZero _ ⟨by unfold Sp.inI; omega, .refl _⟩)
theorem ev42 : Ev M1 (.pure 42 []) (ratA false false (Sp.qi 0)) [] :=
  call42 (pZero _ ⟨by unfold Sp.inI; omega, .refl _⟩)
def Sp.okO (a b c : Rat) : Prop := Sp.okT 9000 a ∧ Sp.okT 9000 b ∧ Sp.okT 9000 c
def Sp.okP (a b : Rat) : Prop := Sp.okT 9000 a ∧ Sp.okT 9000 b
theorem ev51 (f1 f2 f3 f4 f5 f6 : Bool) (a b c : Rat) (h : Sp.okO a b c) : Ev M1 (.pure 51 [rootA f1 f2 f3 f4 f5 f6 a b c]) (ratA false false (a * a - b * b * c)) [] := by
  obtain ⟨ha, hb, hc⟩ := h
  have aa := okT_mul ha ha
  have bb := okT_mul hb hb
  have bbc := okT_mul bb hc
  exact call51 (oNorm _ _ _ _ _ _ _ _ _ _ ⟨⟨okT_R ha (by omega), okT_R ha (by omega)⟩, ⟨okT_R hb (by omega), okT_R hb (by omega)⟩, ⟨okT_R bb (by omega), okT_R hc (by omega)⟩, ⟨okT_R aa (by omega), okT_R bbc (by omega)⟩, .refl _⟩)
def Sp.com (b c z : Rat) : Rat := if b = 0 then z else c
def Sp.isCom (b c y z : Rat) : Prop := b = 0 ∨ y = 0 ∨ c = z
instance (b c y z : Rat) : Decidable (Sp.isCom b c y z) := inferInstanceAs (Decidable (_ ∨ _))
theorem cross {c z : Rat} : Sp.sgnI (c.num * (z.den : Int) - z.num * (c.den : Int)) = 0 ↔ c = z := by
  rw [sgnI_zero]
  constructor
  · intro h
    have h1 : c.num * (z.den : Int) = z.num * (c.den : Int) := by omega
    have e := (Rat.divInt_eq_divInt_iff (den_ne c) (den_ne z)).2 h1
    rwa [Rat.num_divInt_den, Rat.num_divInt_den] at e
  · intro h; subst h; omega
theorem com_bool (c y z : Rat) : (bif Sp.sgnI y.num == 0 then true else Sp.sgnI (c.num * (z.den : Int) - z.num * (c.den : Int)) == 0) = decide (y = 0 ∨ c = z) := by
  by_cases h : y = 0
  · rw [show (Sp.sgnI y.num == 0) = true from beq_iff_eq.2 (sgn_num.2 h), cond_true, decide_eq_true (.inl h)]
  · rw [show (Sp.sgnI y.num == 0) = false from beq_eq_false_iff_ne.2 fun k => h (sgn_num.1 k), cond_false]
    by_cases k : c = z
    · rw [decide_eq_true (.inr k)]; exact beq_iff_eq.2 (cross.2 k)
    · rw [decide_eq_false (fun x => x.elim h k)]; exact beq_eq_false_iff_ne.2 fun x => k (cross.1 x)
theorem ev45 (f1 f2 f3 f4 f5 f6 g1 g2 g3 g4 g5 g6 : Bool) (a b c x y z : Rat) (h : Sp.okP c z) : Ev M1 (.pure 45 [rootA f1 f2 f3 f4 f5 f6 a b c, rootA g1 g2 g3 g4 g5 g6 x y z]) (.tup [ratA false false (Sp.com b c z), .bool (decide (Sp.isCom b c y z))]) [] := by
  refine call45 (oCommon _ _ _ _ _ _ _ _ _ _ _ _ _ _ _ _ _ _ _ ⟨fun k => ?_, fun k => ⟨fun _ => ⟨okT_R h.1 (by omega), okT_R h.2 (by omega)⟩, ?_⟩⟩)
  · have k := sgn_num.1 k
    rw [show Sp.com b c z = z from if_pos k, decide_eq_true (show Sp.isCom b c y z from .inl k)]
    exact weak_two (weak_rf z) (.refl _)
  · have k : ¬b = 0 := fun e => k (sgn_num.2 e)
    rw [show Sp.com b c z = c from if_neg k, com_bool]
    have : decide (Sp.isCom b c y z) = decide (y = 0 ∨ c = z) := by
      unfold Sp.isCom
      congr 1
      exact propext ⟨fun x => x.resolve_left k, .inr⟩
    rw [this]
    exact weak_two (weak_rf c) (.refl _)
theorem ev11 (f1 f2 f3 f4 f5 f6 g1 g2 g3 g4 g5 g6 : Bool) (a b c x y z : Rat) (h : Sp.okO a b c ∧ Sp.okO x y z) : Ev M1 (.pure 11 [rootA f1 f2 f3 f4 f5 f6 a b c, rootA g1 g2 g3 g4 g5 g6 x y z]) (.bool (decide (a = x ∧ b = y ∧ c = z))) [] := by
  obtain ⟨⟨h1, h2, h3⟩, h4, h5, h6⟩ := h
  refine call11 (pSame _ _ _ _ _ _ _ _ _ _ _ _ _ _ _ _ _ _ _ ⟨⟨okT_R h1 (by omega), okT_R h4 (by omega)⟩, fun _ => ⟨okT_R h2 (by omega), okT_R h5 (by omega)⟩, fun _ => ⟨okT_R h3 (by omega), okT_R h6 (by omega)⟩, ?_⟩)
  congr 1
  by_cases e1 : a = x <;> by_cases e2 : b = y <;> by_cases e3 : c = z <;> simp [e1, e2, e3]
end Go.Av

namespace Go.Av
open Go.Proofs
set_option maxRecDepth 100000
def fi12 : Fi := ⟨7, [.cell 2 30]⟩
def kp12 : List (Nat × List Nat) := [(0, [1, 2]), (1, [2])]
def fi13 : Fi := ⟨7, [.cell 2 30]⟩
def kp13 : List (Nat × List Nat) := [(0, [1, 2]), (1, [2])]
def fi29 : Fi := ⟨29, [.tmp 2]⟩
def kp29 : List (Nat × List Nat) := [(0, [1]), (1, [1, 3, 4]), (2, [1, 3, 4, 11]), (3, [2]), (4, [1, 3, 4, 20]), (5, [2]), (6, [2])]
def fi35 : Fi := ⟨15, [.cell 6 30]⟩
def kp35 : List (Nat × List Nat) := [(0, [3, 4, 5, 6]), (1, [3, 4, 5, 6, 9]), (2, [3, 4, 5, 6]), (3, [6])]
def oFrom_at (f1 f2 : Bool) (a : Rat) (Q : AV → Heap → Prop) : Prop := Wp M1 (.run fi12 (atC (cd Try.f12) []) [(0, .agg [.bool (Sp.isNeg a.num), .vec f1 1 ((Sp.limI a.num).map (.int .u32)), .bool (Sp.isNeg (a.den : Int)), .vec f2 1 ((Sp.limI (a.den : Int)).map (.int .u32))])] []) Q
def pFrom_at (f1 f2 : Bool) (a : Rat) (Q : AV → Heap → Prop) : Prop := Wp M1 (.run fi13 (atC (cd Try.f13) []) [(0, .agg [.bool (Sp.isNeg a.num), .vec f1 1 ((Sp.limI a.num).map (.int .u32)), .bool (Sp.isNeg (a.den : Int)), .vec f2 1 ((Sp.limI (a.den : Int)).map (.int .u32))])] []) Q
def oRed_at (f1 f2 f3 f4 f5 f6 : Bool) (a b c : Rat) (Q : AV → Heap → Prop) : Prop := Wp M1 (.run fi35 (atC (cd Try.f35) []) [(0, .agg [.bool (Sp.isNeg a.num), .vec f1 1 ((Sp.limI a.num).map (.int .u32)), .bool (Sp.isNeg (a.den : Int)), .vec f2 1 ((Sp.limI (a.den : Int)).map (.int .u32))]), (1, .agg [.bool (Sp.isNeg b.num), .vec f3 1 ((Sp.limI b.num).map (.int .u32)), .bool (Sp.isNeg (b.den : Int)), .vec f4 1 ((Sp.limI (b.den : Int)).map (.int .u32))]), (2, .agg [.bool (Sp.isNeg c.num), .vec f5 1 ((Sp.limI c.num).map (.int .u32)), .bool (Sp.isNeg (c.den : Int)), .vec f6 1 ((Sp.limI (c.den : Int)).map (.int .u32))])] []) Q
def oSign_at (f1 f2 f3 f4 f5 f6 : Bool) (a b c : Rat) (Q : AV → Heap → Prop) : Prop := Wp M1 (.run fi29 (atC (cd Try.f29) []) [(0, .agg [.bool (Sp.isNeg a.num), .vec f1 1 ((Sp.limI a.num).map (.int .u32)), .bool (Sp.isNeg (a.den : Int)), .vec f2 1 ((Sp.limI (a.den : Int)).map (.int .u32)), .bool (Sp.isNeg b.num), .vec f3 1 ((Sp.limI b.num).map (.int .u32)), .bool (Sp.isNeg (b.den : Int)), .vec f4 1 ((Sp.limI (b.den : Int)).map (.int .u32)), .bool (Sp.isNeg c.num), .vec f5 1 ((Sp.limI c.num).map (.int .u32)), .bool (Sp.isNeg (c.den : Int)), .vec f6 1 ((Sp.limI (c.den : Int)).map (.int .u32))])] []) Q
theorem call12 {args : List AV} {d : AV} (h : Wp M1 (.run fi12 [.code (cd Try.f12)] (argVars 0 args) []) (PureQ d)) : Ev M1 (.pure 12 args) d [] :=
  pure_pq Try.f12 fi12 (by kernel_rfl) (by kernel_rfl) (by kernel_rfl) (by kernel_rfl) h
theorem call13 {args : List AV} {d : AV} (h : Wp M1 (.run fi13 [.code (cd Try.f13)] (argVars 0 args) []) (PureQ d)) : Ev M1 (.pure 13 args) d [] :=
  pure_pq Try.f13 fi13 (by kernel_rfl) (by kernel_rfl) (by kernel_rfl) (by kernel_rfl) h
theorem call29 {args : List AV} {d : AV} (h : Wp M1 (.run fi29 [.code (cd Try.f29)] (argVars 0 args) []) (PureQ d)) : Ev M1 (.pure 29 args) d [] :=
  pure_pq Try.f29 fi29 (by kernel_rfl) (by kernel_rfl) (by kernel_rfl) (by kernel_rfl) h
theorem call35 {args : List AV} {d : AV} (h : Wp M1 (.run fi35 [.code (cd Try.f35)] (argVars 0 args) []) (PureQ d)) : Ev M1 (.pure 35 args) d [] :=
  pure_pq Try.f35 fi35 (by kernel_rfl) (by kernel_rfl) (by kernel_rfl) (by kernel_rfl) h
theorem oFrom (f1 f2 : Bool) (a : Rat)  (dq : AV) (H :
    Weak (rootA f1 f2 false false false false a (Sp.qi 0) (Sp.qi 0)) dq) :
  oFrom_at f1 f2 a (PureQ dq) := by
  unfold oFrom_at
  exact path_rq (G := given kp12 [(1, 1, .call (ratA false false (Sp.qi 0)) none), (1, 2, .call (ratA false false (Sp.qi 0)) none)] []) 1000 [] (rootA f1 f2 false false false false a (Sp.qi 0) (Sp.qi 0)) (by kernel_rfl) (bc rfl (bc rfl b0)) q0 (ce (@ev41 ) (ce (@ev41 ) c0)) H
theorem pFrom (f1 f2 : Bool) (a : Rat)  (dq : AV) (H :
    Weak (rootA f1 f2 false false false false a (Sp.qi 0) (Sp.qi 0)) dq) :
  pFrom_at f1 f2 a (PureQ dq) := by
  unfold pFrom_at
  exact path_rq (G := given kp13 [(1, 1, .call (ratA false false (Sp.qi 0)) none), (1, 2, .call (ratA false false (Sp.qi 0)) none)] []) 1000 [] (rootA f1 f2 false false false false a (Sp.qi 0) (Sp.qi 0)) (by kernel_rfl) (bc rfl (bc rfl b0)) q0 (ce (@ev42 ) (ce (@ev42 ) c0)) H
theorem oRed (f1 f2 f3 f4 f5 f6 : Bool) (a b c : Rat)  (dq : AV) (H :
    ((Sp.sgnI b.num = 0) -> Weak (rootA f1 f2 f3 f4 false false a b (Sp.qi 0)) dq) /\
    (¬(Sp.sgnI b.num = 0) -> Weak (rootA f1 f2 f3 f4 f5 f6 a b c) dq)) :
  oRed_at f1 f2 f3 f4 f5 f6 a b c (PureQ dq) := by
  unfold oRed_at
  refine path_wp (G := given kp35 [(1, 1, .call (vi (Sp.sgnI b.num)) none)] []) 5 [] ⟨(atC (cd Try.f35) [1, 0, 1]), [(3, AV.ptr 0 0 0 0), (4, AV.ptr 1 0 0 0), (5, AV.ptr 2 0 0 0), (6, AV.ptr 3 0 0 0), (9, vb (Sp.sgnI b.num == 0))], [⟨[ratA f1 f2 a], 4, 0, false, false⟩, ⟨[ratA f3 f4 b], 4, 0, false, false⟩, ⟨[ratA f5 f6 c], 4, 0, false, false⟩, ⟨[ag [vb false, AV.vnil, vb false, AV.vnil, vb false, AV.vnil, vb false, AV.vnil, vb false, AV.vnil, vb false, AV.vnil]], 12, 0, false, false⟩], _, [], _⟩ (by kernel_rfl) (bc rfl b0) q0 (ce (@ev31 (f3) (f4) (b.num) ((↑b.den : Int))) c0) ?_
  rcases xm (Sp.sgnI b.num = 0) with d2 | d2
  · have H := H.1 d2
    exact path_rq (G := given kp35 [(2, 0, .call (ratA false false (Sp.qi 0)) none)] []) 1000 [true] (asm := [(Sp.sgnI b.num == 0) == true, 0 == 0, true, true, true, true]) (rootA f1 f2 f3 f4 false false a b (Sp.qi 0)) (by kernel_rfl) (bc (beq_t (i_eq.2 d2)) (bc (beq_self_eq_true _) (bc rfl (bc rfl (bc rfl (bc rfl b0)))))) q0 (ce (@ev41 ) c0) H
  · have H := H.2 d2
    exact path_rq (G := given kp35 [] []) 1000 [false] (rootA f1 f2 f3 f4 f5 f6 a b c) (by kernel_rfl) (bc (beq_f (fun h => d2 (i_eq.1 h))) (bc rfl (bc rfl (bc rfl (bc rfl b0))))) q0 c0 H
theorem oSign (f1 f2 f3 f4 f5 f6 : Bool) (a b c : Rat)  (dq : AV) (H :
    (((Sp.sgnI b.num = 0) ∨ (Sp.sgnI a.num = Sp.sgnI b.num)) -> vi (Sp.sgnI a.num) = dq) /\
    (¬((Sp.sgnI b.num = 0) ∨ (Sp.sgnI a.num = Sp.sgnI b.num)) -> ((Sp.sgnI a.num = 0) -> vi (Sp.sgnI b.num) = dq) /\
      (¬(Sp.sgnI a.num = 0) -> (Sp.okO a b c) /\
        (-9223372036854775808 <= Sp.sgnI a.num * Sp.sgnI (a * a - b * b * c).num /\ Sp.sgnI a.num * Sp.sgnI (a * a - b * b * c).num <= 9223372036854775807) /\
        vi (Sp.sgnI a.num * Sp.sgnI (a * a - b * b * c).num) = dq))) :
  oSign_at f1 f2 f3 f4 f5 f6 a b c (PureQ dq) := by
  unfold oSign_at
  refine path_wp (G := given kp29 [(1, 2, .call (vi (Sp.sgnI a.num)) none), (1, 5, .call (vi (Sp.sgnI b.num)) none)] []) 8 [] ⟨(atC (cd Try.f29) [1, 1, 0, 0, 1]), [(1, AV.ptr 0 0 0 0), (3, vi (Sp.sgnI a.num)), (4, vi (Sp.sgnI b.num)), (11, vb (bif Sp.sgnI b.num == 0 then true else Sp.sgnI a.num == Sp.sgnI b.num))], [⟨[rootA f1 f2 f3 f4 f5 f6 a b c], 12, 0, false, false⟩], _, [], _⟩ (by kernel_rfl) (bc rfl (bc rfl b0)) q0 (ce (@ev31 (f1) (f2) (a.num) ((↑a.den : Int))) (ce (@ev31 (f3) (f4) (b.num) ((↑b.den : Int))) c0)) ?_
  rcases xm ((Sp.sgnI b.num = 0) ∨ (Sp.sgnI a.num = Sp.sgnI b.num)) with d2 | d2
  · have H := H.1 d2
    exact path_re (G := given kp29 [] []) 1000 [true] (vi (Sp.sgnI a.num)) (by kernel_rfl) (bc (beq_t ((i_bor i_eq i_eq).2 d2)) b0) q0 c0 H
  · have H := H.2 d2
    rcases xm (Sp.sgnI a.num = 0) with d4 | d4
    · have H := H.1 d4
      exact path_re (G := given kp29 [] []) 1000 [false, true] (vi (Sp.sgnI b.num)) (by kernel_rfl) (bc (beq_f (fun h => d2 ((i_bor i_eq i_eq).1 h))) (bc (beq_t (i_eq.2 d4)) b0)) q0 c0 H
    · have H := H.2 d4
      obtain ⟨k5, H⟩ := H
      obtain ⟨k6, H⟩ := H
      have w7 : wi (Sp.sgnI a.num * Sp.sgnI (a * a - b * b * c).num) = Sp.sgnI a.num * Sp.sgnI (a * a - b * b * c).num := wI64 k6
      exact path_re (G := given kp29 [(6, 2, .call (ratA false false (a * a - b * b * c)) none), (6, 3, .call (vi (Sp.sgnI (a * a - b * b * c).num)) none)] []) 1000 [false, false] (vi (wi (Sp.sgnI a.num * Sp.sgnI (a * a - b * b * c).num))) (by kernel_rfl) (bc (beq_f (fun h => d2 ((i_bor i_eq i_eq).1 h))) (bc (beq_f (fun h => d4 (i_eq.1 h))) (bc rfl b0))) q0 (ce (@ev51 (f1) (f2) (f3) (f4) (f5) (f6) (a) (b) (c) k5) (ce (@ev31 (false) (false) ((a * a - b * b * c).num) ((↑(a * a - b * b * c).den : Int))) c0)) (by (try rw [w7]); all_goals exact H)
end Go.Av
