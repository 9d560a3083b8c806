/- PART 6 of the texts of a claim, joined by a program: what each part shows stands at its head. -/
import Derived.Test.YtmbncgcjilkajaaPartfe688bcb07

namespace Go.Av
open Go.Proofs
abbrev rootA (f1 f2 f3 f4 f5 f6 : Bool) (a b c : Rat) : AV := .agg [.bool (Sp.isNeg a.num), .vec f1 1 ((Sp.limI a.num).map (.int .u32)), .bool (Sp.isNeg (a.den : Int)), .vec f2 1 ((Sp.limI (a.den : Int)).map (.int .u32)), .bool (Sp.isNeg b.num), .vec f3 1 ((Sp.limI b.num).map (.int .u32)), .bool (Sp.isNeg (b.den : Int)), .vec f4 1 ((Sp.limI (b.den : Int)).map (.int .u32)), .bool (Sp.isNeg c.num), .vec f5 1 ((Sp.limI c.num).map (.int .u32)), .bool (Sp.isNeg (c.den : Int)), .vec f6 1 ((Sp.limI (c.den : Int)).map (.int .u32))]
abbrev rootF (a b c : Rat) : AV := rootA false false false false false false a b c
theorem weak_rf {f1 f2 : Bool} (a : Rat) : Weak (ratA f1 f2 a) (ratA false false a) := weak_rat _ _ _ _ _ _
theorem weak_root {f1 f2 f3 f4 f5 f6 : Bool} (a b c : Rat) : Weak (rootA f1 f2 f3 f4 f5 f6 a b c) (rootF a b c) := by
  refine .agg _ _ rfl fun i x y hx hy => ?_
  match i with
  | 0 => simp at hx hy; subst hx; subst hy; exact .refl _
  | 1 => simp at hx hy; subst hx; subst hy; exact weak_vec _ _ _
  | 2 => simp at hx hy; subst hx; subst hy; exact .refl _
  | 3 => simp at hx hy; subst hx; subst hy; exact weak_vec _ _ _
  | 4 => simp at hx hy; subst hx; subst hy; exact .refl _
  | 5 => simp at hx hy; subst hx; subst hy; exact weak_vec _ _ _
  | 6 => simp at hx hy; subst hx; subst hy; exact .refl _
  | 7 => simp at hx hy; subst hx; subst hy; exact weak_vec _ _ _
  | 8 => simp at hx hy; subst hx; subst hy; exact .refl _
  | 9 => simp at hx hy; subst hx; subst hy; exact weak_vec _ _ _
  | 10 => simp at hx hy; subst hx; subst hy; exact .refl _
  | 11 => simp at hx hy; subst hx; subst hy; exact weak_vec _ _ _
  | i + 12 => simp at hx
theorem sgn_num {r : Rat} : Sp.sgnI r.num = 0 ↔ r = 0 := by rw [sgnI_zero, Rat.num_eq_zero]
def Sp.okT (k : Nat) (r : Rat) : Prop := Sp.cnt r.num.natAbs ≤ k ∧ Sp.cnt r.den ≤ k
theorem okT_R {k : Nat} {r : Rat} (h : Sp.okT k r) (hk : k ≤ 90000) : Sp.okR r := ⟨Nat.le_trans h.1 hk, Nat.le_trans h.2 hk⟩
theorem okT_le {k m : Nat} {r : Rat} (h : Sp.okT k r) (hk : k ≤ m) : Sp.okT m r := ⟨Nat.le_trans h.1 hk, Nat.le_trans h.2 hk⟩
theorem divInt_le {p q : Int} (hq : q ≠ 0) : (Rat.divInt p q).num.natAbs ≤ p.natAbs ∧ (Rat.divInt p q).den ≤ q.natAbs := by
  by_cases h : 0 < q
  · obtain ⟨e1, e2⟩ := rat_pos (a := p) h
    have e3 : (Rat.divInt p q).den = ((q / ((p.gcd q : Nat) : Int))).natAbs := by omega
    rw [e1, e3]
    refine ⟨?_, ?_⟩
    · rw [Int.natAbs_ediv_of_dvd (Int.gcd_dvd_left ..)]; exact Nat.div_le_self _ _
    · rw [Int.natAbs_ediv_of_dvd (Int.gcd_dvd_right ..)]; exact Nat.div_le_self _ _
  · obtain ⟨e1, e2⟩ := rat_neg (a := p) (b := q) (by omega)
    have e3 : (Rat.divInt p q).den = ((-q / (((-p).gcd (-q) : Nat) : Int))).natAbs := by omega
    rw [e1, e3]
    refine ⟨?_, ?_⟩
    · rw [Int.natAbs_ediv_of_dvd (Int.gcd_dvd_left ..), Int.natAbs_neg]; exact Nat.div_le_self _ _
    · rw [Int.natAbs_ediv_of_dvd (Int.gcd_dvd_right ..), Int.natAbs_neg]; exact Nat.div_le_self _ _
theorem okT_mul {k m : Nat} {r s : Rat} (h : Sp.okT k r) (h2 : Sp.okT m s) : Sp.okT (k + m) (r * s) := by
  have e := divInt_le (p := r.num * s.num) (q := (r.den : Int) * (s.den : Int)) (Int.mul_ne_zero (den_ne r) (den_ne s))
  rw [rat_mul] at e
  refine ⟨Nat.le_trans (cnt_mono e.1) (cnt_mulI h.1 h2.1), Nat.le_trans (cnt_mono e.2) (cnt_mulI (cnt_den h.2) (cnt_den h2.2))⟩
theorem okT_add {k m : Nat} {r s : Rat} (h : Sp.okT k r) (h2 : Sp.okT m s) : Sp.okT (k + m + 1) (r + s) := by
  have e := divInt_le (p := r.num * (s.den : Int) + s.num * (r.den : Int)) (q := (r.den : Int) * (s.den : Int)) (Int.mul_ne_zero (den_ne r) (den_ne s))
  rw [rat_add] at e
  have m1 := cnt_mulI h.1 (cnt_den h2.2)
  have m2 := cnt_mulI h2.1 (cnt_den h.2)
  have m3 := cnt_mulI (cnt_den h.2) (cnt_den h2.2)
  have := cnt_addI m1 (Nat.le_trans m2 (by omega))
  exact ⟨Nat.le_trans (cnt_mono e.1) this, Nat.le_trans (cnt_mono e.2) (Nat.le_trans m3 (by omega))⟩
theorem okT_neg {k : Nat} {r : Rat} (h : Sp.okT k r) : Sp.okT k (-r) := by
  unfold Sp.okT
  rw [Rat.neg_num, Rat.neg_den, Int.natAbs_neg]; exact h
theorem okT_sub {k m : Nat} {r s : Rat} (h : Sp.okT k r) (h2 : Sp.okT m s) : Sp.okT (k + m + 1) (r - s) := by
  rw [Rat.sub_eq_add_neg]; exact okT_add h (okT_neg h2)
theorem okT_rt {k : Nat} {r : Rat} (h : Sp.rsq r) (hr : Sp.okT k r) : Sp.okT k (Sp.rt r) := by
  obtain ⟨e1, e2⟩ := rt_num h
  obtain ⟨a1, a2⟩ := hr
  have h1 := (sq_le ((isSq_iff _).1 h.1).1).2
  have h2 := (sq_le ((isSq_iff _).1 h.2).1).2
  unfold Sp.okT
  rw [e1]
  have : (Sp.rt r).den = (Sp.sq (r.den : Int)).natAbs := by omega
  rw [this]
  exact ⟨Nat.le_trans (cnt_mono h1) a1, Nat.le_trans (cnt_mono h2) a2⟩
theorem okT_int {n : Int} (h : Sp.inI n) : Sp.okT 3 (Sp.qi n) := by
  rw [qi_eq]
  unfold Sp.okT
  rw [Rat.num_intCast, Rat.den_intCast]
  exact ⟨inI_cnt h, by have := cnt_small (n := 1) (by decide); omega⟩
theorem okT_zero : Sp.okT 1 (0 : Rat) := by
  have h0 : Sp.cnt ((0 : Rat).num.natAbs) = 0 := cnt_zero
  have h1 := cnt_small (n := 1) (by decide)
  have h2 : (0 : Rat).den = 1 := rfl
  unfold Sp.okT
  rw [h0, h2]
  omega
theorem ev41 : Ev M1 (.pure 41 []) (ratA false false (Sp.qi 0)) [] :=
  call41 (oZero _ ⟨by unfold Sp.inI; omega, .refl _⟩)
theorem ev42 : Ev M1 (.pure 42 []) (ratA false false (Sp.qi 0)) [] :=
  call42 (pZero _ ⟨by unfold Sp.inI; omega, .refl _⟩)
def Sp.okO (a b c : Rat) : Prop := Sp.okT 9000 a ∧ Sp.okT 9000 b ∧ Sp.okT 9000 c
def Sp.okP (a b : Rat) : Prop := Sp.okT 9000 a ∧ Sp.okT 9000 b
theorem ev51 (f1 f2 f3 f4 f5 f6 : Bool) (a b c : Rat) (h : Sp.okO a b c) : Ev M1 (.pure 51 [rootA f1 f2 f3 f4 f5 f6 a b c]) (ratA false false (a * a - b * b * c)) [] := by
  obtain ⟨ha, hb, hc⟩ := h
  have aa := okT_mul ha ha
  have bb := okT_mul hb hb
  have bbc := okT_mul bb hc
  exact call51 (oNorm _ _ _ _ _ _ _ _ _ _ ⟨⟨okT_R ha (by omega), okT_R ha (by omega)⟩, ⟨okT_R hb (by omega), okT_R hb (by omega)⟩, ⟨okT_R bb (by omega), okT_R hc (by omega)⟩, ⟨okT_R aa (by omega), okT_R bbc (by omega)⟩, .refl _⟩)
theorem ev14_y (f1 f2 f3 f4 f5 f6 : Bool) (a b c : Rat) (h : b = 0) : Ev M1 (.pure 14 [rootA f1 f2 f3 f4 f5 f6 a b c]) (.tup [ratA false false a, .bool true]) [] :=
  call14 (oRational _ _ _ _ _ _ _ _ _ _ ⟨fun k => absurd (sgn_num.2 h) k, fun _ => weak_two (weak_rf a) (.refl _)⟩)
theorem ev14_n (f1 f2 f3 f4 f5 f6 : Bool) (a b c : Rat) (h : ¬(b = 0)) : Ev M1 (.pure 14 [rootA f1 f2 f3 f4 f5 f6 a b c]) (.tup [noR, .bool false]) [] :=
  call14 (oRational _ _ _ _ _ _ _ _ _ _ ⟨fun _ => weak_two weak_nr (.refl _), fun k => absurd (sgn_num.1 (Classical.not_not.1 k)) h⟩)
theorem ev16_y (f1 f2 f3 f4 f5 f6 : Bool) (a b c : Rat) (h : b = 0) : Ev M1 (.pure 16 [rootA f1 f2 f3 f4 f5 f6 a b c]) (.tup [ratA false false a, .bool true]) [] :=
  call16 (pRational _ _ _ _ _ _ _ _ _ _ ⟨fun k => absurd (sgn_num.2 h) k, fun _ => weak_two (weak_rf a) (.refl _)⟩)
theorem ev16_n (f1 f2 f3 f4 f5 f6 : Bool) (a b c : Rat) (h : ¬(b = 0)) : Ev M1 (.pure 16 [rootA f1 f2 f3 f4 f5 f6 a b c]) (.tup [noR, .bool false]) [] :=
  call16 (pRational _ _ _ _ _ _ _ _ _ _ ⟨fun _ => weak_two weak_nr (.refl _), fun k => absurd (sgn_num.1 (Classical.not_not.1 k)) h⟩)
def Sp.isCom (b c y z : Rat) : Prop := b = 0 ∨ y = 0 ∨ c = z
instance (b c y z : Rat) : Decidable (Sp.isCom b c y z) := inferInstanceAs (Decidable (_ ∨ _))
theorem ev11 (f1 f2 f3 f4 f5 f6 g1 g2 g3 g4 g5 g6 : Bool) (a b c x y z : Rat) (h : Sp.okO a b c ∧ Sp.okO x y z) : Ev M1 (.pure 11 [rootA f1 f2 f3 f4 f5 f6 a b c, rootA g1 g2 g3 g4 g5 g6 x y z]) (.bool (decide (a = x ∧ b = y ∧ c = z))) [] := by
  obtain ⟨⟨h1, h2, h3⟩, h4, h5, h6⟩ := h
  refine call11 (pSame _ _ _ _ _ _ _ _ _ _ _ _ _ _ _ _ _ _ _ ⟨⟨okT_R h1 (by omega), okT_R h4 (by omega)⟩, fun _ => ⟨okT_R h2 (by omega), okT_R h5 (by omega)⟩, fun _ => ⟨okT_R h3 (by omega), okT_R h6 (by omega)⟩, ?_⟩)
  congr 1
  by_cases e1 : a = x <;> by_cases e2 : b = y <;> by_cases e3 : c = z <;> simp [e1, e2, e3]
end Go.Av

namespace Go.Av
open Go.Proofs
set_option maxRecDepth 100000
def fi12 : Fi := ⟨7, [.cell 2 30]⟩
def kp12 : List (Nat × List Nat) := [(0, [1, 2]), (1, [2])]
def fi13 : Fi := ⟨7, [.cell 2 30]⟩
def kp13 : List (Nat × List Nat) := [(0, [1, 2]), (1, [2])]
def fi29 : Fi := ⟨29, [.tmp 2]⟩
def kp29 : List (Nat × List Nat) := [(0, [1]), (1, [1, 3, 4]), (2, [1, 3, 4, 11]), (3, [2]), (4, [1, 3, 4, 20]), (5, [2]), (6, [2])]
def fi35 : Fi := ⟨15, [.cell 6 30]⟩
def kp35 : List (Nat × List Nat) := [(0, [3, 4, 5, 6]), (1, [3, 4, 5, 6, 9]), (2, [3, 4, 5, 6]), (3, [6])]
def oFrom_at (f1 f2 : Bool) (a : Rat) (Q : AV → Heap → Prop) : Prop := Wp M1 (.run fi12 (atC (cd Try.f12) []) [(0, .agg [.bool (Sp.isNeg a.num), .vec f1 1 ((Sp.limI a.num).map (.int .u32)), .bool (Sp.isNeg (a.den : Int)), .vec f2 1 ((Sp.limI (a.den : Int)).map (.int .u32))])] []) Q
def pFrom_at (f1 f2 : Bool) (a : Rat) (Q : AV → Heap → Prop) : Prop := Wp M1 (.run fi13 (atC (cd Try.f13) []) [(0, .agg [.bool (Sp.isNeg a.num), .vec f1 1 ((Sp.limI a.num).map (.int .u32)), .bool (Sp.isNeg (a.den : Int)), .vec f2 1 ((Sp.limI (a.den : Int)).map (.int .u32))])] []) Q
def oRed_at (f1 f2 f3 f4 f5 f6 : Bool) (a b c : Rat) (Q : AV → Heap → Prop) : Prop := Wp M1 (.run fi35 (atC (cd Try.f35) []) [(0, .agg [.bool (Sp.isNeg a.num), .vec f1 1 ((Sp.limI a.num).map (.int .u32)), .bool (Sp.isNeg (a.den : Int)), .vec f2 1 ((Sp.limI (a.den : Int)).map (.int .u32))]), (1, .agg [.bool (Sp.isNeg b.num), .vec f3 1 ((Sp.limI b.num).map (.int .u32)), .bool (Sp.isNeg (b.den : Int)), .vec f4 1 ((Sp.limI (b.den : Int)).map (.int .u32))]), (2, .agg [.bool (Sp.isNeg c.num), .vec f5 1 ((Sp.limI c.num).map (.int .u32)), .bool (Sp.isNeg (c.den : Int)), .vec f6 1 ((Sp.limI (c.den : Int)).map (.int .u32))])] []) Q
def oSign_at (f1 f2 f3 f4 f5 f6 : Bool) (a b c : Rat) (Q : AV → Heap → Prop) : Prop := Wp M1 (.run fi29 (atC (cd Try.f29) []) [(0, .agg [.bool (Sp.isNeg a.num), .vec f1 1 ((Sp.limI a.num).map (.int .u32)), .bool (Sp.isNeg (a.den : Int)), .vec f2 1 ((Sp.limI (a.den : Int)).map (.int .u32)), .bool (Sp.isNeg b.num), .vec f3 1 ((Sp.limI b.num).map (.int .u32)), .bool (Sp.isNeg (b.den : Int)), .vec f4 1 ((Sp.limI (b.den : Int)).map (.int .u32)), .bool (Sp.isNeg c.num), .vec f5 1 ((Sp.limI c.num).map (.int .u32)), .bool (Sp.isNeg (c.den : Int)), .vec f6 1 ((Sp.limI (c.den : Int)).map (.int .u32))])] []) Q
theorem call12 {args : List AV} {d : AV} (h : Wp M1 (.run fi12 [.code (cd Try.f12)] (argVars 0 args) []) (PureQ d)) : Ev M1 (.pure 12 args) d [] :=
  pure_pq Try.f12 fi12 (by kernel_rfl) (by kernel_rfl) (by kernel_rfl) (by kernel_rfl) h
theorem call13 {args : List AV} {d : AV} (h : Wp M1 (.run fi13 [.code (cd Try.f13)] (argVars 0 args) []) (PureQ d)) : Ev M1 (.pure 13 args) d [] :=
  pure_pq Try.f13 fi13 (by kernel_rfl) (by kernel_rfl) (by kernel_rfl) (by kernel_rfl) h
theorem call29 {args : List AV} {d : AV} (h : Wp M1 (.run fi29 [.code (cd Try.f29)] (argVars 0 args) []) (PureQ d)) : Ev M1 (.pure 29 args) d [] :=
  pure_pq Try.f29 fi29 (by kernel_rfl) (by kernel_rfl) (by kernel_rfl) (by kernel_rfl) h
theorem call35 {args : List AV} {d : AV} (h : Wp M1 (.run fi35 [.code (cd Try.f35)] (argVars 0 args) []) (PureQ d)) : Ev M1 (.pure 35 args) d [] :=
  pure_pq Try.f35 fi35 (by kernel_rfl) (by kernel_rfl) (by kernel_rfl) (by kernel_rfl) h
theorem oFrom (f1 f2 : Bool) (a : Rat)  (dq : AV) (H :
    Weak (rootA f1 f2 false false false false a (Sp.qi 0) (Sp.qi 0)) dq) :
  oFrom_at f1 f2 a (PureQ dq) := by
  unfold oFrom_at
  exact path_rq (G := given kp12 [(1, 1, .call (ratA false false (Sp.qi 0)) none), (1, 2, .call (ratA false false (Sp.qi 0)) none)] []) 1000 [] (rootA f1 f2 false false false false a (Sp.qi 0) (Sp.qi 0)) (by kernel_rfl) (bc rfl (bc rfl b0)) q0 (ce (@ev41 ) (ce (@ev41 ) c0)) H
theorem pFrom (f1 f2 : Bool) (a : Rat)  (dq : AV) (H :
    Weak (rootA f1 f2 false false false false a (Sp.qi 0) (Sp.qi 0)) dq) :
  pFrom_at f1 f2 a (PureQ dq) := by
  unfold pFrom_at
  exact path_rq (G := given kp13 [(1, 1, .call (ratA false false (Sp.qi 0)) none), (1, 2, .call (ratA false false (Sp.qi 0)) none)] []) 1000 [] (rootA f1 f2 false false false false a (Sp.qi 0) (Sp.qi 0)) (by kernel_rfl) (bc rfl (bc rfl b0)) q0 (ce (@ev42 ) (ce (@ev42 ) c0)) H
theorem oRed (f1 f2 f3 f4 f5 f6 : Bool) (a b c : Rat)  (dq : AV) (H :
    ((Sp.sgnI b.num = 0) -> Weak (rootA f1 f2 f3 f4 false false a b (Sp.qi 0)) dq) /\
    (¬(Sp.sgnI b.num = 0) -> Weak (rootA f1 f2 f3 f4 f5 f6 a b c) dq)) :
  oRed_at f1 f2 f3 f4 f5 f6 a b c (PureQ dq) := by
  unfold oRed_at
  refine path_wp (G := given kp35 [(1, 1, .call (vi (Sp.sgnI b.num)) none)] []) 5 [] ⟨(atC (cd Try.f35) [1, 0, 1]), [(3, AV.ptr 0 0 0 0), (4, AV.ptr 1 0 0 0), (5, AV.ptr 2 0 0 0), (6, AV.ptr 3 0 0 0), (9, vb (Sp.sgnI b.num == 0))], [⟨[ratA f1 f2 a], 4, 0, false, false⟩, ⟨[ratA f3 f4 b], 4, 0, false, false⟩, ⟨[ratA f5 f6 c], 4, 0, false, false⟩, ⟨[ag [vb false, AV.vnil, vb false, AV.vnil, vb false, AV.vnil, vb false, AV.vnil, vb false, AV.vnil, vb false, AV.vnil]], 12, 0, false, false⟩], _, [], _⟩ (by kernel_rfl) (bc rfl b0) q0 (ce (@ev31 (f3) (f4) (b.num) ((↑b.den : Int))) c0) ?_
  rcases xm (Sp.sgnI b.num = 0) with d2 | d2
  · have H := H.1 d2
    exact path_rq (G := given kp35 [(2, 0, .call (ratA false false (Sp.qi 0)) none)] []) 1000 [true] (asm := [(Sp.sgnI b.num == 0) == true, 0 == 0, true, true, true, true]) (rootA f1 f2 f3 f4 false false a b (Sp.qi 0)) (by kernel_rfl) (bc (beq_t (i_eq.2 d2)) (bc (beq_self_eq_true _) (bc rfl (bc rfl (bc rfl (bc rfl b0)))))) q0 (ce (@ev41 ) c0) H
  · have H := H.2 d2
    exact path_rq (G := given kp35 [] []) 1000 [false] (rootA f1 f2 f3 f4 f5 f6 a b c) (by kernel_rfl) (bc (beq_f (fun h => d2 (i_eq.1 h))) (bc rfl (bc rfl (bc rfl (bc rfl b0))))) q0 c0 H
theorem oSign (f1 f2 f3 f4 f5 f6 : Bool) (a b c : Rat)  (dq : AV) (H :
    (((Sp.sgnI b.num = 0) ∨ (Sp.sgnI a.num = Sp.sgnI b.num)) -> vi (Sp.sgnI a.num) = dq) /\
    (¬((Sp.sgnI b.num = 0) ∨ (Sp.sgnI a.num = Sp.sgnI b.num)) -> ((Sp.sgnI a.num = 0) -> vi (Sp.sgnI b.num) = dq) /\
      (¬(Sp.sgnI a.num = 0) -> (Sp.okO a b c) /\
        (-9223372036854775808 <= Sp.sgnI a.num * Sp.sgnI (a * a - b * b * c).num /\ Sp.sgnI a.num * Sp.sgnI (a * a - b * b * c).num <= 9223372036854775807) /\
        vi (Sp.sgnI a.num * Sp.sgnI (a * a - b * b * c).num) = dq))) :
  oSign_at f1 f2 f3 f4 f5 f6 a b c (PureQ dq) := by
  unfold oSign_at
  refine path_wp (G := given kp29 [(1, 2, .call (vi (Sp.sgnI a.num)) none), (1, 5, .call (vi (Sp.sgnI b.num)) none)] []) 8 [] ⟨(atC (cd Try.f29) [1, 1, 0, 0, 1]), [(1, AV.ptr 0 0 0 0), (3, vi (Sp.sgnI a.num)), (4, vi (Sp.sgnI b.num)), (11, vb (bif Sp.sgnI b.num == 0 then true else Sp.sgnI a.num == Sp.sgnI b.num))], [⟨[rootA f1 f2 f3 f4 f5 f6 a b c], 12, 0, false, false⟩], _, [], _⟩ (by kernel_rfl) (bc rfl (bc rfl b0)) q0 (ce (@ev31 (f1) (f2) (a.num) ((↑a.den : Int))) (ce (@ev31 (f3) (f4) (b.num) ((↑b.den : Int))) c0)) ?_
  rcases xm ((Sp.sgnI b.num = 0) ∨ (Sp.sgnI a.num = Sp.sgnI b.num)) with d2 | d2
  · have H := H.1 d2
    exact path_re (G := given kp29 [] []) 1000 [true] (vi (Sp.sgnI a.num)) (by kernel_rfl) (bc (beq_t ((i_bor i_eq i_eq).2 d2)) b0) q0 c0 H
  · have H := H.2 d2
    rcases xm (Sp.sgnI a.num = 0) with d4 | d4
    · have H := H.1 d4
      exact path_re (G := given kp29 [] []) 1000 [false, true] (vi (Sp.sgnI b.num)) (by kernel_rfl) (bc (beq_f (fun h => d2 ((i_bor i_eq i_eq).1 h))) (bc (beq_t (i_eq.2 d4)) b0)) q0 c0 H
    · have H := H.2 d4
      obtain ⟨k5, H⟩ := H
      obtain ⟨k6, H⟩ := H
      have w7 : wi (Sp.sgnI a.num * Sp.sgnI (a * a - b * b * c).num) = Sp.sgnI a.num * Sp.sgnI (a * a - b * b * c).num := wI64 k6
      exact path_re (G := given kp29 [(6, 2, .call (ratA false false (a * a - b * b * c)) none), (6, 3, .call (vi (Sp.sgnI (a * a - b * b * c).num)) none)] []) 1000 [false, false] (vi (wi (Sp.sgnI a.num * Sp.sgnI (a * a - b * b * c).num))) (by kernel_rfl) (bc (beq_f (fun h => d2 ((i_bor i_eq i_eq).1 h))) (bc (beq_f (fun h => d4 (i_eq.1 h))) (bc rfl b0))) q0 (ce (@ev51 (f1) (f2) (f3) (f4) (f5) (f6) (a) (b) (c) k5) (ce (@ev31 (false) (false) ((a * a - b * b * c).num) ((↑(a * a - b * b * c).den : Int))) c0)) (by (try rw [w7]); all_goals exact H)
end Go.Av

namespace Go.Av
open Go.Proofs
theorem ev12 (f1 f2 : Bool) (a : Rat) : Ev M1 (.pure 12 [ratA f1 f2 a]) (rootF a (Sp.qi 0) (Sp.qi 0)) [] :=
  call12 (oFrom _ _ _ _ (weak_root a (Sp.qi 0) (Sp.qi 0)))
theorem ev13 (f1 f2 : Bool) (a : Rat) : Ev M1 (.pure 13 [ratA f1 f2 a]) (rootF a (Sp.qi 0) (Sp.qi 0)) [] :=
  call13 (pFrom _ _ _ _ (weak_root a (Sp.qi 0) (Sp.qi 0)))
noncomputable def Sp.rad (b c : Rat) : Rat := if b = 0 then Sp.qi 0 else c
theorem ev35 (f1 f2 f3 f4 f5 f6 : Bool) (a b c : Rat) : Ev M1 (.pure 35 [ratA f1 f2 a, ratA f3 f4 b, ratA f5 f6 c]) (rootF a b (Sp.rad b c)) [] := by
  refine call35 (oRed _ _ _ _ _ _ _ _ _ _ ⟨fun k => ?_, fun k => ?_⟩)
  · rw [show Sp.rad b c = Sp.qi 0 from if_pos (sgn_num.1 k)]; exact weak_root a b (Sp.qi 0)
  · rw [show Sp.rad b c = c from if_neg fun e => k (sgn_num.2 e)]; exact weak_root a b c
def Sp.sgR (r : Rat) : Int := Sp.sgnI r.num
noncomputable def Sp.sgO (a b c : Rat) : Int := if Sp.sgR b = 0 ∨ Sp.sgR a = Sp.sgR b then Sp.sgR a else if Sp.sgR a = 0 then Sp.sgR b else Sp.sgR a * Sp.sgR (a * a - b * b * c)
theorem sgnI_le (n : Int) : -1 ≤ Sp.sgnI n ∧ Sp.sgnI n ≤ 1 := by
  unfold Sp.sgnI
  (repeat' split) <;> omega
theorem sgn_bound {x y : Int} (hx : -1 ≤ x ∧ x ≤ 1) (hy : -1 ≤ y ∧ y ≤ 1) : -1 ≤ x * y ∧ x * y ≤ 1 := by
  obtain ⟨x1, x2⟩ := hx
  rcases (by omega : x = -1 ∨ x = 0 ∨ x = 1) with e | e | e <;> subst e <;> omega
theorem ev29 (f1 f2 f3 f4 f5 f6 : Bool) (a b c : Rat) (h : Sp.okO a b c) : Ev M1 (.pure 29 [rootA f1 f2 f3 f4 f5 f6 a b c]) (.int .i64 (Sp.sgO a b c)) [] := by
  refine call29 (oSign _ _ _ _ _ _ _ _ _ _ ⟨fun k => ?_, fun k => ⟨fun k2 => ?_, fun k2 => ⟨h, ?_, ?_⟩⟩⟩)
  · unfold Sp.sgO Sp.sgR; rw [if_pos k]
  · unfold Sp.sgO Sp.sgR; rw [if_neg k, if_pos k2]
  · have := sgn_bound (sgnI_le a.num) (sgnI_le (a * a - b * b * c).num)
    omega
  · unfold Sp.sgO Sp.sgR; rw [if_neg k, if_neg k2]
end Go.Av

namespace Go.Av
open Go.Proofs
set_option maxRecDepth 100000
def fi8 : Fi := ⟨30, [.cell 6 30, .tmp 7]⟩
def kp8 : List (Nat × List Nat) := [(0, [3, 4, 5, 6]), (1, [3, 4, 5, 6, 12]), (2, [6, 7]), (3, [3, 4, 5, 6, 8, 9]), (4, [3, 4, 5, 6, 8, 19]), (5, [6, 7]), (6, [6, 7])]
def fi25 : Fi := ⟨6, [.cell 2 30]⟩
def kp25 : List (Nat × List Nat) := [(0, [0, 2]), (1, [2])]
def fi28 : Fi := ⟨69, [.cell 2 24]⟩
def kp28 : List (Nat × List Nat) := [(0, [1, 2]), (1, [1, 2, 15]), (2, [2]), (3, [1, 2, 3]), (4, [1, 2, 3, 4, 5]), (5, [1, 2, 4, 5, 6]), (6, [1, 2, 4, 5, 7]), (7, [1, 2, 4, 5, 7, 48]), (8, [1, 2, 4, 5, 7]), (9, [2, 9]), (10, [2])]
def fi40 : Fi := ⟨21, [.cell 6 30]⟩
def kp40 : List (Nat × List Nat) := [(0, [3, 4, 5, 6]), (1, [3, 4, 5, 6, 14]), (2, [6]), (3, [6])]
def fi52 : Fi := ⟨16, [.cell 4 30]⟩
def kp52 : List (Nat × List Nat) := [(0, [2, 3, 4]), (1, [4])]
def pRed_at (f1 f2 f3 f4 f5 f6 : Bool) (a b c : Rat) (Q : AV → Heap → Prop) : Prop := Wp M1 (.run fi40 (atC (cd Try.f40) []) [(0, .agg [.bool (Sp.isNeg a.num), .vec f1 1 ((Sp.limI a.num).map (.int .u32)), .bool (Sp.isNeg (a.den : Int)), .vec f2 1 ((Sp.limI (a.den : Int)).map (.int .u32))]), (1, .agg [.bool (Sp.isNeg b.num), .vec f3 1 ((Sp.limI b.num).map (.int .u32)), .bool (Sp.isNeg (b.den : Int)), .vec f4 1 ((Sp.limI (b.den : Int)).map (.int .u32))]), (2, .agg [.bool (Sp.isNeg c.num), .vec f5 1 ((Sp.limI c.num).map (.int .u32)), .bool (Sp.isNeg (c.den : Int)), .vec f6 1 ((Sp.limI (c.den : Int)).map (.int .u32))])] []) Q
def pInt_at (n : Int) (Q : AV → Heap → Prop) : Prop := Wp M1 (.run fi25 (atC (cd Try.f25) []) [(0, .int .i64 n)] []) Q
def oMake_at (f1 f2 f3 f4 f5 f6 : Bool) (a b c : Rat) (Q : AV → Heap → Prop) : Prop := Wp M1 (.run fi8 (atC (cd Try.f8) []) [(0, .agg [.bool (Sp.isNeg a.num), .vec f1 1 ((Sp.limI a.num).map (.int .u32)), .bool (Sp.isNeg (a.den : Int)), .vec f2 1 ((Sp.limI (a.den : Int)).map (.int .u32))]), (1, .agg [.bool (Sp.isNeg b.num), .vec f3 1 ((Sp.limI b.num).map (.int .u32)), .bool (Sp.isNeg (b.den : Int)), .vec f4 1 ((Sp.limI (b.den : Int)).map (.int .u32))]), (2, .agg [.bool (Sp.isNeg c.num), .vec f5 1 ((Sp.limI c.num).map (.int .u32)), .bool (Sp.isNeg (c.den : Int)), .vec f6 1 ((Sp.limI (c.den : Int)).map (.int .u32))])] []) Q
def oScale_at (f1 f2 f3 f4 f5 f6 : Bool) (k l : Bool) (a b c r : Rat) (Q : AV → Heap → Prop) : Prop := Wp M1 (.run fi52 (atC (cd Try.f52) []) [(0, .agg [.bool (Sp.isNeg a.num), .vec f1 1 ((Sp.limI a.num).map (.int .u32)), .bool (Sp.isNeg (a.den : Int)), .vec f2 1 ((Sp.limI (a.den : Int)).map (.int .u32)), .bool (Sp.isNeg b.num), .vec f3 1 ((Sp.limI b.num).map (.int .u32)), .bool (Sp.isNeg (b.den : Int)), .vec f4 1 ((Sp.limI (b.den : Int)).map (.int .u32)), .bool (Sp.isNeg c.num), .vec f5 1 ((Sp.limI c.num).map (.int .u32)), .bool (Sp.isNeg (c.den : Int)), .vec f6 1 ((Sp.limI (c.den : Int)).map (.int .u32))]), (1, .agg [.bool (Sp.isNeg r.num), .vec k 1 ((Sp.limI r.num).map (.int .u32)), .bool (Sp.isNeg (r.den : Int)), .vec l 1 ((Sp.limI (r.den : Int)).map (.int .u32))])] []) Q
def oFloor_at (f1 f2 f3 f4 f5 f6 : Bool) (a b c : Rat) (Q : AV → Heap → Prop) : Prop := Wp M1 (.run fi28 (atC (cd Try.f28) []) [(0, .agg [.bool (Sp.isNeg a.num), .vec f1 1 ((Sp.limI a.num).map (.int .u32)), .bool (Sp.isNeg (a.den : Int)), .vec f2 1 ((Sp.limI (a.den : Int)).map (.int .u32)), .bool (Sp.isNeg b.num), .vec f3 1 ((Sp.limI b.num).map (.int .u32)), .bool (Sp.isNeg (b.den : Int)), .vec f4 1 ((Sp.limI (b.den : Int)).map (.int .u32)), .bool (Sp.isNeg c.num), .vec f5 1 ((Sp.limI c.num).map (.int .u32)), .bool (Sp.isNeg (c.den : Int)), .vec f6 1 ((Sp.limI (c.den : Int)).map (.int .u32))])] []) Q
theorem call8 {args : List AV} {d : AV} (h : Wp M1 (.run fi8 [.code (cd Try.f8)] (argVars 0 args) []) (PureQ d)) : Ev M1 (.pure 8 args) d [] :=
  pure_pq Try.f8 fi8 (by kernel_rfl) (by kernel_rfl) (by kernel_rfl) (by kernel_rfl) h
theorem call25 {args : List AV} {d : AV} (h : Wp M1 (.run fi25 [.code (cd Try.f25)] (argVars 0 args) []) (PureQ d)) : Ev M1 (.pure 25 args) d [] :=
  pure_pq Try.f25 fi25 (by kernel_rfl) (by kernel_rfl) (by kernel_rfl) (by kernel_rfl) h
theorem call28 {args : List AV} {d : AV} (h : Wp M1 (.run fi28 [.code (cd Try.f28)] (argVars 0 args) []) (PureQ d)) : Ev M1 (.pure 28 args) d [] :=
  pure_pq Try.f28 fi28 (by kernel_rfl) (by kernel_rfl) (by kernel_rfl) (by kernel_rfl) h
theorem call40 {args : List AV} {d : AV} (h : Wp M1 (.run fi40 [.code (cd Try.f40)] (argVars 0 args) []) (PureQ d)) : Ev M1 (.pure 40 args) d [] :=
  pure_pq Try.f40 fi40 (by kernel_rfl) (by kernel_rfl) (by kernel_rfl) (by kernel_rfl) h
theorem call52 {args : List AV} {d : AV} (h : Wp M1 (.run fi52 [.code (cd Try.f52)] (argVars 0 args) []) (PureQ d)) : Ev M1 (.pure 52 args) d [] :=
  pure_pq Try.f52 fi52 (by kernel_rfl) (by kernel_rfl) (by kernel_rfl) (by kernel_rfl) h
theorem pRed (f1 f2 f3 f4 f5 f6 : Bool) (a b c : Rat)  (dq : AV) (H :
    (((Sp.sgnI b.num = 0) ∨ (Sp.sgnI c.num = 0)) -> Weak (rootF a (Sp.qi 0) (Sp.qi 0)) dq) /\
    (¬((Sp.sgnI b.num = 0) ∨ (Sp.sgnI c.num = 0)) -> Weak (rootA f1 f2 f3 f4 f5 f6 a b c) dq)) :
  pRed_at f1 f2 f3 f4 f5 f6 a b c (PureQ dq) := by
  unfold pRed_at
  refine path_wp (G := given kp40 [(1, 1, .call (vi (Sp.sgnI b.num)) none), (1, 5, .call (vi (Sp.sgnI c.num)) none)] []) 5 [] ⟨(atC (cd Try.f40) [1, 0, 1]), [(3, AV.ptr 0 0 0 0), (4, AV.ptr 1 0 0 0), (5, AV.ptr 2 0 0 0), (6, AV.ptr 3 0 0 0), (14, vb (bif Sp.sgnI b.num == 0 then true else Sp.sgnI c.num == 0))], [⟨[ratA f1 f2 a], 4, 0, false, false⟩, ⟨[ratA f3 f4 b], 4, 0, false, false⟩, ⟨[ratA f5 f6 c], 4, 0, false, false⟩, ⟨[ag [vb false, AV.vnil, vb false, AV.vnil, vb false, AV.vnil, vb false, AV.vnil, vb false, AV.vnil, vb false, AV.vnil]], 12, 0, false, false⟩], [true, !((Sp.sgnI b.num == 0) == false && true) || true], [], [⟨true, false, 36, [ratA f3 f4 b], [], vi (Sp.sgnI b.num), []⟩, ⟨(Sp.sgnI b.num == 0) == false && true && true, false, 36, [ratA f5 f6 c], [], vi (Sp.sgnI c.num), []⟩]⟩ (by kernel_rfl) (bc rfl (bc (Bool.or_true _) b0)) q0 (cc (fun _ => (@ev36 (f3) (f4) (b.num) ((↑b.den : Int)))) (cc (fun hc => ((@ev36 (f5) (f6) (c.num) ((↑c.den : Int))) : Ev M1 (Conf.pure 36 [ratA f5 f6 c]) (vi (Sp.sgnI c.num)) [])) c0)) ?_
  rcases xm ((Sp.sgnI b.num = 0) ∨ (Sp.sgnI c.num = 0)) with d3 | d3
  · have H := H.1 d3
    exact path_rq (G := given kp40 [(2, 1, .call (rootF a (Sp.qi 0) (Sp.qi 0)) none)] []) 1000 [true] (rootF a (Sp.qi 0) (Sp.qi 0)) (by kernel_rfl) (bc (beq_t ((i_bor i_eq i_eq).2 d3)) (bc rfl (bc rfl b0))) q0 (ce (@ev13 (f1) (f2) (a)) c0) H
  · have H := H.2 d3
    exact path_rq (G := given kp40 [] []) 1000 [false] (rootA f1 f2 f3 f4 f5 f6 a b c) (by kernel_rfl) (bc (beq_f (fun h => d3 ((i_bor i_eq i_eq).1 h))) (bc rfl (bc rfl (bc rfl (bc rfl b0))))) q0 c0 H
theorem pInt (n : Int)  (dq : AV) (H :
    (Sp.inI n) /\
    Weak (rootF (Sp.qi n) (Sp.qi 0) (Sp.qi 0)) dq) :
  pInt_at n (PureQ dq) := by
  unfold pInt_at
  obtain ⟨k1, H⟩ := H
  exact path_rq (G := given kp25 [(1, 1, .call (ratA false false (Sp.qi n)) none), (1, 2, .call (rootF (Sp.qi n) (Sp.qi 0) (Sp.qi 0)) none)] []) 1000 [] (rootF (Sp.qi n) (Sp.qi 0) (Sp.qi 0)) (by kernel_rfl) (bc rfl b0) q0 (ce (@ev22 (n) k1) (ce (@ev13 (false) (false) (Sp.qi n)) c0)) H
noncomputable abbrev zNxC1 := ag [vb false, AV.vnil, vb false, AV.vnil, vb false, AV.vnil, vb false, AV.vnil, vb false, AV.vnil, vb false, AV.vnil]
theorem oMake (f1 f2 f3 f4 f5 f6 : Bool) (a b c : Rat)  (dq : AV) (H :
    ((Sp.sgnI c.num < 0) -> Weak (tu [ag [vb false, AV.vnil, vb false, AV.vnil, vb false, AV.vnil, vb false, AV.vnil, vb false, AV.vnil, vb false, AV.vnil], vi 7]) dq) /\
    (¬(Sp.sgnI c.num < 0) -> ((Sp.rsq c) -> (Sp.okR c) /\
        (Sp.okR b /\ Sp.okR (Sp.rt c)) /\
        (Sp.okR a /\ Sp.okR (b * Sp.rt c)) /\
        Weak (tu [rootF (a + b * Sp.rt c) (Sp.qi 0) (Sp.qi 0), vi 0]) dq) /\
      (¬(Sp.rsq c) -> (Sp.okR c) /\
        Weak (tu [rootF a b (Sp.rad b c), vi 0]) dq))) :
  oMake_at f1 f2 f3 f4 f5 f6 a b c (PureQ dq) := by
  unfold oMake_at
  refine path_wp (G := given kp8 [(1, 1, .call (vi (Sp.sgnI c.num)) none)] []) 5 [] ⟨(atC (cd Try.f8) [1, 0, 1]), [(3, AV.ptr 0 0 0 0), (4, AV.ptr 1 0 0 0), (5, AV.ptr 2 0 0 0), (6, AV.ptr 3 0 0 0), (12, vb (decide (Sp.sgnI c.num < 0)))], [⟨[ratA f1 f2 a], 4, 0, false, false⟩, ⟨[ratA f3 f4 b], 4, 0, false, false⟩, ⟨[ratA f5 f6 c], 4, 0, false, false⟩, ⟨[zNxC1], 12, 0, false, false⟩], _, [], _⟩ (by kernel_rfl) (bc rfl b0) q0 (ce (@ev31 (f5) (f6) (c.num) ((↑c.den : Int))) c0) ?_
  rcases xm (Sp.sgnI c.num < 0) with d2 | d2
  · have H := H.1 d2
    exact path_rq (G := given kp8 [] []) 1000 [true] (tu [zNxC1, vi 7]) (by kernel_rfl) (bc (beq_t (i_dec.2 d2)) (bc rfl b0)) q0 c0 H
  · have H := H.2 d2
    rcases xm (Sp.rsq c) with d3 | d3
    · have H := H.1 d3
      obtain ⟨k4, H⟩ := H
      obtain ⟨k5, H⟩ := H
      obtain ⟨k6, H⟩ := H
      exact path_rq (G := given kp8 [(3, 1, .call (tu [ratA false false (Sp.rt c), vb true]) none), (5, 3, .call (ratA false false (b * Sp.rt c)) none), (5, 4, .call (ratA false false (a + b * Sp.rt c)) none), (5, 5, .call (rootF (a + b * Sp.rt c) (Sp.qi 0) (Sp.qi 0)) none)] []) 1000 [false, true] (tu [rootF (a + b * Sp.rt c) (Sp.qi 0) (Sp.qi 0), vi 0]) (by kernel_rfl) (bc (beq_f (fun h => d2 (i_dec.1 h))) (bc rfl (bc rfl (bc rfl (bc rfl (bc rfl (bc rfl (bc rfl b0)))))))) q0 (ce (@ev32_y (f5) (f6) (c) k4 d3) (ce (@ev34 (f3) (f4) (false) (false) (b) (Sp.rt c) k5) (ce (@ev33 (f1) (f2) (false) (false) (a) (b * Sp.rt c) k6) (ce (@ev12 (false) (false) (a + b * Sp.rt c)) c0)))) H
    · have H := H.2 d3
      obtain ⟨k7, H⟩ := H
      exact path_rq (G := given kp8 [(3, 1, .call (tu [ag [vb false, vf [], vb false, vf []], vb false]) none), (6, 3, .call (rootF a b (Sp.rad b c)) none)] []) 1000 [false, false] (tu [rootF a b (Sp.rad b c), vi 0]) (by kernel_rfl) (bc (beq_f (fun h => d2 (i_dec.1 h))) (bc rfl (bc rfl (bc rfl (bc rfl (bc rfl (bc rfl (bc rfl b0)))))))) q0 (ce (@ev32_n (f5) (f6) (c) k7 d3) (ce (@ev35 (f1) (f2) (f3) (f4) (f5) (f6) (a) (b) (c)) c0)) H
theorem oScale (f1 f2 f3 f4 f5 f6 : Bool) (k l : Bool) (a b c r : Rat)  (dq : AV) (H :
    (Sp.okR a /\ Sp.okR r) /\
    (Sp.okR b /\ Sp.okR r) /\
    Weak (rootF (a * r) (b * r) (Sp.rad (b * r) c)) dq) :
  oScale_at f1 f2 f3 f4 f5 f6 k l a b c r (PureQ dq) := by
  unfold oScale_at
  obtain ⟨k1, H⟩ := H
  obtain ⟨k2, H⟩ := H
  exact path_rq (G := given kp52 [(1, 3, .call (ratA false false (a * r)) none), (1, 7, .call (ratA false false (b * r)) none), (1, 10, .call (rootF (a * r) (b * r) (Sp.rad (b * r) c)) none)] []) 1000 [] (rootF (a * r) (b * r) (Sp.rad (b * r) c)) (by kernel_rfl) (bc rfl (bc rfl (bc rfl (bc rfl (bc rfl (bc rfl b0)))))) q0 (ce (@ev34 (f1) (f2) (k) (l) (a) (r) k1) (ce (@ev34 (f3) (f4) (k) (l) (b) (r) k2) (ce (@ev35 (false) (false) (false) (false) (f5) (f6) (a * r) (b * r) (c)) c0))) H
noncomputable abbrev zNxC12 (a : Rat) (b : Rat) (c : Rat) := (↑a.den : Int) * (↑a.den : Int) * ((b * b * c).num * (↑(b * b * c).den : Int))
noncomputable abbrev zNxC13 (a : Rat) (b : Rat) (c : Rat) := Sp.flo (a.num * (↑(b * b * c).den : Int) + Sp.sq (zNxC12 a b c)) ((↑a.den : Int) * (↑(b * b * c).den : Int))
noncomputable abbrev zNxC14 (a : Rat) (b : Rat) (c : Rat) := Sp.flr (a.num * (↑(b * b * c).den : Int) + Sp.sq (zNxC12 a b c)) ((↑a.den : Int) * (↑(b * b * c).den : Int))
noncomputable abbrev zNxC15 (b4 : Bool) (l4 : List (Int)) (b5 : Bool) (l5 : List (Int)) (n1 : Int) := tu [ag [vb b4, vf (us l4)], ag [vb b5, vf (us l5)], vi n1]
noncomputable abbrev zNxC16 (b2 : Bool) (l2 : List (Int)) := ag [vb b2, vf (us l2)]
noncomputable abbrev zNxC17 (b3 : Bool) (l3 : List (Int)) := ag [vb b3, vf (us l3)]
theorem oFloor (f1 f2 f3 f4 f5 f6 : Bool) (a b c : Rat)  (dq : AV) (H :
    ((Sp.sgnI b.num = 0) -> (Sp.okB a.num /\ Sp.okB (↑a.den : Int)) /\
      Weak (bigA false (Sp.flo a.num (↑a.den : Int))) dq) /\
    (¬(Sp.sgnI b.num = 0) -> (Sp.okR b /\ Sp.okR b) /\
      (Sp.okR (b * b) /\ Sp.okR c) /\
      (Sp.okB (↑a.den : Int) /\ Sp.okB (↑a.den : Int)) /\
      (Sp.okB (b * b * c).num /\ Sp.okB (↑(b * b * c).den : Int)) /\
      (Sp.okB ((↑a.den : Int) * (↑a.den : Int)) /\ Sp.okB ((b * b * c).num * (↑(b * b * c).den : Int))) /\
      (Sp.okS ((↑a.den : Int) * (↑a.den : Int) * ((b * b * c).num * (↑(b * b * c).den : Int)))) /\
      ((Sp.sgnI b.num < 0) -> (Sp.inI 1) /\
        ∃ (b1 : Bool) (l1 : List (Int)),
        (Ev M1 (Conf.pure 58 [bigA false (Sp.sq ((↑a.den : Int) * (↑a.den : Int) * ((b * b * c).num * (↑(b * b * c).den : Int)))), ag [vb false, vf (us (Sp.limI 1))]]) (ag [vb b1, vf (us l1)]) []) /\
        ∃ (b2 : Bool) (l2 : List (Int)),
        (Ev M1 (Conf.pure 57 [ag [vb b1, vf (us l1)]]) (ag [vb b2, vf (us l2)]) []) /\
        (Sp.okB a.num /\ Sp.okB (↑(b * b * c).den : Int)) /\
        ∃ (b3 : Bool) (l3 : List (Int)),
        (Ev M1 (Conf.pure 58 [bigA false (a.num * (↑(b * b * c).den : Int)), ag [vb b2, vf (us l2)]]) (ag [vb b3, vf (us l3)]) []) /\
        (Sp.okB (↑a.den : Int) /\ Sp.okB (↑(b * b * c).den : Int)) /\
        ∃ (b4 : Bool) (l4 : List (Int)) (b5 : Bool) (l5 : List (Int)) (n1 : Int),
        (Ev M1 (Conf.pure 60 [ag [vb b3, vf (us l3)], bigA false ((↑a.den : Int) * (↑(b * b * c).den : Int))]) (tu [ag [vb b4, vf (us l4)], ag [vb b5, vf (us l5)], vi n1]) []) /\
        Weak (ag [vb b4, vf (us l4)]) dq) /\
      (¬(Sp.sgnI b.num < 0) -> (Sp.okB a.num /\ Sp.okB (↑(b * b * c).den : Int)) /\
        (Sp.okB (a.num * (↑(b * b * c).den : Int)) /\ Sp.okB (Sp.sq ((↑a.den : Int) * (↑a.den : Int) * ((b * b * c).num * (↑(b * b * c).den : Int))))) /\
        (Sp.okB (↑a.den : Int) /\ Sp.okB (↑(b * b * c).den : Int)) /\
        (Sp.okB (a.num * (↑(b * b * c).den : Int) + Sp.sq ((↑a.den : Int) * (↑a.den : Int) * ((b * b * c).num * (↑(b * b * c).den : Int)))) /\ Sp.okB ((↑a.den : Int) * (↑(b * b * c).den : Int)) /\ (↑a.den : Int) * (↑(b * b * c).den : Int) ≠ 0) /\
        Weak (bigA false (Sp.flo (a.num * (↑(b * b * c).den : Int) + Sp.sq ((↑a.den : Int) * (↑a.den : Int) * ((b * b * c).num * (↑(b * b * c).den : Int)))) ((↑a.den : Int) * (↑(b * b * c).den : Int)))) dq))) :
  oFloor_at f1 f2 f3 f4 f5 f6 a b c (PureQ dq) := by
  unfold oFloor_at
  refine path_wp (G := given kp28 [(1, 2, .call (vi (Sp.sgnI b.num)) none)] []) 5 [] ⟨(atC (cd Try.f28) [1, 0, 1]), [(1, AV.ptr 0 0 0 0), (2, AV.ptr 1 0 0 0), (15, vb (Sp.sgnI b.num == 0))], [⟨[rootA f1 f2 f3 f4 f5 f6 a b c], 12, 0, false, false⟩, ⟨[ag [vb false, AV.vnil]], 2, 0, false, false⟩], _, [], _⟩ (by kernel_rfl) (bc rfl b0) q0 (ce (@ev31 (f3) (f4) (b.num) ((↑b.den : Int))) c0) ?_
  rcases xm (Sp.sgnI b.num = 0) with d2 | d2
  · have H := H.1 d2
    obtain ⟨k3, H⟩ := H
    exact path_rq (G := given kp28 [(2, 2, .call (bigA false (Sp.flo a.num (↑a.den : Int))) none)] []) 1000 [true] (bigA false (Sp.flo a.num (↑a.den : Int))) (by kernel_rfl) (bc (beq_t (i_eq.2 d2)) (bc rfl (bc rfl b0))) q0 (ce (@ev54 (f1) (f2) (a) k3) c0) H
  · have H := H.2 d2
    obtain ⟨k4, H⟩ := H
    obtain ⟨k5, H⟩ := H
    refine path_wp (G := given kp28 [(3, 4, .call (ratA false false (b * b)) none), (3, 7, .call (ratA false false (b * b * c)) none)] [(4, [6008, 5007, 6006, 5005, 4004, 2002])]) 5 [false] ⟨(atC (cd Try.f28) [1, 1, 1, 0]), [(1, AV.ptr 0 0 0 0), (2, AV.ptr 1 0 0 0), (3, AV.ptr 2 0 0 0)], [⟨[rootA f1 f2 f3 f4 f5 f6 a b c], 12, 0, false, false⟩, ⟨[ag [vb false, AV.vnil]], 2, 0, false, false⟩, ⟨[ratA false false (b * b * c)], 4, 0, false, false⟩], _, [], _⟩ (by kernel_rfl) (bc (beq_f (fun h => d2 (i_eq.1 h))) (bc rfl (bc rfl (bc rfl (bc rfl b0))))) q0 (ce (@ev34 (f3) (f4) (f3) (f4) (b) (b) k4) (ce (@ev34 (false) (false) (f5) (f6) (b * b) (c) k5) c0)) (wp_both (G := given kp28 [(3, 4, .call (ratA false false (b * b)) none), (3, 7, .call (ratA false false (b * b * c)) none)] [(4, [6008, 5007, 6006, 5005, 4004, 2002])]) [0, 1, 2, 4, 3] 5 (e1 := [(1, AV.ptr 0 0 0 0), (2, AV.ptr 1 0 0 0), (3, AV.ptr 2 0 0 0), (4, AV.ptr 3 0 0 0), (5, AV.ptr 4 0 0 0)]) (L1 := [⟨[rootA f1 f2 f3 f4 f5 f6 a b c], 12, 0, false, false⟩, ⟨[ag [vb false, AV.vnil]], 2, 0, false, false⟩, ⟨[ratA false false (b * b * c)], 4, 0, false, false⟩, ⟨[bigA f2 (↑a.den : Int)], 2, 0, false, false⟩, ⟨[bigA false (↑(b * b * c).den : Int)], 2, 0, false, false⟩]) (a := [true, true, true, true]) (q := []) (cs := []) (by kernel_rfl) (by kernel_rfl) (allB_cons rfl (allB_cons rfl (allB_cons rfl (allB_cons rfl allB_nil)))) allP_nil allC_nil ?_)
    obtain ⟨k6, H⟩ := H
    obtain ⟨k7, H⟩ := H
    obtain ⟨k8, H⟩ := H
    obtain ⟨k9, H⟩ := H
    refine path_wp (G := given kp28 [(5, 2, .call (bigA false ((↑a.den : Int) * (↑a.den : Int))) none), (5, 6, .call (bigA false ((b * b * c).num * (↑(b * b * c).den : Int))) none), (5, 7, .call (bigA false (zNxC12 a b c)) none), (6, 1, .call (tu [bigA false (Sp.sq (zNxC12 a b c)), vi (Sp.sqe (zNxC12 a b c))]) none), (7, 2, .call (vi (Sp.sgnI b.num)) none)] []) 7 [] ⟨(atC (cd Try.f28) [1, 1, 1, 1, 1, 1, 0, 1]), [(1, AV.ptr 0 0 0 0), (2, AV.ptr 1 0 0 0), (4, AV.ptr 3 0 0 0), (5, AV.ptr 4 0 0 0), (7, AV.ptr 6 0 0 0), (48, vb (decide (Sp.sgnI b.num < 0)))], [⟨[rootA f1 f2 f3 f4 f5 f6 a b c], 12, 0, false, false⟩, ⟨[ag [vb false, AV.vnil]], 2, 0, false, false⟩, ⟨[ratA false false (b * b * c)], 4, 0, false, false⟩, ⟨[bigA f2 (↑a.den : Int)], 2, 0, false, false⟩, ⟨[bigA false (↑(b * b * c).den : Int)], 2, 0, false, false⟩, ⟨[bigA false (zNxC12 a b c)], 2, 0, false, false⟩, ⟨[bigA false (Sp.sq (zNxC12 a b c))], 2, 0, false, false⟩], _, [], _⟩ (by kernel_rfl) (bc rfl (bc rfl (bc rfl (bc rfl (bc rfl (bc rfl (bc rfl (bc rfl b0)))))))) q0 (ce (@ev55 (f2) (f2) ((↑a.den : Int)) ((↑a.den : Int)) k6) (ce (@ev55 (false) (false) ((b * b * c).num) ((↑(b * b * c).den : Int)) k7) (ce (@ev55 (false) (false) ((↑a.den : Int) * (↑a.den : Int)) ((b * b * c).num * (↑(b * b * c).den : Int)) k8) (ce (@ev56 (false) (zNxC12 a b c) k9) (ce (@ev31 (f3) (f4) (b.num) ((↑b.den : Int))) c0))))) ?_
    rcases xm (Sp.sgnI b.num < 0) with d11 | d11
    · have H := H.1 d11
      obtain ⟨k12, H⟩ := H
      obtain ⟨b1, l1, H⟩ := H
      obtain ⟨k13, H⟩ := H
      obtain ⟨b2, l2, H⟩ := H
      obtain ⟨k14, H⟩ := H
      obtain ⟨k15, H⟩ := H
      obtain ⟨b3, l3, H⟩ := H
      obtain ⟨k16, H⟩ := H
      obtain ⟨k17, H⟩ := H
      obtain ⟨b4, l4, b5, l5, n1, H⟩ := H
      obtain ⟨k18, H⟩ := H
      refine path_wp (G := given kp28 [(8, 1, .call (ag [vb false, vf (us (Sp.limI 1))]) none), (8, 2, .call (ag [vb b1, vf (us l1)]) none), (8, 3, .call ((zNxC16 b2 l2)) none), (9, 4, .call (bigA false (a.num * (↑(b * b * c).den : Int))) none), (9, 6, .call ((zNxC17 b3 l3)) none), (9, 9, .call (bigA false ((↑a.den : Int) * (↑(b * b * c).den : Int))) none), (9, 10, .call ((zNxC15 b4 l4 b5 l5 n1)) none)] []) 3 [true] ⟨(atC (cd Try.f28) [1, 1, 1, 1, 1, 1, 1, 0]), [(1, AV.ptr 0 0 0 0), (2, AV.ptr 1 0 0 0), (4, AV.ptr 3 0 0 0), (5, AV.ptr 4 0 0 0), (7, AV.ptr 6 0 0 0)], [⟨[rootA f1 f2 f3 f4 f5 f6 a b c], 12, 0, false, false⟩, ⟨[ag [vb false, AV.vnil]], 2, 0, false, false⟩, ⟨[ratA false false (b * b * c)], 4, 0, false, false⟩, ⟨[bigA f2 (↑a.den : Int)], 2, 0, false, false⟩, ⟨[bigA false (↑(b * b * c).den : Int)], 2, 0, false, false⟩, ⟨[bigA false (zNxC12 a b c)], 2, 0, false, false⟩, ⟨[(zNxC16 b2 l2)], 2, 0, false, false⟩], _, [], _⟩ (by kernel_rfl) (bc (beq_t (i_dec.2 d11)) (bc rfl (bc rfl b0))) q0 (ce (@ev59 (1) k12) (ce k13 (ce k14 c0))) (wp_both (G := given kp28 [(8, 1, .call (ag [vb false, vf (us (Sp.limI 1))]) none), (8, 2, .call (ag [vb b1, vf (us l1)]) none), (8, 3, .call ((zNxC16 b2 l2)) none), (9, 4, .call (bigA false (a.num * (↑(b * b * c).den : Int))) none), (9, 6, .call ((zNxC17 b3 l3)) none), (9, 9, .call (bigA false ((↑a.den : Int) * (↑(b * b * c).den : Int))) none), (9, 10, .call ((zNxC15 b4 l4 b5 l5 n1)) none)] []) [0, 1, 2, 3, 4, 5, 6, 8, 7] 15 (e1 := [(2, AV.ptr 1 0 0 0), (9, AV.ptr 7 0 0 0)]) (L1 := [⟨[rootA f1 f2 f3 f4 f5 f6 a b c], 12, 0, false, false⟩, ⟨[ag [vb false, AV.vnil]], 2, 0, false, false⟩, ⟨[ratA false false (b * b * c)], 4, 0, false, false⟩, ⟨[bigA f2 (↑a.den : Int)], 2, 0, false, false⟩, ⟨[bigA false (↑(b * b * c).den : Int)], 2, 0, false, false⟩, ⟨[bigA false (zNxC12 a b c)], 2, 0, false, false⟩, ⟨[(zNxC16 b2 l2)], 2, 0, false, false⟩, ⟨[ag [vb b4, vf (us l4)]], 2, 0, false, false⟩, ⟨[ag [vb b5, vf (us l5)]], 2, 0, false, false⟩]) (a := [true, true, true, true, true, true, true]) (q := []) (cs := [⟨true, false, 55, [bigA f1 a.num, bigA false (↑(b * b * c).den : Int)], [], bigA false (a.num * (↑(b * b * c).den : Int)), []⟩, ⟨true, false, 58, [bigA false (a.num * (↑(b * b * c).den : Int)), (zNxC16 b2 l2)], [], (zNxC17 b3 l3), []⟩, ⟨true, false, 55, [bigA f2 (↑a.den : Int), bigA false (↑(b * b * c).den : Int)], [], bigA false ((↑a.den : Int) * (↑(b * b * c).den : Int)), []⟩, ⟨true, false, 60, [(zNxC17 b3 l3), bigA false ((↑a.den : Int) * (↑(b * b * c).den : Int))], [], (zNxC15 b4 l4 b5 l5 n1), []⟩]) (by kernel_rfl) (by kernel_rfl) (allB_cons rfl (allB_cons rfl (allB_cons rfl (allB_cons rfl (allB_cons rfl (allB_cons rfl (allB_cons rfl allB_nil))))))) allP_nil (allC_cons (fun _ => (@ev55 (f1) (false) (a.num) ((↑(b * b * c).den : Int)) k15)) (allC_cons (fun _ => k16) (allC_cons (fun _ => (@ev55 (f2) (false) ((↑a.den : Int)) ((↑(b * b * c).den : Int)) k17)) (allC_cons (fun _ => k18) allC_nil)))) ?_)
      exact path_rq (G := given kp28 [] []) 1000 [] (ag [vb b4, vf (us l4)]) (by kernel_rfl) (bc rfl (bc rfl b0)) q0 c0 H
    · have H := H.2 d11
      obtain ⟨k19, H⟩ := H
      obtain ⟨k20, H⟩ := H
      obtain ⟨k21, H⟩ := H
      obtain ⟨k22, H⟩ := H
      refine path_wp (G := given kp28 [(9, 4, .call (bigA false (a.num * (↑(b * b * c).den : Int))) none), (9, 6, .call (bigA false (a.num * (↑(b * b * c).den : Int) + Sp.sq (zNxC12 a b c))) none), (9, 9, .call (bigA false ((↑a.den : Int) * (↑(b * b * c).den : Int))) none), (9, 10, .call (tu [bigA false (zNxC13 a b c), bigA false (zNxC14 a b c), vi 0]) none)] []) 3 [false] ⟨(atC (cd Try.f28) [1, 1, 1, 1, 1, 1, 1, 0]), [(1, AV.ptr 0 0 0 0), (2, AV.ptr 1 0 0 0), (4, AV.ptr 3 0 0 0), (5, AV.ptr 4 0 0 0), (7, AV.ptr 6 0 0 0), (48, vb (decide (Sp.sgnI b.num < 0)))], [⟨[rootA f1 f2 f3 f4 f5 f6 a b c], 12, 0, false, false⟩, ⟨[ag [vb false, AV.vnil]], 2, 0, false, false⟩, ⟨[ratA false false (b * b * c)], 4, 0, false, false⟩, ⟨[bigA f2 (↑a.den : Int)], 2, 0, false, false⟩, ⟨[bigA false (↑(b * b * c).den : Int)], 2, 0, false, false⟩, ⟨[bigA false (zNxC12 a b c)], 2, 0, false, false⟩, ⟨[bigA false (Sp.sq (zNxC12 a b c))], 2, 0, false, false⟩], _, [], _⟩ (by kernel_rfl) (bc (beq_f (fun h => d11 (i_dec.1 h))) b0) q0 c0 (wp_both (G := given kp28 [(9, 4, .call (bigA false (a.num * (↑(b * b * c).den : Int))) none), (9, 6, .call (bigA false (a.num * (↑(b * b * c).den : Int) + Sp.sq (zNxC12 a b c))) none), (9, 9, .call (bigA false ((↑a.den : Int) * (↑(b * b * c).den : Int))) none), (9, 10, .call (tu [bigA false (zNxC13 a b c), bigA false (zNxC14 a b c), vi 0]) none)] []) [0, 1, 2, 3, 4, 5, 6, 8, 7] 15 (e1 := [(2, AV.ptr 1 0 0 0), (9, AV.ptr 7 0 0 0)]) (L1 := [⟨[rootA f1 f2 f3 f4 f5 f6 a b c], 12, 0, false, false⟩, ⟨[ag [vb false, AV.vnil]], 2, 0, false, false⟩, ⟨[ratA false false (b * b * c)], 4, 0, false, false⟩, ⟨[bigA f2 (↑a.den : Int)], 2, 0, false, false⟩, ⟨[bigA false (↑(b * b * c).den : Int)], 2, 0, false, false⟩, ⟨[bigA false (zNxC12 a b c)], 2, 0, false, false⟩, ⟨[bigA false (Sp.sq (zNxC12 a b c))], 2, 0, false, false⟩, ⟨[bigA false (zNxC13 a b c)], 2, 0, false, false⟩, ⟨[bigA false (zNxC14 a b c)], 2, 0, false, false⟩]) (a := [true, true, true, true, true, true, true]) (q := []) (cs := [⟨true, false, 55, [bigA f1 a.num, bigA false (↑(b * b * c).den : Int)], [], bigA false (a.num * (↑(b * b * c).den : Int)), []⟩, ⟨true, false, 58, [bigA false (a.num * (↑(b * b * c).den : Int)), bigA false (Sp.sq (zNxC12 a b c))], [], bigA false (a.num * (↑(b * b * c).den : Int) + Sp.sq (zNxC12 a b c)), []⟩, ⟨true, false, 55, [bigA f2 (↑a.den : Int), bigA false (↑(b * b * c).den : Int)], [], bigA false ((↑a.den : Int) * (↑(b * b * c).den : Int)), []⟩, ⟨true, false, 60, [bigA false (a.num * (↑(b * b * c).den : Int) + Sp.sq (zNxC12 a b c)), bigA false ((↑a.den : Int) * (↑(b * b * c).den : Int))], [], tu [bigA false (zNxC13 a b c), bigA false (zNxC14 a b c), vi 0], []⟩]) (by kernel_rfl) (by kernel_rfl) (allB_cons rfl (allB_cons rfl (allB_cons rfl (allB_cons rfl (allB_cons rfl (allB_cons rfl (allB_cons rfl allB_nil))))))) allP_nil (allC_cons (fun _ => (@ev55 (f1) (false) (a.num) ((↑(b * b * c).den : Int)) k19)) (allC_cons (fun _ => (@ev58 (false) (false) (a.num * (↑(b * b * c).den : Int)) (Sp.sq (zNxC12 a b c)) k20)) (allC_cons (fun _ => (@ev55 (f2) (false) ((↑a.den : Int)) ((↑(b * b * c).den : Int)) k21)) (allC_cons (fun _ => (@ev60 (false) (false) (a.num * (↑(b * b * c).den : Int) + Sp.sq (zNxC12 a b c)) ((↑a.den : Int) * (↑(b * b * c).den : Int)) k22)) allC_nil)))) ?_)
      exact path_rq (G := given kp28 [] []) 1000 [] (bigA false (zNxC13 a b c)) (by kernel_rfl) (bc rfl (bc rfl b0)) q0 c0 H
end Go.Av

namespace Go.Av
open Go.Proofs
abbrev noO : AV := .agg [.bool false, .vec false 1 [], .bool false, .vec false 1 [], .bool false, .vec false 1 [], .bool false, .vec false 1 [], .bool false, .vec false 1 [], .bool false, .vec false 1 []]
theorem weak_vnil1 : Weak .vnil (.vec false 1 []) := by
  have := weak_bnil false
  cases this with
  | agg xs ys hl h => exact h 1 _ _ rfl rfl
theorem weak_no : Weak (.agg [.bool false, .vnil, .bool false, .vnil, .bool false, .vnil, .bool false, .vnil, .bool false, .vnil, .bool false, .vnil]) noO := by
  refine .agg _ _ rfl fun i x y hx hy => ?_
  match i with
  | 0 => simp at hx hy; subst hx; subst hy; exact .refl _
  | 1 => simp at hx hy; subst hx; subst hy; exact weak_vnil1
  | 2 => simp at hx hy; subst hx; subst hy; exact .refl _
  | 3 => simp at hx hy; subst hx; subst hy; exact weak_vnil1
  | 4 => simp at hx hy; subst hx; subst hy; exact .refl _
  | 5 => simp at hx hy; subst hx; subst hy; exact weak_vnil1
  | 6 => simp at hx hy; subst hx; subst hy; exact .refl _
  | 7 => simp at hx hy; subst hx; subst hy; exact weak_vnil1
  | 8 => simp at hx hy; subst hx; subst hy; exact .refl _
  | 9 => simp at hx hy; subst hx; subst hy; exact weak_vnil1
  | 10 => simp at hx hy; subst hx; subst hy; exact .refl _
  | 11 => simp at hx hy; subst hx; subst hy; exact weak_vnil1
  | i + 12 => simp at hx
theorem ev11_a : Ev M1 (.pure 11 [noO, noO]) (.bool true) [] :=
  call11 (pSameN _ rfl)
namespace Sp
def isNN (c : Rat) : Prop := 0 ≤ c.num
open Classical in
noncomputable def mkA (a b c : Rat) : Rat := if rsq c then a + b * rt c else a
open Classical in
noncomputable def mkB (b c : Rat) : Rat := if rsq c then qi 0 else b
open Classical in
noncomputable def mkC (b c : Rat) : Rat := if rsq c then qi 0 else rad b c
end Sp
theorem nn_sgn {c : Rat} : Sp.sgnI c.num < 0 ↔ ¬Sp.isNN c := by
  rw [sgnI_lt]; unfold Sp.isNN; omega
theorem ev8_y (f1 f2 f3 f4 f5 f6 : Bool) (a b c : Rat) (h : Sp.okO a b c) (k : Sp.isNN c) : Ev M1 (.pure 8 [ratA f1 f2 a, ratA f3 f4 b, ratA f5 f6 c]) (.tup [rootF (Sp.mkA a b c) (Sp.mkB b c) (Sp.mkC b c), .int .i64 0]) [] := by
  obtain ⟨ha, hb, hc⟩ := h
  refine call8 (oMake _ _ _ _ _ _ _ _ _ _ ⟨fun x => absurd k (nn_sgn.1 x), fun _ => ⟨fun s => ?_, fun s => ?_⟩⟩)
  · have hr := okT_rt s hc
    have hm := okT_mul hb hr
    refine ⟨okT_R hc (by omega), ⟨okT_R hb (by omega), okT_R hr (by omega)⟩, ⟨okT_R ha (by omega), okT_R hm (by omega)⟩, ?_⟩
    rw [show Sp.mkA a b c = a + b * Sp.rt c from if_pos s, show Sp.mkB b c = Sp.qi 0 from if_pos s, show Sp.mkC b c = Sp.qi 0 from if_pos s]
    exact .refl _
  · refine ⟨okT_R hc (by omega), ?_⟩
    rw [show Sp.mkA a b c = a from if_neg s, show Sp.mkB b c = b from if_neg s, show Sp.mkC b c = Sp.rad b c from if_neg s]
    exact .refl _
theorem ev8_n (f1 f2 f3 f4 f5 f6 : Bool) (a b c : Rat) (h : Sp.okO a b c) (k : ¬(Sp.isNN c)) : Ev M1 (.pure 8 [ratA f1 f2 a, ratA f3 f4 b, ratA f5 f6 c]) (.tup [noO, .int .i64 7]) [] :=
  call8 (oMake _ _ _ _ _ _ _ _ _ _ ⟨fun _ => weak_two weak_no (.refl _), fun x => absurd (nn_sgn.2 k) x⟩)
theorem ev52 (f1 f2 f3 f4 f5 f6 l1 l2 : Bool) (a b c r : Rat) (h : Sp.okP a b ∧ Sp.okR r) : Ev M1 (.pure 52 [rootA f1 f2 f3 f4 f5 f6 a b c, ratA l1 l2 r]) (rootF (a * r) (b * r) (Sp.rad (b * r) c)) [] := by
  obtain ⟨⟨h1, h2⟩, h3⟩ := h
  exact call52 (oScale _ _ _ _ _ _ _ _ _ _ _ _ _ ⟨⟨okT_R h1 (by omega), h3⟩, ⟨okT_R h2 (by omega), h3⟩, .refl _⟩)
noncomputable def Sp.flW (a b c : Rat) : Int := Sp.sq ((a.den : Int) * (a.den : Int) * ((b * b * c).num * ((b * b * c).den : Int)))
noncomputable def Sp.fl (a b c : Rat) : Int := if b = 0 then Sp.flo a.num (a.den : Int) else Sp.flo (a.num * ((b * b * c).den : Int) + (if b.num < 0 then -(Sp.flW a b c + 1) else Sp.flW a b c)) ((a.den : Int) * ((b * b * c).den : Int))
theorem cnt_sqI {v : Int} {n : Nat} (h : Sp.cnt v.natAbs ≤ n) : Sp.cnt (Sp.sq v).natAbs ≤ n := by
  by_cases k : 0 ≤ v
  · exact Nat.le_trans (cnt_mono (sq_le k).2) h
  · unfold Sp.sq
    rw [if_pos (by omega)]
    exact Nat.le_trans (Nat.le_of_eq cnt_zero) (Nat.zero_le _)
theorem cnt_one : Sp.cnt (1 : Int).natAbs ≤ 1 := by
  have := cnt_small (n := (1 : Int).natAbs) (by decide); omega
theorem ev28 (f1 f2 f3 f4 f5 f6 : Bool) (a b c : Rat) (h : Sp.okO a b c) : Ev M1 (.pure 28 [rootA f1 f2 f3 f4 f5 f6 a b c]) (bigA false (Sp.fl a b c)) [] := by
  obtain ⟨ha, hb, hc⟩ := h
  have bb := okT_mul hb hb
  have bbc := okT_mul bb hc
  obtain ⟨a1, a2⟩ := ha
  obtain ⟨s1, s2⟩ := bbc
  have a2' := cnt_den a2
  have s2' := cnt_den s2
  have m1 := cnt_mulI a2' a2'
  have m2 := cnt_mulI s1 s2'
  have m3 := cnt_mulI m1 m2
  have w := cnt_sqI m3
  have m4 := cnt_mulI a1 s2'
  have m5 := cnt_mulI a2' s2'
  have hden : (a.den : Int) * ((b * b * c).den : Int) ≠ 0 := Int.mul_ne_zero (den_ne a) (den_ne _)
  refine call28 (oFloor _ _ _ _ _ _ _ _ _ _ ⟨fun k => ⟨⟨by unfold Sp.okB; omega, by unfold Sp.okB; omega⟩, ?_⟩, fun k => ?_⟩)
  · unfold Sp.fl; rw [if_pos (sgn_num.1 k)]; exact .refl _
  · refine ⟨⟨okT_R hb (by omega), okT_R hb (by omega)⟩, ⟨okT_R bb (by omega), okT_R hc (by omega)⟩, ⟨by unfold Sp.okB; omega, by unfold Sp.okB; omega⟩, ⟨by unfold Sp.okB; omega, by unfold Sp.okB; omega⟩, ⟨by unfold Sp.okB; omega, by unfold Sp.okB; omega⟩, by unfold Sp.okS; omega, fun k2 => ?_, fun k2 => ?_⟩
    · rw [sgnI_lt] at k2
      have e : Sp.fl a b c = Sp.flo (a.num * ((b * b * c).den : Int) + -(Sp.flW a b c + 1)) ((a.den : Int) * ((b * b * c).den : Int)) := by
        unfold Sp.fl; rw [if_neg fun e => k (sgn_num.2 e), if_pos k2]
      have w1 := cnt_addI w (Nat.le_trans cnt_one (by omega))
      have w2 : Sp.cnt (-(Sp.sq ((a.den : Int) * (a.den : Int) * ((b * b * c).num * ((b * b * c).den : Int))) + 1)).natAbs ≤ 9000 + 9000 + (9000 + 9000 + 9000 + (9000 + 9000 + 9000)) + 1 := by rw [Int.natAbs_neg]; exact w1
      have w3 := cnt_addI (Nat.le_trans m4 (by omega)) w2
      rw [e]
      unfold Sp.flW
      refine ⟨by unfold Sp.inI; omega, _, _, ev58 _ _ _ 1 ⟨by unfold Sp.okB; omega, by unfold Sp.okB; have := cnt_one; omega⟩, _, _, ev57 _ _ ?_, ⟨by unfold Sp.okB; omega, by unfold Sp.okB; omega⟩, _, _, ev58 _ _ _ _ ⟨by unfold Sp.okB; omega, ?_⟩, ⟨by unfold Sp.okB; omega, by unfold Sp.okB; omega⟩, _, _, _, _, _, ev60 _ _ _ _ ⟨?_, by unfold Sp.okB; omega, hden⟩, .refl _⟩
      · unfold Sp.okB; omega
      · unfold Sp.okB; omega
      · unfold Sp.okB; omega
    · rw [sgnI_lt] at k2
      have e : Sp.fl a b c = Sp.flo (a.num * ((b * b * c).den : Int) + Sp.flW a b c) ((a.den : Int) * ((b * b * c).den : Int)) := by
        unfold Sp.fl; rw [if_neg fun e => k (sgn_num.2 e), if_neg k2]
      have w3 := cnt_addI (Nat.le_trans m4 (by omega)) w
      rw [e]
      unfold Sp.flW
      exact ⟨⟨by unfold Sp.okB; omega, by unfold Sp.okB; omega⟩, ⟨by unfold Sp.okB; omega, by unfold Sp.okB; omega⟩, ⟨by unfold Sp.okB; omega, by unfold Sp.okB; omega⟩, ⟨by unfold Sp.okB; omega, by unfold Sp.okB; omega, hden⟩, .refl _⟩
end Go.Av

namespace Go.Av
open Go.Proofs
noncomputable def Sp.prB (b c : Rat) : Rat := if b = 0 ∨ c = 0 then Sp.qi 0 else b
noncomputable def Sp.prC (b c : Rat) : Rat := if b = 0 ∨ c = 0 then Sp.qi 0 else c
theorem qi_zero : Sp.qi 0 = 0 := by rw [qi_eq]; rfl
theorem ev40 (f1 f2 f3 f4 f5 f6 : Bool) (a b c : Rat) : Ev M1 (.pure 40 [ratA f1 f2 a, ratA f3 f4 b, ratA f5 f6 c]) (rootF a (Sp.prB b c) (Sp.prC b c)) [] := by
  refine call40 (pRed _ _ _ _ _ _ _ _ _ _ ⟨fun k => ?_, fun k => ?_⟩)
  · have k : b = 0 ∨ c = 0 := k.imp sgn_num.1 sgn_num.1
    rw [show Sp.prB b c = Sp.qi 0 from if_pos k, show Sp.prC b c = Sp.qi 0 from if_pos k]; exact weak_root a (Sp.qi 0) (Sp.qi 0)
  · have k : ¬(b = 0 ∨ c = 0) := fun e => k (e.imp sgn_num.2 sgn_num.2)
    rw [show Sp.prB b c = b from if_neg k, show Sp.prC b c = c from if_neg k]; exact weak_root a b c
theorem ev25 (n : Int) (h : Sp.inI n) : Ev M1 (.pure 25 [.int .i64 n]) (rootF (Sp.qi n) (Sp.qi 0) (Sp.qi 0)) [] :=
  call25 (pInt _ _ ⟨h, .refl _⟩)
end Go.Av

namespace Go.Av
open Go.Proofs
set_option maxRecDepth 100000
def fi9 : Fi := ⟨30, [.cell 6 30, .tmp 7]⟩
def kp9 : List (Nat × List Nat) := [(0, [3, 4, 5, 6]), (1, [3, 4, 5, 6, 12]), (2, [6, 7]), (3, [3, 4, 5, 6, 8, 9]), (4, [3, 4, 5, 6, 8, 19]), (5, [6, 7]), (6, [6, 7])]
def fi10 : Fi := ⟨17, [.tmp 8]⟩
def kp10 : List (Nat × List Nat) := [(0, [1, 3, 4, 6]), (1, [8])]
def fi26 : Fi := ⟨31, [.cell 2 30, .tmp 3]⟩
def kp26 : List (Nat × List Nat) := [(0, [1, 2]), (1, [1, 2, 8]), (2, [2, 3]), (3, [1, 2, 4, 5]), (4, [1, 2, 4, 5, 18]), (5, [2, 3]), (6, [2, 3])]
def fi27 : Fi := ⟨9, [.tmp 4]⟩
def kp27 : List (Nat × List Nat) := [(0, [1, 2]), (1, [4])]
def oInv_at (f1 f2 f3 f4 f5 f6 : Bool) (a b c : Rat) (Q : AV → Heap → Prop) : Prop := Wp M1 (.run fi26 (atC (cd Try.f26) []) [(0, .agg [.bool (Sp.isNeg a.num), .vec f1 1 ((Sp.limI a.num).map (.int .u32)), .bool (Sp.isNeg (a.den : Int)), .vec f2 1 ((Sp.limI (a.den : Int)).map (.int .u32)), .bool (Sp.isNeg b.num), .vec f3 1 ((Sp.limI b.num).map (.int .u32)), .bool (Sp.isNeg (b.den : Int)), .vec f4 1 ((Sp.limI (b.den : Int)).map (.int .u32)), .bool (Sp.isNeg c.num), .vec f5 1 ((Sp.limI c.num).map (.int .u32)), .bool (Sp.isNeg (c.den : Int)), .vec f6 1 ((Sp.limI (c.den : Int)).map (.int .u32))])] []) Q
def pMake_at (f1 f2 f3 f4 f5 f6 : Bool) (a b c : Rat) (Q : AV → Heap → Prop) : Prop := Wp M1 (.run fi9 (atC (cd Try.f9) []) [(0, .agg [.bool (Sp.isNeg a.num), .vec f1 1 ((Sp.limI a.num).map (.int .u32)), .bool (Sp.isNeg (a.den : Int)), .vec f2 1 ((Sp.limI (a.den : Int)).map (.int .u32))]), (1, .agg [.bool (Sp.isNeg b.num), .vec f3 1 ((Sp.limI b.num).map (.int .u32)), .bool (Sp.isNeg (b.den : Int)), .vec f4 1 ((Sp.limI (b.den : Int)).map (.int .u32))]), (2, .agg [.bool (Sp.isNeg c.num), .vec f5 1 ((Sp.limI c.num).map (.int .u32)), .bool (Sp.isNeg (c.den : Int)), .vec f6 1 ((Sp.limI (c.den : Int)).map (.int .u32))])] []) Q
def lInt_at (fa : Bool) (a n : Int) (Q : AV → Heap → Prop) : Prop := Wp M1 (.run fi27 (atC (cd Try.f27) []) [(0, .agg [.bool (Sp.isNeg a), .vec fa 1 ((Sp.limI a).map (.int .u32))]), (1, .int .i64 n)] []) Q
def lSameN_at (e d : Int) (Q : AV → Heap → Prop) : Prop := Wp M1 (.run fi10 (atC (cd Try.f10) []) [(0, .agg [.bool false, .vec false 1 [], .bool false, .vec false 1 [], .bool false, .vec false 1 [], .bool false, .vec false 1 [], .bool false, .vec false 1 [], .bool false, .vec false 1 []]), (1, .int .i64 e), (2, .agg [.bool false, .vec false 1 [], .bool false, .vec false 1 [], .bool false, .vec false 1 [], .bool false, .vec false 1 [], .bool false, .vec false 1 [], .bool false, .vec false 1 []]), (3, .int .i64 d)] []) Q
def lSame_at (f1 f2 f3 f4 f5 f6 g1 g2 g3 g4 g5 g6 : Bool) (a b c x y z : Rat) (e d : Int) (Q : AV → Heap → Prop) : Prop := Wp M1 (.run fi10 (atC (cd Try.f10) []) [(0, .agg [.bool (Sp.isNeg a.num), .vec f1 1 ((Sp.limI a.num).map (.int .u32)), .bool (Sp.isNeg (a.den : Int)), .vec f2 1 ((Sp.limI (a.den : Int)).map (.int .u32)), .bool (Sp.isNeg b.num), .vec f3 1 ((Sp.limI b.num).map (.int .u32)), .bool (Sp.isNeg (b.den : Int)), .vec f4 1 ((Sp.limI (b.den : Int)).map (.int .u32)), .bool (Sp.isNeg c.num), .vec f5 1 ((Sp.limI c.num).map (.int .u32)), .bool (Sp.isNeg (c.den : Int)), .vec f6 1 ((Sp.limI (c.den : Int)).map (.int .u32))]), (1, .int .i64 e), (2, .agg [.bool (Sp.isNeg x.num), .vec g1 1 ((Sp.limI x.num).map (.int .u32)), .bool (Sp.isNeg (x.den : Int)), .vec g2 1 ((Sp.limI (x.den : Int)).map (.int .u32)), .bool (Sp.isNeg y.num), .vec g3 1 ((Sp.limI y.num).map (.int .u32)), .bool (Sp.isNeg (y.den : Int)), .vec g4 1 ((Sp.limI (y.den : Int)).map (.int .u32)), .bool (Sp.isNeg z.num), .vec g5 1 ((Sp.limI z.num).map (.int .u32)), .bool (Sp.isNeg (z.den : Int)), .vec g6 1 ((Sp.limI (z.den : Int)).map (.int .u32))]), (3, .int .i64 d)] []) Q
theorem call9 {args : List AV} {d : AV} (h : Wp M1 (.run fi9 [.code (cd Try.f9)] (argVars 0 args) []) (PureQ d)) : Ev M1 (.pure 9 args) d [] :=
  pure_pq Try.f9 fi9 (by kernel_rfl) (by kernel_rfl) (by kernel_rfl) (by kernel_rfl) h
theorem call10 {args : List AV} {d : AV} (h : Wp M1 (.run fi10 [.code (cd Try.f10)] (argVars 0 args) []) (PureQ d)) : Ev M1 (.pure 10 args) d [] :=
  pure_pq Try.f10 fi10 (by kernel_rfl) (by kernel_rfl) (by kernel_rfl) (by kernel_rfl) h
theorem call26 {args : List AV} {d : AV} (h : Wp M1 (.run fi26 [.code (cd Try.f26)] (argVars 0 args) []) (PureQ d)) : Ev M1 (.pure 26 args) d [] :=
  pure_pq Try.f26 fi26 (by kernel_rfl) (by kernel_rfl) (by kernel_rfl) (by kernel_rfl) h
theorem call27 {args : List AV} {d : AV} (h : Wp M1 (.run fi27 [.code (cd Try.f27)] (argVars 0 args) []) (PureQ d)) : Ev M1 (.pure 27 args) d [] :=
  pure_pq Try.f27 fi27 (by kernel_rfl) (by kernel_rfl) (by kernel_rfl) (by kernel_rfl) h
noncomputable abbrev zNxD1 := ag [vb false, AV.vnil, vb false, AV.vnil, vb false, AV.vnil, vb false, AV.vnil, vb false, AV.vnil, vb false, AV.vnil]
theorem oInv (f1 f2 f3 f4 f5 f6 : Bool) (a b c : Rat)  (dq : AV) (H :
    (Sp.okO a b c) /\
    ((Sp.sgO a b c = 0) -> Weak (tu [ag [vb false, AV.vnil, vb false, AV.vnil, vb false, AV.vnil, vb false, AV.vnil, vb false, AV.vnil, vb false, AV.vnil], vi 6]) dq) /\
    (¬(Sp.sgO a b c = 0) -> (Sp.inI 1) /\
      (Sp.okR (Sp.qi 1) /\ Sp.okR (a * a - b * b * c) /\ (a * a - b * b * c).num ≠ 0) /\
      (Sp.okB b.num) /\
      (Sp.okP a (-b) /\ Sp.okR (Sp.qi 1 / (a * a - b * b * c))) /\
      Weak (tu [rootF (a * (Sp.qi 1 / (a * a - b * b * c))) (-b * (Sp.qi 1 / (a * a - b * b * c))) (Sp.rad (-b * (Sp.qi 1 / (a * a - b * b * c))) c), vi 0]) dq)) :
  oInv_at f1 f2 f3 f4 f5 f6 a b c (PureQ dq) := by
  unfold oInv_at
  obtain ⟨k1, H⟩ := H
  refine path_wp (G := given kp26 [(1, 1, .call (vi (Sp.sgO a b c)) none)] []) 5 [] ⟨(atC (cd Try.f26) [1, 0, 1]), [(1, AV.ptr 0 0 0 0), (2, AV.ptr 1 0 0 0), (8, vb (Sp.sgO a b c == 0))], [⟨[rootA f1 f2 f3 f4 f5 f6 a b c], 12, 0, false, false⟩, ⟨[zNxD1], 12, 0, false, false⟩], _, [], _⟩ (by kernel_rfl) (bc rfl b0) q0 (ce (@ev29 (f1) (f2) (f3) (f4) (f5) (f6) (a) (b) (c) k1) c0) ?_
  rcases xm (Sp.sgO a b c = 0) with d3 | d3
  · have H := H.1 d3
    exact path_rq (G := given kp26 [] []) 1000 [true] (tu [zNxD1, vi 6]) (by kernel_rfl) (bc (beq_t (i_eq.2 d3)) (bc rfl b0)) q0 c0 H
  · have H := H.2 d3
    obtain ⟨k4, H⟩ := H
    obtain ⟨k5, H⟩ := H
    obtain ⟨k6, H⟩ := H
    obtain ⟨k7, H⟩ := H
    exact path_rq (G := given kp26 [(3, 0, .call (ratA false false (Sp.qi 1)) none), (3, 2, .call (ratA false false (a * a - b * b * c)) none), (3, 3, .call (tu [ratA false false (Sp.qi 1 / (a * a - b * b * c)), vi 0]) none), (6, 4, .call (ratA false false (-b)) none), (6, 9, .call (rootF (a * (Sp.qi 1 / (a * a - b * b * c))) (-b * (Sp.qi 1 / (a * a - b * b * c))) (Sp.rad (-b * (Sp.qi 1 / (a * a - b * b * c))) c)) none)] []) 1000 [false, false] (tu [rootF (a * (Sp.qi 1 / (a * a - b * b * c))) (-b * (Sp.qi 1 / (a * a - b * b * c))) (Sp.rad (-b * (Sp.qi 1 / (a * a - b * b * c))) c), vi 0]) (by kernel_rfl) (bc (beq_f (fun h => d3 (i_eq.1 h))) (bc rfl (bc rfl (bc rfl (bc rfl (bc rfl (bc rfl (bc rfl (bc rfl b0))))))))) q0 (ce (@ev50 (1) k4) (ce (@ev51 (f1) (f2) (f3) (f4) (f5) (f6) (a) (b) (c) k1) (ce (@ev49 (false) (false) (false) (false) (Sp.qi 1) (a * a - b * b * c) k5) (ce (@ev53 (f3) (f4) (b) k6) (ce (@ev52 (f1) (f2) (false) (false) (f5) (f6) (false) (false) (a) (-b) (c) (Sp.qi 1 / (a * a - b * b * c)) k7) c0))))) H
noncomputable abbrev zNxD2 := ag [vb false, AV.vnil, vb false, AV.vnil, vb false, AV.vnil, vb false, AV.vnil, vb false, AV.vnil, vb false, AV.vnil]
theorem pMake (f1 f2 f3 f4 f5 f6 : Bool) (a b c : Rat)  (dq : AV) (H :
    ((Sp.sgnI c.num < 0) -> Weak (tu [ag [vb false, AV.vnil, vb false, AV.vnil, vb false, AV.vnil, vb false, AV.vnil, vb false, AV.vnil, vb false, AV.vnil], vi 7]) dq) /\
    (¬(Sp.sgnI c.num < 0) -> ((Sp.rsq c) -> (Sp.okR c) /\
        (Sp.okR b /\ Sp.okR (Sp.rt c)) /\
        (Sp.okR a /\ Sp.okR (b * Sp.rt c)) /\
        Weak (tu [rootF (a + b * Sp.rt c) (Sp.qi 0) (Sp.qi 0), vi 0]) dq) /\
      (¬(Sp.rsq c) -> (Sp.okR c) /\
        Weak (tu [rootF a (Sp.prB b c) (Sp.prC b c), vi 0]) dq))) :
  pMake_at f1 f2 f3 f4 f5 f6 a b c (PureQ dq) := by
  unfold pMake_at
  refine path_wp (G := given kp9 [(1, 1, .call (vi (Sp.sgnI c.num)) none)] []) 5 [] ⟨(atC (cd Try.f9) [1, 0, 1]), [(3, AV.ptr 0 0 0 0), (4, AV.ptr 1 0 0 0), (5, AV.ptr 2 0 0 0), (6, AV.ptr 3 0 0 0), (12, vb (decide (Sp.sgnI c.num < 0)))], [⟨[ratA f1 f2 a], 4, 0, false, false⟩, ⟨[ratA f3 f4 b], 4, 0, false, false⟩, ⟨[ratA f5 f6 c], 4, 0, false, false⟩, ⟨[zNxD2], 12, 0, false, false⟩], _, [], _⟩ (by kernel_rfl) (bc rfl b0) q0 (ce (@ev36 (f5) (f6) (c.num) ((↑c.den : Int))) c0) ?_
  rcases xm (Sp.sgnI c.num < 0) with d2 | d2
  · have H := H.1 d2
    exact path_rq (G := given kp9 [] []) 1000 [true] (tu [zNxD2, vi 7]) (by kernel_rfl) (bc (beq_t (i_dec.2 d2)) (bc rfl b0)) q0 c0 H
  · have H := H.2 d2
    rcases xm (Sp.rsq c) with d3 | d3
    · have H := H.1 d3
      obtain ⟨k4, H⟩ := H
      obtain ⟨k5, H⟩ := H
      obtain ⟨k6, H⟩ := H
      exact path_rq (G := given kp9 [(3, 1, .call (tu [ratA false false (Sp.rt c), vb true]) none), (5, 3, .call (ratA false false (b * Sp.rt c)) none), (5, 4, .call (ratA false false (a + b * Sp.rt c)) none), (5, 5, .call (rootF (a + b * Sp.rt c) (Sp.qi 0) (Sp.qi 0)) none)] []) 1000 [false, true] (tu [rootF (a + b * Sp.rt c) (Sp.qi 0) (Sp.qi 0), vi 0]) (by kernel_rfl) (bc (beq_f (fun h => d2 (i_dec.1 h))) (bc rfl (bc rfl (bc rfl (bc rfl (bc rfl (bc rfl (bc rfl b0)))))))) q0 (ce (@ev37_y (f5) (f6) (c) k4 d3) (ce (@ev39 (f3) (f4) (false) (false) (b) (Sp.rt c) k5) (ce (@ev38 (f1) (f2) (false) (false) (a) (b * Sp.rt c) k6) (ce (@ev13 (false) (false) (a + b * Sp.rt c)) c0)))) H
    · have H := H.2 d3
      obtain ⟨k7, H⟩ := H
      exact path_rq (G := given kp9 [(3, 1, .call (tu [ag [vb false, vf [], vb false, vf []], vb false]) none), (6, 3, .call (rootF a (Sp.prB b c) (Sp.prC b c)) none)] []) 1000 [false, false] (tu [rootF a (Sp.prB b c) (Sp.prC b c), vi 0]) (by kernel_rfl) (bc (beq_f (fun h => d2 (i_dec.1 h))) (bc rfl (bc rfl (bc rfl (bc rfl (bc rfl (bc rfl (bc rfl b0)))))))) q0 (ce (@ev37_n (f5) (f6) (c) k7 d3) (ce (@ev40 (f1) (f2) (f3) (f4) (f5) (f6) (a) (b) (c)) c0)) H
theorem lInt (fa : Bool) (a n : Int)  (dq : AV) (H :
    (Sp.inI n) /\
    (Sp.ok a /\ Sp.ok n) /\
    vb (decide (a = n)) = dq) :
  lInt_at fa a n (PureQ dq) := by
  unfold lInt_at
  obtain ⟨k1, H⟩ := H
  obtain ⟨k2, H⟩ := H
  exact path_re (G := given kp27 [(1, 2, .call (bigA false n) none), (1, 3, .call (vb (decide (a = n))) none)] []) 1000 [] (vb (decide (a = n))) (by kernel_rfl) (bc rfl b0) q0 (ce (@ev46 (n) k1) (ce (@ev43 (fa) (false) (a) (n) k2) c0)) H
noncomputable abbrev zNxD10 := ag [vb false, vf [], vb false, vf [], vb false, vf [], vb false, vf [], vb false, vf [], vb false, vf []]
theorem lSameN (e d : Int)  (dq : AV) (H :
    vb (bif e == d then true else false) = dq) :
  lSameN_at e d (PureQ dq) := by
  unfold lSameN_at
  exact path_re (G := given kp10 [(1, 6, .call (vb true) none)] []) 1000 [] (asm := [!((e == d) == true && true) || true, !((e == d) == true && true) || true]) (calls := [⟨(e == d) == true && true && true, false, 11, [zNxD10, zNxD10], [], vb true, []⟩]) (vb (bif e == d then true else false)) (by kernel_rfl) (bc (Bool.or_true _) (bc (Bool.or_true _) b0)) q0 (cc (fun hc => ((@ev11_a ) : Ev M1 (Conf.pure 11 [zNxD10, zNxD10]) (vb true) [])) c0) H
theorem lSame (f1 f2 f3 f4 f5 f6 g1 g2 g3 g4 g5 g6 : Bool) (a b c x y z : Rat) (e d : Int)  (dq : AV) (H :
    ((e = d) -> (Sp.okO a b c /\ Sp.okO x y z)) /\
    vb (bif e == d then decide (a = x /\ b = y /\ c = z) else false) = dq) :
  lSame_at f1 f2 f3 f4 f5 f6 g1 g2 g3 g4 g5 g6 a b c x y z e d (PureQ dq) := by
  unfold lSame_at
  obtain ⟨k2, H⟩ := H
  exact path_re (G := given kp10 [(1, 6, .call (vb (decide (a = x /\ b = y /\ c = z))) none)] []) 1000 [] (asm := [!((e == d) == true && true) || true, !((e == d) == true && true) || true]) (calls := [⟨(e == d) == true && true && true, false, 11, [rootA f1 f2 f3 f4 f5 f6 a b c, rootA g1 g2 g3 g4 g5 g6 x y z], [], vb (decide (a = x /\ b = y /\ c = z)), []⟩]) (vb (bif e == d then decide (a = x /\ b = y /\ c = z) else false)) (by kernel_rfl) (bc (Bool.or_true _) (bc (Bool.or_true _) b0)) q0 (cc (fun hc => ((@ev11 (f1) (f2) (f3) (f4) (f5) (f6) (g1) (g2) (g3) (g4) (g5) (g6) (a) (b) (c) (x) (y) (z) (k2 ((i_at (i_at (i_bt i_eq))).1 hc))) : Ev M1 (Conf.pure 11 [rootA f1 f2 f3 f4 f5 f6 a b c, rootA g1 g2 g3 g4 g5 g6 x y z]) (vb (decide (a = x /\ b = y /\ c = z))) [])) c0) H
end Go.Av

namespace Go.Av
open Go.Proofs
theorem okT_div {k m : Nat} {r s : Rat} (h : Sp.okT k r) (h2 : Sp.okT m s) (h0 : s.num ≠ 0) : Sp.okT (k + m) (r / s) := by
  have e := divInt_le (p := r.num * (s.den : Int)) (q := (r.den : Int) * s.num) (Int.mul_ne_zero (den_ne r) h0)
  rw [rat_div] at e
  exact ⟨Nat.le_trans (cnt_mono e.1) (cnt_mulI h.1 (cnt_den h2.2)), Nat.le_trans (cnt_mono e.2) (cnt_mulI (cnt_den h.2) h2.1)⟩
def Sp.nrm (a b c : Rat) : Prop := a * a - b * b * c ≠ 0
noncomputable def Sp.ivn (a b c : Rat) : Rat := Sp.qi 1 / (a * a - b * b * c)
theorem okT_norm {a b c : Rat} {k : Nat} (ha : Sp.okT k a) (hb : Sp.okT k b) (hc : Sp.okT k c) : Sp.okT (5 * k + 1) (a * a - b * b * c) :=
  okT_le (okT_sub (okT_mul ha ha) (okT_mul (okT_mul hb hb) hc)) (by omega)
theorem okT_ivn {a b c : Rat} {k : Nat} (ha : Sp.okT k a) (hb : Sp.okT k b) (hc : Sp.okT k c) (h : Sp.nrm a b c) : Sp.okT (5 * k + 4) (Sp.ivn a b c) :=
  okT_le (okT_div (okT_int (n := 1) (by unfold Sp.inI; omega)) (okT_norm ha hb hc) fun e => h (Rat.num_eq_zero.1 e)) (by omega)
theorem ev26_y (f1 f2 f3 f4 f5 f6 : Bool) (a b c : Rat) (h : Sp.okO a b c) (k : Sp.sgO a b c = 0) : Ev M1 (.pure 26 [rootA f1 f2 f3 f4 f5 f6 a b c]) (.tup [noO, .int .i64 6]) [] :=
  call26 (oInv _ _ _ _ _ _ _ _ _ _ ⟨h, fun _ => weak_two weak_no (.refl _), fun x => absurd k x⟩)
theorem ev26_n (f1 f2 f3 f4 f5 f6 : Bool) (a b c : Rat) (h : Sp.okO a b c ∧ Sp.nrm a b c) (k : ¬(Sp.sgO a b c = 0)) : Ev M1 (.pure 26 [rootA f1 f2 f3 f4 f5 f6 a b c]) (.tup [rootF (a * Sp.ivn a b c) (-b * Sp.ivn a b c) (Sp.rad (-b * Sp.ivn a b c) c), .int .i64 0]) [] := by
  obtain ⟨h, hn⟩ := h
  have hh := h
  obtain ⟨ha, hb, hc⟩ := h
  have t1 := okT_norm ha hb hc
  have t2 := okT_ivn ha hb hc hn
  refine call26 (oInv _ _ _ _ _ _ _ _ _ _ ⟨hh, fun x => absurd x k, fun _ => ⟨by unfold Sp.inI; omega, ⟨okT_R (okT_int (by unfold Sp.inI; omega)) (by omega), okT_R t1 (by omega), fun e => hn (Rat.num_eq_zero.1 e)⟩, ?_, ⟨⟨ha, okT_neg hb⟩, okT_R t2 (by omega)⟩, .refl _⟩⟩)
  have := hb.1
  unfold Sp.okB; omega
theorem rsq_zero : Sp.rsq 0 := rsq_of (s := 0) (Rat.mul_zero 0)
theorem ev9_y (f1 f2 f3 f4 f5 f6 : Bool) (a b c : Rat) (h : Sp.okO a b c) (k : Sp.isNN c) : Ev M1 (.pure 9 [ratA f1 f2 a, ratA f3 f4 b, ratA f5 f6 c]) (.tup [rootF (Sp.mkA a b c) (Sp.mkB b c) (Sp.mkC b c), .int .i64 0]) [] := by
  obtain ⟨ha, hb, hc⟩ := h
  refine call9 (pMake _ _ _ _ _ _ _ _ _ _ ⟨fun x => absurd k (nn_sgn.1 x), fun _ => ⟨fun s => ?_, fun s => ?_⟩⟩)
  · have hr := okT_rt s hc
    have hm := okT_mul hb hr
    refine ⟨okT_R hc (by omega), ⟨okT_R hb (by omega), okT_R hr (by omega)⟩, ⟨okT_R ha (by omega), okT_R hm (by omega)⟩, ?_⟩
    rw [show Sp.mkA a b c = a + b * Sp.rt c from if_pos s, show Sp.mkB b c = Sp.qi 0 from if_pos s, show Sp.mkC b c = Sp.qi 0 from if_pos s]
    exact .refl _
  · refine ⟨okT_R hc (by omega), ?_⟩
    have hc0 : c ≠ 0 := fun e => s (by rw [e]; exact rsq_zero)
    have e1 : Sp.prB b c = b := by
      unfold Sp.prB
      by_cases hb0 : b = 0
      · rw [if_pos (.inl hb0), hb0, qi_zero]
      · rw [if_neg fun x => x.elim hb0 hc0]
    have e2 : Sp.prC b c = Sp.rad b c := by
      unfold Sp.prC Sp.rad
      by_cases hb0 : b = 0
      · rw [if_pos (.inl hb0), if_pos hb0]
      · rw [if_neg fun x => x.elim hb0 hc0, if_neg hb0]
    rw [e1, e2, show Sp.mkA a b c = a from if_neg s, show Sp.mkB b c = b from if_neg s, show Sp.mkC b c = Sp.rad b c from if_neg s]
    exact .refl _
theorem ev9_n (f1 f2 f3 f4 f5 f6 : Bool) (a b c : Rat) (h : Sp.okO a b c) (k : ¬(Sp.isNN c)) : Ev M1 (.pure 9 [ratA f1 f2 a, ratA f3 f4 b, ratA f5 f6 c]) (.tup [noO, .int .i64 7]) [] :=
  call9 (pMake _ _ _ _ _ _ _ _ _ _ ⟨fun _ => weak_two weak_no (.refl _), fun x => absurd (nn_sgn.2 k) x⟩)
theorem ok_inI {n : Int} (h : Sp.inI n) : Sp.ok n := by
  have := inI_cnt h
  unfold Sp.ok; omega
theorem ev27 (fa : Bool) (a n : Int) (h : Sp.ok a ∧ Sp.inI n) : Ev M1 (.pure 27 [bigA fa a, .int .i64 n]) (.bool (decide (a = n))) [] :=
  call27 (lInt _ _ _ _ ⟨h.2, ⟨h.1, ok_inI h.2⟩, rfl⟩)
theorem ev10 (f1 f2 f3 f4 f5 f6 g1 g2 g3 g4 g5 g6 : Bool) (a b c x y z : Rat) (e d : Int) (h : Sp.okO a b c ∧ Sp.okO x y z) : Ev M1 (.pure 10 [rootA f1 f2 f3 f4 f5 f6 a b c, .int .i64 e, rootA g1 g2 g3 g4 g5 g6 x y z, .int .i64 d]) (.bool (bif e == d then decide (a = x ∧ b = y ∧ c = z) else false)) [] :=
  call10 (lSame _ _ _ _ _ _ _ _ _ _ _ _ _ _ _ _ _ _ _ _ _ ⟨fun _ => h, rfl⟩)
theorem ev10_a (e d : Int) : Ev M1 (.pure 10 [noO, .int .i64 e, noO, .int .i64 d]) (.bool (bif e == d then true else false)) [] :=
  call10 (lSameN _ _ _ rfl)
end Go.Av

namespace Go.Av
open Go.Proofs
set_option maxRecDepth 100000
def fi19 : Fi := ⟨38, [.cell 2 30]⟩
def kp19 : List (Nat × List Nat) := [(0, [1, 2]), (1, [1, 2, 3]), (2, [1, 2, 3, 4]), (3, [2, 5]), (4, [2])]
def fi24 : Fi := ⟨23, [.cell 6 30, .tmp 7]⟩
def kp24 : List (Nat × List Nat) := [(0, [0, 1, 2, 6]), (1, [6, 8, 9]), (2, [6, 7])]
def pOf_at (a b c d e f : Int) (Q : AV → Heap → Prop) : Prop := Wp M1 (.run fi19 (atC (cd Try.f19) []) [(0, .agg [.int .i16 a, .int .i16 b, .int .u16 c, .int .u8 d, .int .u8 e, .int .u8 f])] []) Q
def lMake_at (a b c : Int) (Q : AV → Heap → Prop) : Prop := Wp M1 (.run fi24 (atC (cd Try.f24) []) [(0, .int .i64 a), (1, .int .i64 b), (2, .int .i64 c)] []) Q
theorem call19 {args : List AV} {d : AV} (h : Wp M1 (.run fi19 [.code (cd Try.f19)] (argVars 0 args) []) (PureQ d)) : Ev M1 (.pure 19 args) d [] :=
  pure_pq Try.f19 fi19 (by kernel_rfl) (by kernel_rfl) (by kernel_rfl) (by kernel_rfl) h
theorem call24 {args : List AV} {d : AV} (h : Wp M1 (.run fi24 [.code (cd Try.f24)] (argVars 0 args) []) (PureQ d)) : Ev M1 (.pure 24 args) d [] :=
  pure_pq Try.f24 fi24 (by kernel_rfl) (by kernel_rfl) (by kernel_rfl) (by kernel_rfl) h
noncomputable abbrev zNxE1 := ag [vb false, vf [], vb false, vf [], vb false, vf [], vb false, vf [], vb false, vf [], vb false, vf []]
theorem pOf (a b c d e f : Int)  (dq : AV) (H :
    (-9223372036854775808 <= a /\ a <= 9223372036854775807) /\
    (-9223372036854775808 <= d /\ d <= 9223372036854775807) /\
    (-9223372036854775808 <= d + 1 /\ d + 1 <= 9223372036854775807) /\
    (Sp.okF a (d + 1)) /\
    (-9223372036854775808 <= b /\ b <= 9223372036854775807) /\
    (-9223372036854775808 <= e /\ e <= 9223372036854775807) /\
    (-9223372036854775808 <= e + 1 /\ e + 1 <= 9223372036854775807) /\
    (Sp.okF b (e + 1)) /\
    (-9223372036854775808 <= c /\ c <= 9223372036854775807) /\
    (-9223372036854775808 <= f /\ f <= 9223372036854775807) /\
    (-9223372036854775808 <= f + 1 /\ f + 1 <= 9223372036854775807) /\
    (Sp.okF c (f + 1)) /\
    ((Sp.isNN (Sp.qf c (f + 1))) -> (Sp.okO (Sp.qf a (d + 1)) (Sp.qf b (e + 1)) (Sp.qf c (f + 1))) /\
      Weak (rootF (Sp.mkA (Sp.qf a (d + 1)) (Sp.qf b (e + 1)) (Sp.qf c (f + 1))) (Sp.mkB (Sp.qf b (e + 1)) (Sp.qf c (f + 1))) (Sp.mkC (Sp.qf b (e + 1)) (Sp.qf c (f + 1)))) dq) /\
    (¬(Sp.isNN (Sp.qf c (f + 1))) -> (Sp.okO (Sp.qf a (d + 1)) (Sp.qf b (e + 1)) (Sp.qf c (f + 1))) /\
      Weak (ag [vb false, vf [], vb false, vf [], vb false, vf [], vb false, vf [], vb false, vf [], vb false, vf []]) dq)) :
  pOf_at a b c d e f (PureQ dq) := by
  unfold pOf_at
  obtain ⟨k1, H⟩ := H
  have w2 : wi a = a := wI64 k1
  obtain ⟨k3, H⟩ := H
  have w4 : wi d = d := wI64 k3
  obtain ⟨k5, H⟩ := H
  have w6 : wi (d + 1) = d + 1 := wI64 k5
  obtain ⟨k7, H⟩ := H
  obtain ⟨k8, H⟩ := H
  have w9 : wi b = b := wI64 k8
  obtain ⟨k10, H⟩ := H
  have w11 : wi e = e := wI64 k10
  obtain ⟨k12, H⟩ := H
  have w13 : wi (e + 1) = e + 1 := wI64 k12
  obtain ⟨k14, H⟩ := H
  obtain ⟨k15, H⟩ := H
  have w16 : wi c = c := wI64 k15
  obtain ⟨k17, H⟩ := H
  have w18 : wi f = f := wI64 k17
  obtain ⟨k19, H⟩ := H
  have w20 : wi (f + 1) = f + 1 := wI64 k19
  obtain ⟨k21, H⟩ := H
  rcases xm (Sp.isNN (Sp.qf c (f + 1))) with d22 | d22
  · have H := H.1 d22
    obtain ⟨k23, H⟩ := H
    exact path_rq (G := given kp19 [(1, 7, .call (ratA false false (Sp.qf a (d + 1))) none), (2, 7, .call (ratA false false (Sp.qf b (e + 1))) none), (3, 9, .call (ratA false false (Sp.qf c (f + 1))) none), (3, 10, .call (tu [rootF (Sp.mkA (Sp.qf a (d + 1)) (Sp.qf b (e + 1)) (Sp.qf c (f + 1))) (Sp.mkB (Sp.qf b (e + 1)) (Sp.qf c (f + 1))) (Sp.mkC (Sp.qf b (e + 1)) (Sp.qf c (f + 1))), vi 0]) none)] []) 1000 [] (calls := [pc 23 [vi (wi a), vi (wi (wi d + 1))] (ratA false false (Sp.qf a (d + 1))), pc 23 [vi (wi b), vi (wi (wi e + 1))] (ratA false false (Sp.qf b (e + 1))), pc 23 [vi (wi c), vi (wi (wi f + 1))] (ratA false false (Sp.qf c (f + 1))), pc 9 [ratA false false (Sp.qf a (d + 1)), ratA false false (Sp.qf b (e + 1)), ratA false false (Sp.qf c (f + 1))] (tu [rootF (Sp.mkA (Sp.qf a (d + 1)) (Sp.qf b (e + 1)) (Sp.qf c (f + 1))) (Sp.mkB (Sp.qf b (e + 1)) (Sp.qf c (f + 1))) (Sp.mkC (Sp.qf b (e + 1)) (Sp.qf c (f + 1))), vi 0])]) (rootF (Sp.mkA (Sp.qf a (d + 1)) (Sp.qf b (e + 1)) (Sp.qf c (f + 1))) (Sp.mkB (Sp.qf b (e + 1)) (Sp.qf c (f + 1))) (Sp.mkC (Sp.qf b (e + 1)) (Sp.qf c (f + 1)))) (by kernel_rfl) (bc rfl (bc rfl (bc rfl (bc rfl (bc rfl (bc rfl (bc rfl (bc rfl (bc rfl (bc rfl (bc rfl (bc rfl (bc rfl b0))))))))))))) q0 (ce (by (try rw [w2]); (try rw [w4]); (try rw [w6]); all_goals exact (@ev23 (a) (d + 1) k7)) (ce (by (try rw [w9]); (try rw [w11]); (try rw [w13]); all_goals exact (@ev23 (b) (e + 1) k14)) (ce (by (try rw [w16]); (try rw [w18]); (try rw [w20]); all_goals exact (@ev23 (c) (f + 1) k21)) (ce (@ev9_y (false) (false) (false) (false) (false) (false) (Sp.qf a (d + 1)) (Sp.qf b (e + 1)) (Sp.qf c (f + 1)) k23 d22) c0)))) H
  · have H := H.2 d22
    obtain ⟨k24, H⟩ := H
    exact path_rq (G := given kp19 [(1, 7, .call (ratA false false (Sp.qf a (d + 1))) none), (2, 7, .call (ratA false false (Sp.qf b (e + 1))) none), (3, 9, .call (ratA false false (Sp.qf c (f + 1))) none), (3, 10, .call (tu [zNxE1, vi 7]) none)] []) 1000 [] (calls := [pc 23 [vi (wi a), vi (wi (wi d + 1))] (ratA false false (Sp.qf a (d + 1))), pc 23 [vi (wi b), vi (wi (wi e + 1))] (ratA false false (Sp.qf b (e + 1))), pc 23 [vi (wi c), vi (wi (wi f + 1))] (ratA false false (Sp.qf c (f + 1))), pc 9 [ratA false false (Sp.qf a (d + 1)), ratA false false (Sp.qf b (e + 1)), ratA false false (Sp.qf c (f + 1))] (tu [zNxE1, vi 7])]) (zNxE1) (by kernel_rfl) (bc rfl (bc rfl (bc rfl (bc rfl (bc rfl (bc rfl (bc rfl (bc rfl (bc rfl (bc rfl (bc rfl (bc rfl (bc rfl b0))))))))))))) q0 (ce (by (try rw [w2]); (try rw [w4]); (try rw [w6]); all_goals exact (@ev23 (a) (d + 1) k7)) (ce (by (try rw [w9]); (try rw [w11]); (try rw [w13]); all_goals exact (@ev23 (b) (e + 1) k14)) (ce (by (try rw [w16]); (try rw [w18]); (try rw [w20]); all_goals exact (@ev23 (c) (f + 1) k21)) (ce (@ev9_n (false) (false) (false) (false) (false) (false) (Sp.qf a (d + 1)) (Sp.qf b (e + 1)) (Sp.qf c (f + 1)) k24 d22) c0)))) H
noncomputable abbrev zNxE2 := ag [vb false, vf [], vb false, vf [], vb false, vf [], vb false, vf [], vb false, vf [], vb false, vf []]
theorem lMake (a b c : Int)  (dq : AV) (H :
    (Sp.inI a) /\
    (Sp.inI b) /\
    (Sp.inI c) /\
    ((Sp.isNN (Sp.qi c)) -> (Sp.okO (Sp.qi a) (Sp.qi b) (Sp.qi c)) /\
      Weak (tu [rootF (Sp.mkA (Sp.qi a) (Sp.qi b) (Sp.qi c)) (Sp.mkB (Sp.qi b) (Sp.qi c)) (Sp.mkC (Sp.qi b) (Sp.qi c)), vb true]) dq) /\
    (¬(Sp.isNN (Sp.qi c)) -> (Sp.okO (Sp.qi a) (Sp.qi b) (Sp.qi c)) /\
      Weak (tu [ag [vb false, vf [], vb false, vf [], vb false, vf [], vb false, vf [], vb false, vf [], vb false, vf []], vb false]) dq)) :
  lMake_at a b c (PureQ dq) := by
  unfold lMake_at
  obtain ⟨k1, H⟩ := H
  obtain ⟨k2, H⟩ := H
  obtain ⟨k3, H⟩ := H
  rcases xm (Sp.isNN (Sp.qi c)) with d4 | d4
  · have H := H.1 d4
    obtain ⟨k5, H⟩ := H
    exact path_rq (G := given kp24 [(1, 1, .call (ratA false false (Sp.qi a)) none), (1, 3, .call (ratA false false (Sp.qi b)) none), (1, 5, .call (ratA false false (Sp.qi c)) none), (1, 6, .call (tu [rootF (Sp.mkA (Sp.qi a) (Sp.qi b) (Sp.qi c)) (Sp.mkB (Sp.qi b) (Sp.qi c)) (Sp.mkC (Sp.qi b) (Sp.qi c)), vi 0]) none)] []) 1000 [] (tu [rootF (Sp.mkA (Sp.qi a) (Sp.qi b) (Sp.qi c)) (Sp.mkB (Sp.qi b) (Sp.qi c)) (Sp.mkC (Sp.qi b) (Sp.qi c)), vb true]) (by kernel_rfl) (bc rfl (bc rfl (bc rfl b0))) q0 (ce (@ev22 (a) k1) (ce (@ev22 (b) k2) (ce (@ev22 (c) k3) (ce (@ev8_y (false) (false) (false) (false) (false) (false) (Sp.qi a) (Sp.qi b) (Sp.qi c) k5 d4) c0)))) H
  · have H := H.2 d4
    obtain ⟨k6, H⟩ := H
    exact path_rq (G := given kp24 [(1, 1, .call (ratA false false (Sp.qi a)) none), (1, 3, .call (ratA false false (Sp.qi b)) none), (1, 5, .call (ratA false false (Sp.qi c)) none), (1, 6, .call (tu [zNxE2, vi 7]) none)] []) 1000 [] (tu [zNxE2, vb false]) (by kernel_rfl) (bc rfl (bc rfl (bc rfl b0))) q0 (ce (@ev22 (a) k1) (ce (@ev22 (b) k2) (ce (@ev22 (c) k3) (ce (@ev8_n (false) (false) (false) (false) (false) (false) (Sp.qi a) (Sp.qi b) (Sp.qi c) k6 d4) c0)))) H
end Go.Av

namespace Go.Av
open Go.Proofs
theorem cnt_le {n m : Nat} {k : Nat} (h : n ≤ m) (hm : Sp.cnt m ≤ k) : Sp.cnt n ≤ k := Nat.le_trans (cnt_mono h) hm
theorem okT_qf {n d : Int} (h : Sp.okF n d) : Sp.okT 3 (Sp.qf n d) := by
  obtain ⟨h1, h2, h3⟩ := h
  obtain ⟨e1, e2⟩ := divInt_le (p := n) h3
  rw [qf_eq]
  exact ⟨cnt_le e1 (inI_cnt h1), cnt_le e2 (inI_cnt h2)⟩
def Sp.okSd (a b c d e f : Int) : Prop := (-32768 ≤ a ∧ a ≤ 32767) ∧ (-32768 ≤ b ∧ b ≤ 32767) ∧ (0 ≤ c ∧ c ≤ 65535) ∧ (0 ≤ d ∧ d ≤ 255) ∧ (0 ≤ e ∧ e ≤ 255) ∧ (0 ≤ f ∧ f ≤ 255)
theorem nn_qf {n d : Int} (h : 0 ≤ n) (hd : 0 < d) : Sp.isNN (Sp.qf n d) := by
  rw [qf_eq]
  obtain ⟨e1, _⟩ := rat_pos (a := n) hd
  unfold Sp.isNN
  rw [e1]
  exact Int.ediv_nonneg h (by omega)
theorem okT_O {a b c : Rat} {k : Nat} (h1 : Sp.okT k a) (h2 : Sp.okT k b) (h3 : Sp.okT k c) (hk : k ≤ 9000) : Sp.okO a b c := ⟨okT_le h1 hk, okT_le h2 hk, okT_le h3 hk⟩
theorem ev19 (a b c d e f : Int) (h : Sp.okSd a b c d e f) : Ev M1 (.pure 19 [.agg [.int .i16 a, .int .i16 b, .int .u16 c, .int .u8 d, .int .u8 e, .int .u8 f]]) (rootF (Sp.mkA (Sp.qf a (d + 1)) (Sp.qf b (e + 1)) (Sp.qf c (f + 1))) (Sp.mkB (Sp.qf b (e + 1)) (Sp.qf c (f + 1))) (Sp.mkC (Sp.qf b (e + 1)) (Sp.qf c (f + 1)))) [] := by
  obtain ⟨ha, hb, hc, hd, he, hf⟩ := h
  have f1 : Sp.okF a (d + 1) := by unfold Sp.okF Sp.inI; omega
  have f2 : Sp.okF b (e + 1) := by unfold Sp.okF Sp.inI; omega
  have f3 : Sp.okF c (f + 1) := by unfold Sp.okF Sp.inI; omega
  have nn := nn_qf (n := c) (d := f + 1) hc.1 (by omega)
  exact call19 (pOf _ _ _ _ _ _ _ ⟨by omega, by omega, by omega, f1, by omega, by omega, by omega, f2, by omega, by omega, by omega, f3, fun _ => ⟨okT_O (okT_qf f1) (okT_qf f2) (okT_qf f3) (by omega), .refl _⟩, fun x => absurd nn x⟩)
def Sp.okM (a b c : Int) : Prop := Sp.inI a ∧ Sp.inI b ∧ Sp.inI c ∧ 0 ≤ c
theorem nn_qi {n : Int} (h : 0 ≤ n) : Sp.isNN (Sp.qi n) := by
  rw [qi_eq]
  unfold Sp.isNN
  rw [Rat.num_intCast]; exact h
theorem ev24 (a b c : Int) (h : Sp.okM a b c) : Ev M1 (.pure 24 [.int .i64 a, .int .i64 b, .int .i64 c]) (.tup [rootF (Sp.mkA (Sp.qi a) (Sp.qi b) (Sp.qi c)) (Sp.mkB (Sp.qi b) (Sp.qi c)) (Sp.mkC (Sp.qi b) (Sp.qi c)), .bool true]) [] := by
  obtain ⟨h1, h2, h3, h4⟩ := h
  exact call24 (lMake _ _ _ _ ⟨h1, h2, h3, fun _ => ⟨okT_O (okT_int h1) (okT_int h2) (okT_int h3) (by omega), .refl _⟩, fun x => absurd (nn_qi h4) x⟩)
end Go.Av

namespace Go.Av
open Go.Proofs
set_option maxRecDepth 100000
def fi6 : Fi := ⟨102, [.tmp 0]⟩
def kp6 : List (Nat × List Nat) := [(0, []), (1, [1, 2]), (2, [1, 2, 3, 4]), (3, [1, 2, 3, 4, 5, 6]), (4, [1, 2, 3, 4, 5, 6, 7, 8]), (5, [5, 7, 60]), (6, [0]), (7, [5, 7, 9, 10]), (8, [5, 7, 9, 10, 11]), (9, [5, 7, 9, 10, 11, 13]), (10, [0])]
def lAwake_at  (Q : AV → Heap → Prop) : Prop := Wp M1 (.run fi6 (atC (cd Try.f6) []) [] []) Q
theorem call6 {args : List AV} {d : AV} (h : Wp M1 (.run fi6 [.code (cd Try.f6)] (argVars 0 args) []) (PureQ d)) : Ev M1 (.pure 6 args) d [] :=
  pure_pq Try.f6 fi6 (by kernel_rfl) (by kernel_rfl) (by kernel_rfl) (by kernel_rfl) h
noncomputable abbrev zNxF1 := Sp.mkA (Sp.qi 1) (Sp.qi 1) (Sp.qi 2) * Sp.ivn (Sp.mkA (Sp.qi 1) (Sp.qi 1) (Sp.qi 2)) (Sp.mkB (Sp.qi 1) (Sp.qi 2)) (Sp.mkC (Sp.qi 1) (Sp.qi 2)) = Sp.mkA (Sp.qf (-1) (0 + 1)) (Sp.qf 1 (0 + 1)) (Sp.qf 2 (0 + 1)) /\ -Sp.mkB (Sp.qi 1) (Sp.qi 2) * Sp.ivn (Sp.mkA (Sp.qi 1) (Sp.qi 1) (Sp.qi 2)) (Sp.mkB (Sp.qi 1) (Sp.qi 2)) (Sp.mkC (Sp.qi 1) (Sp.qi 2)) = Sp.mkB (Sp.qf 1 (0 + 1)) (Sp.qf 2 (0 + 1)) /\ Sp.rad (-Sp.mkB (Sp.qi 1) (Sp.qi 2) * Sp.ivn (Sp.mkA (Sp.qi 1) (Sp.qi 1) (Sp.qi 2)) (Sp.mkB (Sp.qi 1) (Sp.qi 2)) (Sp.mkC (Sp.qi 1) (Sp.qi 2))) (Sp.mkC (Sp.qi 1) (Sp.qi 2)) = Sp.mkC (Sp.qf 1 (0 + 1)) (Sp.qf 2 (0 + 1))
noncomputable abbrev zNxF2 := Sp.mkA (Sp.qi 0) (Sp.qi 1) (Sp.qi 8) = Sp.mkA (Sp.qf 0 (0 + 1)) (Sp.qf 1 (0 + 1)) (Sp.qf 8 (0 + 1)) /\ Sp.mkB (Sp.qi 1) (Sp.qi 8) = Sp.mkB (Sp.qf 1 (0 + 1)) (Sp.qf 8 (0 + 1)) /\ Sp.mkC (Sp.qi 1) (Sp.qi 8) = Sp.mkC (Sp.qf 1 (0 + 1)) (Sp.qf 8 (0 + 1))
noncomputable abbrev zNxF3 := ag [vb false, vf [], vb false, vf [], vb false, vf [], vb false, vf [], vb false, vf [], vb false, vf []]
noncomputable abbrev zNxF4 := Sp.fl (Sp.mkA (Sp.qi 1) (Sp.qi 1) (Sp.qi 2)) (Sp.mkB (Sp.qi 1) (Sp.qi 2)) (Sp.mkC (Sp.qi 1) (Sp.qi 2)) = 2
noncomputable abbrev zNxF5 := Sp.fl (Sp.mkA (Sp.qi 1) (Sp.qi (-1)) (Sp.qi 2)) (Sp.mkB (Sp.qi (-1)) (Sp.qi 2)) (Sp.mkC (Sp.qi (-1)) (Sp.qi 2))
noncomputable abbrev zNxF6 := Sp.fl (Sp.mkA (Sp.qi 1) (Sp.qi (-1)) (Sp.qi 2)) (Sp.mkB (Sp.qi (-1)) (Sp.qi 2)) (Sp.mkC (Sp.qi (-1)) (Sp.qi 2)) = -1
noncomputable abbrev zNxF7 := Sp.fl (Sp.mkA (Sp.qi 1) (Sp.qi 1) (Sp.qi 2)) (Sp.mkB (Sp.qi 1) (Sp.qi 2)) (Sp.mkC (Sp.qi 1) (Sp.qi 2))
noncomputable abbrev zNxF8 := Sp.mkA (Sp.qi 1) (Sp.qi 2) (Sp.qf 9 4) = Sp.qi 4 /\ Sp.mkB (Sp.qi 2) (Sp.qf 9 4) = Sp.qi 0 /\ Sp.mkC (Sp.qi 2) (Sp.qf 9 4) = Sp.qi 0
noncomputable abbrev zNxF9 := Sp.mkA (Sp.qf 0 (0 + 1)) (Sp.qf 1 (0 + 1)) (Sp.qf 8 (0 + 1))
noncomputable abbrev zNxF10 := Sp.sgO (Sp.mkA (Sp.qi 3) (Sp.qi (-2)) (Sp.qi 2)) (Sp.mkB (Sp.qi (-2)) (Sp.qi 2)) (Sp.mkC (Sp.qi (-2)) (Sp.qi 2))
noncomputable abbrev zNxF11 := Sp.sgO (Sp.mkA (Sp.qi 4) (Sp.qi (-3)) (Sp.qi 2)) (Sp.mkB (Sp.qi (-3)) (Sp.qi 2)) (Sp.mkC (Sp.qi (-3)) (Sp.qi 2))
noncomputable abbrev zNxF12 := Sp.mkA (Sp.qf (-1) (0 + 1)) (Sp.qf 1 (0 + 1)) (Sp.qf 2 (0 + 1))
noncomputable abbrev zNxF13 := Sp.rad (-Sp.mkB (Sp.qi 1) (Sp.qi 2) * Sp.ivn (Sp.mkA (Sp.qi 1) (Sp.qi 1) (Sp.qi 2)) (Sp.mkB (Sp.qi 1) (Sp.qi 2)) (Sp.mkC (Sp.qi 1) (Sp.qi 2))) (Sp.mkC (Sp.qi 1) (Sp.qi 2))
noncomputable abbrev zNxF14 := Sp.mkA (Sp.qi 1) (Sp.qi 1) (Sp.qi 2) * Sp.ivn (Sp.mkA (Sp.qi 1) (Sp.qi 1) (Sp.qi 2)) (Sp.mkB (Sp.qi 1) (Sp.qi 2)) (Sp.mkC (Sp.qi 1) (Sp.qi 2))
noncomputable abbrev zNxF15 := ag [AV.int IntKind.i16 (-1), AV.int IntKind.i16 1, AV.int IntKind.u16 2, AV.int IntKind.u8 0, AV.int IntKind.u8 0, AV.int IntKind.u8 0]
noncomputable abbrev zNxF16 := ag [AV.int IntKind.i16 0, AV.int IntKind.i16 1, AV.int IntKind.u16 8, AV.int IntKind.u8 0, AV.int IntKind.u8 0, AV.int IntKind.u8 0]
noncomputable abbrev zNxF17 := bif bif bif decide zNxF1 then decide zNxF4 else false then decide zNxF6 else false then Sp.sgO (Sp.mkA (Sp.qi 3) (Sp.qi (-2)) (Sp.qi 2)) (Sp.mkB (Sp.qi (-2)) (Sp.qi 2)) (Sp.mkC (Sp.qi (-2)) (Sp.qi 2)) == 1 else false
theorem lAwake   (dq : AV) (H :
    (Sp.inI 1) /\
    (Sp.inI 2) /\
    (Sp.okF 9 4) /\
    ((Sp.isNN (Sp.qf 9 4)) -> (Sp.okO (Sp.qi 1) (Sp.qi 2) (Sp.qf 9 4)) /\
      (Sp.okM 0 1 8) /\
      (Sp.okM 1 1 2) /\
      (Sp.okM 1 (-1) 2) /\
      ((¬(false = true)) -> (Sp.inI 4)) /\
      (Sp.okO (Sp.mkA (Sp.qi 1) (Sp.qi 2) (Sp.qf 9 4)) (Sp.mkB (Sp.qi 2) (Sp.qf 9 4)) (Sp.mkC (Sp.qi 2) (Sp.qf 9 4)) /\ Sp.okO (Sp.qi 4) (Sp.qi 0) (Sp.qi 0)) /\
      ((¬(¬(Sp.mkA (Sp.qi 1) (Sp.qi 2) (Sp.qf 9 4) = Sp.qi 4 /\ Sp.mkB (Sp.qi 2) (Sp.qf 9 4) = Sp.qi 0 /\ Sp.mkC (Sp.qi 2) (Sp.qf 9 4) = Sp.qi 0))) -> (Sp.okSd 0 1 8 0 0 0)) /\
      ((¬(¬(Sp.mkA (Sp.qi 1) (Sp.qi 2) (Sp.qf 9 4) = Sp.qi 4 /\ Sp.mkB (Sp.qi 2) (Sp.qf 9 4) = Sp.qi 0 /\ Sp.mkC (Sp.qi 2) (Sp.qf 9 4) = Sp.qi 0))) -> (Sp.okO (Sp.mkA (Sp.qi 0) (Sp.qi 1) (Sp.qi 8)) (Sp.mkB (Sp.qi 1) (Sp.qi 8)) (Sp.mkC (Sp.qi 1) (Sp.qi 8)) /\ Sp.okO (Sp.mkA (Sp.qf 0 (0 + 1)) (Sp.qf 1 (0 + 1)) (Sp.qf 8 (0 + 1))) (Sp.mkB (Sp.qf 1 (0 + 1)) (Sp.qf 8 (0 + 1))) (Sp.mkC (Sp.qf 1 (0 + 1)) (Sp.qf 8 (0 + 1))))) /\
      (((¬(Sp.mkA (Sp.qi 1) (Sp.qi 2) (Sp.qf 9 4) = Sp.qi 4 /\ Sp.mkB (Sp.qi 2) (Sp.qf 9 4) = Sp.qi 0 /\ Sp.mkC (Sp.qi 2) (Sp.qf 9 4) = Sp.qi 0)) ∨ (¬(Sp.mkA (Sp.qi 0) (Sp.qi 1) (Sp.qi 8) = Sp.mkA (Sp.qf 0 (0 + 1)) (Sp.qf 1 (0 + 1)) (Sp.qf 8 (0 + 1)) /\ Sp.mkB (Sp.qi 1) (Sp.qi 8) = Sp.mkB (Sp.qf 1 (0 + 1)) (Sp.qf 8 (0 + 1)) /\ Sp.mkC (Sp.qi 1) (Sp.qi 8) = Sp.mkC (Sp.qf 1 (0 + 1)) (Sp.qf 8 (0 + 1))))) -> vb false = dq) /\
      (¬((¬(Sp.mkA (Sp.qi 1) (Sp.qi 2) (Sp.qf 9 4) = Sp.qi 4 /\ Sp.mkB (Sp.qi 2) (Sp.qf 9 4) = Sp.qi 0 /\ Sp.mkC (Sp.qi 2) (Sp.qf 9 4) = Sp.qi 0)) ∨ (¬(Sp.mkA (Sp.qi 0) (Sp.qi 1) (Sp.qi 8) = Sp.mkA (Sp.qf 0 (0 + 1)) (Sp.qf 1 (0 + 1)) (Sp.qf 8 (0 + 1)) /\ Sp.mkB (Sp.qi 1) (Sp.qi 8) = Sp.mkB (Sp.qf 1 (0 + 1)) (Sp.qf 8 (0 + 1)) /\ Sp.mkC (Sp.qi 1) (Sp.qi 8) = Sp.mkC (Sp.qf 1 (0 + 1)) (Sp.qf 8 (0 + 1))))) -> ((Sp.sgO (Sp.mkA (Sp.qi 1) (Sp.qi 1) (Sp.qi 2)) (Sp.mkB (Sp.qi 1) (Sp.qi 2)) (Sp.mkC (Sp.qi 1) (Sp.qi 2)) = 0) -> (Sp.okO (Sp.mkA (Sp.qi 1) (Sp.qi 1) (Sp.qi 2)) (Sp.mkB (Sp.qi 1) (Sp.qi 2)) (Sp.mkC (Sp.qi 1) (Sp.qi 2))) /\
          (Sp.okM 3 (-2) 2) /\
          (Sp.okM 4 (-3) 2) /\
          ((false = true) -> (Sp.okSd (-1) 1 2 0 0 0)) /\
          ∃ (b1 : Bool),
          ((false = true) -> (Ev M1 (Conf.pure 11 [ag [vb false, vf [], vb false, vf [], vb false, vf [], vb false, vf [], vb false, vf [], vb false, vf []], rootF (Sp.mkA (Sp.qf (-1) (0 + 1)) (Sp.qf 1 (0 + 1)) (Sp.qf 2 (0 + 1))) (Sp.mkB (Sp.qf 1 (0 + 1)) (Sp.qf 2 (0 + 1))) (Sp.mkC (Sp.qf 1 (0 + 1)) (Sp.qf 2 (0 + 1)))]) (vb b1) [])) /\
          ((false = true) -> (Sp.ok (Sp.fl (Sp.mkA (Sp.qi 1) (Sp.qi 1) (Sp.qi 2)) (Sp.mkB (Sp.qi 1) (Sp.qi 2)) (Sp.mkC (Sp.qi 1) (Sp.qi 2))) /\ Sp.inI 2)) /\
          ((false = true) -> (Sp.okO (Sp.mkA (Sp.qi 1) (Sp.qi (-1)) (Sp.qi 2)) (Sp.mkB (Sp.qi (-1)) (Sp.qi 2)) (Sp.mkC (Sp.qi (-1)) (Sp.qi 2)))) /\
          ((false = true) -> (Sp.ok (Sp.fl (Sp.mkA (Sp.qi 1) (Sp.qi (-1)) (Sp.qi 2)) (Sp.mkB (Sp.qi (-1)) (Sp.qi 2)) (Sp.mkC (Sp.qi (-1)) (Sp.qi 2))) /\ Sp.inI (-1))) /\
          ((false = true) -> (Sp.okO (Sp.mkA (Sp.qi 3) (Sp.qi (-2)) (Sp.qi 2)) (Sp.mkB (Sp.qi (-2)) (Sp.qi 2)) (Sp.mkC (Sp.qi (-2)) (Sp.qi 2)))) /\
          ((false = true) -> (Sp.okO (Sp.mkA (Sp.qi 4) (Sp.qi (-3)) (Sp.qi 2)) (Sp.mkB (Sp.qi (-3)) (Sp.qi 2)) (Sp.mkC (Sp.qi (-3)) (Sp.qi 2)))) /\
          vb false = dq) /\
        (¬(Sp.sgO (Sp.mkA (Sp.qi 1) (Sp.qi 1) (Sp.qi 2)) (Sp.mkB (Sp.qi 1) (Sp.qi 2)) (Sp.mkC (Sp.qi 1) (Sp.qi 2)) = 0) -> (Sp.okO (Sp.mkA (Sp.qi 1) (Sp.qi 1) (Sp.qi 2)) (Sp.mkB (Sp.qi 1) (Sp.qi 2)) (Sp.mkC (Sp.qi 1) (Sp.qi 2)) /\ Sp.nrm (Sp.mkA (Sp.qi 1) (Sp.qi 1) (Sp.qi 2)) (Sp.mkB (Sp.qi 1) (Sp.qi 2)) (Sp.mkC (Sp.qi 1) (Sp.qi 2))) /\
          (Sp.okM 3 (-2) 2) /\
          (Sp.okM 4 (-3) 2) /\
          ((true = true) -> (Sp.okSd (-1) 1 2 0 0 0)) /\
          (Sp.okO (Sp.mkA (Sp.qi 1) (Sp.qi 1) (Sp.qi 2) * Sp.ivn (Sp.mkA (Sp.qi 1) (Sp.qi 1) (Sp.qi 2)) (Sp.mkB (Sp.qi 1) (Sp.qi 2)) (Sp.mkC (Sp.qi 1) (Sp.qi 2))) (-Sp.mkB (Sp.qi 1) (Sp.qi 2) * Sp.ivn (Sp.mkA (Sp.qi 1) (Sp.qi 1) (Sp.qi 2)) (Sp.mkB (Sp.qi 1) (Sp.qi 2)) (Sp.mkC (Sp.qi 1) (Sp.qi 2))) (Sp.rad (-Sp.mkB (Sp.qi 1) (Sp.qi 2) * Sp.ivn (Sp.mkA (Sp.qi 1) (Sp.qi 1) (Sp.qi 2)) (Sp.mkB (Sp.qi 1) (Sp.qi 2)) (Sp.mkC (Sp.qi 1) (Sp.qi 2))) (Sp.mkC (Sp.qi 1) (Sp.qi 2))) /\ Sp.okO (Sp.mkA (Sp.qf (-1) (0 + 1)) (Sp.qf 1 (0 + 1)) (Sp.qf 2 (0 + 1))) (Sp.mkB (Sp.qf 1 (0 + 1)) (Sp.qf 2 (0 + 1))) (Sp.mkC (Sp.qf 1 (0 + 1)) (Sp.qf 2 (0 + 1)))) /\
          ((Sp.mkA (Sp.qi 1) (Sp.qi 1) (Sp.qi 2) * Sp.ivn (Sp.mkA (Sp.qi 1) (Sp.qi 1) (Sp.qi 2)) (Sp.mkB (Sp.qi 1) (Sp.qi 2)) (Sp.mkC (Sp.qi 1) (Sp.qi 2)) = Sp.mkA (Sp.qf (-1) (0 + 1)) (Sp.qf 1 (0 + 1)) (Sp.qf 2 (0 + 1)) /\ -Sp.mkB (Sp.qi 1) (Sp.qi 2) * Sp.ivn (Sp.mkA (Sp.qi 1) (Sp.qi 1) (Sp.qi 2)) (Sp.mkB (Sp.qi 1) (Sp.qi 2)) (Sp.mkC (Sp.qi 1) (Sp.qi 2)) = Sp.mkB (Sp.qf 1 (0 + 1)) (Sp.qf 2 (0 + 1)) /\ Sp.rad (-Sp.mkB (Sp.qi 1) (Sp.qi 2) * Sp.ivn (Sp.mkA (Sp.qi 1) (Sp.qi 1) (Sp.qi 2)) (Sp.mkB (Sp.qi 1) (Sp.qi 2)) (Sp.mkC (Sp.qi 1) (Sp.qi 2))) (Sp.mkC (Sp.qi 1) (Sp.qi 2)) = Sp.mkC (Sp.qf 1 (0 + 1)) (Sp.qf 2 (0 + 1))) -> (Sp.okO (Sp.mkA (Sp.qi 1) (Sp.qi 1) (Sp.qi 2)) (Sp.mkB (Sp.qi 1) (Sp.qi 2)) (Sp.mkC (Sp.qi 1) (Sp.qi 2)))) /\
          ((Sp.mkA (Sp.qi 1) (Sp.qi 1) (Sp.qi 2) * Sp.ivn (Sp.mkA (Sp.qi 1) (Sp.qi 1) (Sp.qi 2)) (Sp.mkB (Sp.qi 1) (Sp.qi 2)) (Sp.mkC (Sp.qi 1) (Sp.qi 2)) = Sp.mkA (Sp.qf (-1) (0 + 1)) (Sp.qf 1 (0 + 1)) (Sp.qf 2 (0 + 1)) /\ -Sp.mkB (Sp.qi 1) (Sp.qi 2) * Sp.ivn (Sp.mkA (Sp.qi 1) (Sp.qi 1) (Sp.qi 2)) (Sp.mkB (Sp.qi 1) (Sp.qi 2)) (Sp.mkC (Sp.qi 1) (Sp.qi 2)) = Sp.mkB (Sp.qf 1 (0 + 1)) (Sp.qf 2 (0 + 1)) /\ Sp.rad (-Sp.mkB (Sp.qi 1) (Sp.qi 2) * Sp.ivn (Sp.mkA (Sp.qi 1) (Sp.qi 1) (Sp.qi 2)) (Sp.mkB (Sp.qi 1) (Sp.qi 2)) (Sp.mkC (Sp.qi 1) (Sp.qi 2))) (Sp.mkC (Sp.qi 1) (Sp.qi 2)) = Sp.mkC (Sp.qf 1 (0 + 1)) (Sp.qf 2 (0 + 1))) -> (Sp.ok (Sp.fl (Sp.mkA (Sp.qi 1) (Sp.qi 1) (Sp.qi 2)) (Sp.mkB (Sp.qi 1) (Sp.qi 2)) (Sp.mkC (Sp.qi 1) (Sp.qi 2))) /\ Sp.inI 2)) /\
          (((Sp.mkA (Sp.qi 1) (Sp.qi 1) (Sp.qi 2) * Sp.ivn (Sp.mkA (Sp.qi 1) (Sp.qi 1) (Sp.qi 2)) (Sp.mkB (Sp.qi 1) (Sp.qi 2)) (Sp.mkC (Sp.qi 1) (Sp.qi 2)) = Sp.mkA (Sp.qf (-1) (0 + 1)) (Sp.qf 1 (0 + 1)) (Sp.qf 2 (0 + 1)) /\ -Sp.mkB (Sp.qi 1) (Sp.qi 2) * Sp.ivn (Sp.mkA (Sp.qi 1) (Sp.qi 1) (Sp.qi 2)) (Sp.mkB (Sp.qi 1) (Sp.qi 2)) (Sp.mkC (Sp.qi 1) (Sp.qi 2)) = Sp.mkB (Sp.qf 1 (0 + 1)) (Sp.qf 2 (0 + 1)) /\ Sp.rad (-Sp.mkB (Sp.qi 1) (Sp.qi 2) * Sp.ivn (Sp.mkA (Sp.qi 1) (Sp.qi 1) (Sp.qi 2)) (Sp.mkB (Sp.qi 1) (Sp.qi 2)) (Sp.mkC (Sp.qi 1) (Sp.qi 2))) (Sp.mkC (Sp.qi 1) (Sp.qi 2)) = Sp.mkC (Sp.qf 1 (0 + 1)) (Sp.qf 2 (0 + 1))) /\ (Sp.fl (Sp.mkA (Sp.qi 1) (Sp.qi 1) (Sp.qi 2)) (Sp.mkB (Sp.qi 1) (Sp.qi 2)) (Sp.mkC (Sp.qi 1) (Sp.qi 2)) = 2)) -> (Sp.okO (Sp.mkA (Sp.qi 1) (Sp.qi (-1)) (Sp.qi 2)) (Sp.mkB (Sp.qi (-1)) (Sp.qi 2)) (Sp.mkC (Sp.qi (-1)) (Sp.qi 2)))) /\
          (((Sp.mkA (Sp.qi 1) (Sp.qi 1) (Sp.qi 2) * Sp.ivn (Sp.mkA (Sp.qi 1) (Sp.qi 1) (Sp.qi 2)) (Sp.mkB (Sp.qi 1) (Sp.qi 2)) (Sp.mkC (Sp.qi 1) (Sp.qi 2)) = Sp.mkA (Sp.qf (-1) (0 + 1)) (Sp.qf 1 (0 + 1)) (Sp.qf 2 (0 + 1)) /\ -Sp.mkB (Sp.qi 1) (Sp.qi 2) * Sp.ivn (Sp.mkA (Sp.qi 1) (Sp.qi 1) (Sp.qi 2)) (Sp.mkB (Sp.qi 1) (Sp.qi 2)) (Sp.mkC (Sp.qi 1) (Sp.qi 2)) = Sp.mkB (Sp.qf 1 (0 + 1)) (Sp.qf 2 (0 + 1)) /\ Sp.rad (-Sp.mkB (Sp.qi 1) (Sp.qi 2) * Sp.ivn (Sp.mkA (Sp.qi 1) (Sp.qi 1) (Sp.qi 2)) (Sp.mkB (Sp.qi 1) (Sp.qi 2)) (Sp.mkC (Sp.qi 1) (Sp.qi 2))) (Sp.mkC (Sp.qi 1) (Sp.qi 2)) = Sp.mkC (Sp.qf 1 (0 + 1)) (Sp.qf 2 (0 + 1))) /\ (Sp.fl (Sp.mkA (Sp.qi 1) (Sp.qi 1) (Sp.qi 2)) (Sp.mkB (Sp.qi 1) (Sp.qi 2)) (Sp.mkC (Sp.qi 1) (Sp.qi 2)) = 2)) -> (Sp.ok (Sp.fl (Sp.mkA (Sp.qi 1) (Sp.qi (-1)) (Sp.qi 2)) (Sp.mkB (Sp.qi (-1)) (Sp.qi 2)) (Sp.mkC (Sp.qi (-1)) (Sp.qi 2))) /\ Sp.inI (-1))) /\
          ((((Sp.mkA (Sp.qi 1) (Sp.qi 1) (Sp.qi 2) * Sp.ivn (Sp.mkA (Sp.qi 1) (Sp.qi 1) (Sp.qi 2)) (Sp.mkB (Sp.qi 1) (Sp.qi 2)) (Sp.mkC (Sp.qi 1) (Sp.qi 2)) = Sp.mkA (Sp.qf (-1) (0 + 1)) (Sp.qf 1 (0 + 1)) (Sp.qf 2 (0 + 1)) /\ -Sp.mkB (Sp.qi 1) (Sp.qi 2) * Sp.ivn (Sp.mkA (Sp.qi 1) (Sp.qi 1) (Sp.qi 2)) (Sp.mkB (Sp.qi 1) (Sp.qi 2)) (Sp.mkC (Sp.qi 1) (Sp.qi 2)) = Sp.mkB (Sp.qf 1 (0 + 1)) (Sp.qf 2 (0 + 1)) /\ Sp.rad (-Sp.mkB (Sp.qi 1) (Sp.qi 2) * Sp.ivn (Sp.mkA (Sp.qi 1) (Sp.qi 1) (Sp.qi 2)) (Sp.mkB (Sp.qi 1) (Sp.qi 2)) (Sp.mkC (Sp.qi 1) (Sp.qi 2))) (Sp.mkC (Sp.qi 1) (Sp.qi 2)) = Sp.mkC (Sp.qf 1 (0 + 1)) (Sp.qf 2 (0 + 1))) /\ (Sp.fl (Sp.mkA (Sp.qi 1) (Sp.qi 1) (Sp.qi 2)) (Sp.mkB (Sp.qi 1) (Sp.qi 2)) (Sp.mkC (Sp.qi 1) (Sp.qi 2)) = 2)) /\ (Sp.fl (Sp.mkA (Sp.qi 1) (Sp.qi (-1)) (Sp.qi 2)) (Sp.mkB (Sp.qi (-1)) (Sp.qi 2)) (Sp.mkC (Sp.qi (-1)) (Sp.qi 2)) = -1)) -> (Sp.okO (Sp.mkA (Sp.qi 3) (Sp.qi (-2)) (Sp.qi 2)) (Sp.mkB (Sp.qi (-2)) (Sp.qi 2)) (Sp.mkC (Sp.qi (-2)) (Sp.qi 2)))) /\
          (((((Sp.mkA (Sp.qi 1) (Sp.qi 1) (Sp.qi 2) * Sp.ivn (Sp.mkA (Sp.qi 1) (Sp.qi 1) (Sp.qi 2)) (Sp.mkB (Sp.qi 1) (Sp.qi 2)) (Sp.mkC (Sp.qi 1) (Sp.qi 2)) = Sp.mkA (Sp.qf (-1) (0 + 1)) (Sp.qf 1 (0 + 1)) (Sp.qf 2 (0 + 1)) /\ -Sp.mkB (Sp.qi 1) (Sp.qi 2) * Sp.ivn (Sp.mkA (Sp.qi 1) (Sp.qi 1) (Sp.qi 2)) (Sp.mkB (Sp.qi 1) (Sp.qi 2)) (Sp.mkC (Sp.qi 1) (Sp.qi 2)) = Sp.mkB (Sp.qf 1 (0 + 1)) (Sp.qf 2 (0 + 1)) /\ Sp.rad (-Sp.mkB (Sp.qi 1) (Sp.qi 2) * Sp.ivn (Sp.mkA (Sp.qi 1) (Sp.qi 1) (Sp.qi 2)) (Sp.mkB (Sp.qi 1) (Sp.qi 2)) (Sp.mkC (Sp.qi 1) (Sp.qi 2))) (Sp.mkC (Sp.qi 1) (Sp.qi 2)) = Sp.mkC (Sp.qf 1 (0 + 1)) (Sp.qf 2 (0 + 1))) /\ (Sp.fl (Sp.mkA (Sp.qi 1) (Sp.qi 1) (Sp.qi 2)) (Sp.mkB (Sp.qi 1) (Sp.qi 2)) (Sp.mkC (Sp.qi 1) (Sp.qi 2)) = 2)) /\ (Sp.fl (Sp.mkA (Sp.qi 1) (Sp.qi (-1)) (Sp.qi 2)) (Sp.mkB (Sp.qi (-1)) (Sp.qi 2)) (Sp.mkC (Sp.qi (-1)) (Sp.qi 2)) = -1)) /\ (Sp.sgO (Sp.mkA (Sp.qi 3) (Sp.qi (-2)) (Sp.qi 2)) (Sp.mkB (Sp.qi (-2)) (Sp.qi 2)) (Sp.mkC (Sp.qi (-2)) (Sp.qi 2)) = 1)) -> (Sp.okO (Sp.mkA (Sp.qi 4) (Sp.qi (-3)) (Sp.qi 2)) (Sp.mkB (Sp.qi (-3)) (Sp.qi 2)) (Sp.mkC (Sp.qi (-3)) (Sp.qi 2)))) /\
          vb (bif bif bif bif decide (Sp.mkA (Sp.qi 1) (Sp.qi 1) (Sp.qi 2) * Sp.ivn (Sp.mkA (Sp.qi 1) (Sp.qi 1) (Sp.qi 2)) (Sp.mkB (Sp.qi 1) (Sp.qi 2)) (Sp.mkC (Sp.qi 1) (Sp.qi 2)) = Sp.mkA (Sp.qf (-1) (0 + 1)) (Sp.qf 1 (0 + 1)) (Sp.qf 2 (0 + 1)) /\ -Sp.mkB (Sp.qi 1) (Sp.qi 2) * Sp.ivn (Sp.mkA (Sp.qi 1) (Sp.qi 1) (Sp.qi 2)) (Sp.mkB (Sp.qi 1) (Sp.qi 2)) (Sp.mkC (Sp.qi 1) (Sp.qi 2)) = Sp.mkB (Sp.qf 1 (0 + 1)) (Sp.qf 2 (0 + 1)) /\ Sp.rad (-Sp.mkB (Sp.qi 1) (Sp.qi 2) * Sp.ivn (Sp.mkA (Sp.qi 1) (Sp.qi 1) (Sp.qi 2)) (Sp.mkB (Sp.qi 1) (Sp.qi 2)) (Sp.mkC (Sp.qi 1) (Sp.qi 2))) (Sp.mkC (Sp.qi 1) (Sp.qi 2)) = Sp.mkC (Sp.qf 1 (0 + 1)) (Sp.qf 2 (0 + 1))) then decide (Sp.fl (Sp.mkA (Sp.qi 1) (Sp.qi 1) (Sp.qi 2)) (Sp.mkB (Sp.qi 1) (Sp.qi 2)) (Sp.mkC (Sp.qi 1) (Sp.qi 2)) = 2) else false then decide (Sp.fl (Sp.mkA (Sp.qi 1) (Sp.qi (-1)) (Sp.qi 2)) (Sp.mkB (Sp.qi (-1)) (Sp.qi 2)) (Sp.mkC (Sp.qi (-1)) (Sp.qi 2)) = -1) else false then Sp.sgO (Sp.mkA (Sp.qi 3) (Sp.qi (-2)) (Sp.qi 2)) (Sp.mkB (Sp.qi (-2)) (Sp.qi 2)) (Sp.mkC (Sp.qi (-2)) (Sp.qi 2)) == 1 else false then Sp.sgO (Sp.mkA (Sp.qi 4) (Sp.qi (-3)) (Sp.qi 2)) (Sp.mkB (Sp.qi (-3)) (Sp.qi 2)) (Sp.mkC (Sp.qi (-3)) (Sp.qi 2)) == -1 else false) = dq))) /\
    (¬(Sp.isNN (Sp.qf 9 4)) -> (Sp.okO (Sp.qi 1) (Sp.qi 2) (Sp.qf 9 4)) /\
      (Sp.okM 0 1 8) /\
      (Sp.okM 1 1 2) /\
      (Sp.okM 1 (-1) 2) /\
      ((¬(true = true)) -> (Sp.inI 4)) /\
      ∃ (b2 : Bool),
      ((false = true) -> (Ev M1 (Conf.pure 11 [ag [vb false, vf [], vb false, vf [], vb false, vf [], vb false, vf [], vb false, vf [], vb false, vf []], rootF (Sp.qi 4) (Sp.qi 0) (Sp.qi 0)]) (vb b2) [])) /\
      ((false = true) -> (Sp.okSd 0 1 8 0 0 0)) /\
      ((false = true) -> (Sp.okO (Sp.mkA (Sp.qi 0) (Sp.qi 1) (Sp.qi 8)) (Sp.mkB (Sp.qi 1) (Sp.qi 8)) (Sp.mkC (Sp.qi 1) (Sp.qi 8)) /\ Sp.okO (Sp.mkA (Sp.qf 0 (0 + 1)) (Sp.qf 1 (0 + 1)) (Sp.qf 8 (0 + 1))) (Sp.mkB (Sp.qf 1 (0 + 1)) (Sp.qf 8 (0 + 1))) (Sp.mkC (Sp.qf 1 (0 + 1)) (Sp.qf 8 (0 + 1))))) /\
      vb false = dq)) :
  lAwake_at  (PureQ dq) := by
  unfold lAwake_at
  obtain ⟨k1, H⟩ := H
  obtain ⟨k2, H⟩ := H
  obtain ⟨k3, H⟩ := H
  rcases xm (Sp.isNN (Sp.qf 9 4)) with d4 | d4
  · have H := H.1 d4
    obtain ⟨k5, H⟩ := H
    obtain ⟨k6, H⟩ := H
    obtain ⟨k7, H⟩ := H
    obtain ⟨k8, H⟩ := H
    obtain ⟨k10, H⟩ := H
    obtain ⟨k11, H⟩ := H
    obtain ⟨k13, H⟩ := H
    obtain ⟨k15, H⟩ := H
    refine path_wp (G := given kp6 [(1, 0, .call (ratA false false (Sp.qi 1)) none), (1, 1, .call (ratA false false (Sp.qi 2)) none), (1, 2, .call (ratA false false (Sp.qf 9 4)) none), (1, 3, .call (tu [rootF (Sp.mkA (Sp.qi 1) (Sp.qi 2) (Sp.qf 9 4)) (Sp.mkB (Sp.qi 2) (Sp.qf 9 4)) (Sp.mkC (Sp.qi 2) (Sp.qf 9 4)), vi 0]) none), (2, 0, .call (tu [rootF (Sp.mkA (Sp.qi 0) (Sp.qi 1) (Sp.qi 8)) (Sp.mkB (Sp.qi 1) (Sp.qi 8)) (Sp.mkC (Sp.qi 1) (Sp.qi 8)), vb true]) none), (3, 0, .call (tu [rootF (Sp.mkA (Sp.qi 1) (Sp.qi 1) (Sp.qi 2)) (Sp.mkB (Sp.qi 1) (Sp.qi 2)) (Sp.mkC (Sp.qi 1) (Sp.qi 2)), vb true]) none), (4, 0, .call (tu [rootF (Sp.mkA (Sp.qi 1) (Sp.qi (-1)) (Sp.qi 2)) (Sp.mkB (Sp.qi (-1)) (Sp.qi 2)) (Sp.mkC (Sp.qi (-1)) (Sp.qi 2)), vb true]) none), (5, 16, .call (rootF (Sp.qi 4) (Sp.qi 0) (Sp.qi 0)) none), (5, 17, .call (vb (decide zNxF8)) none), (5, 23, .call (rootF zNxF9 (Sp.mkB (Sp.qf 1 (0 + 1)) (Sp.qf 8 (0 + 1))) (Sp.mkC (Sp.qf 1 (0 + 1)) (Sp.qf 8 (0 + 1)))) none), (5, 24, .call (vb (decide zNxF2)) none)] []) 13 [] ⟨(atC (cd Try.f6) [1, 1, 1, 1, 1, 0, 1]), [(5, AV.ptr 2 0 0 0), (7, AV.ptr 3 0 0 0), (60, vb (bif !decide zNxF8 then true else !decide zNxF2))], [⟨[rootF (Sp.mkA (Sp.qi 1) (Sp.qi 2) (Sp.qf 9 4)) (Sp.mkB (Sp.qi 2) (Sp.qf 9 4)) (Sp.mkC (Sp.qi 2) (Sp.qf 9 4))], 12, 0, false, false⟩, ⟨[rootF (Sp.mkA (Sp.qi 0) (Sp.qi 1) (Sp.qi 8)) (Sp.mkB (Sp.qi 1) (Sp.qi 8)) (Sp.mkC (Sp.qi 1) (Sp.qi 8))], 12, 0, false, false⟩, ⟨[rootF (Sp.mkA (Sp.qi 1) (Sp.qi 1) (Sp.qi 2)) (Sp.mkB (Sp.qi 1) (Sp.qi 2)) (Sp.mkC (Sp.qi 1) (Sp.qi 2))], 12, 0, false, false⟩, ⟨[rootF (Sp.mkA (Sp.qi 1) (Sp.qi (-1)) (Sp.qi 2)) (Sp.mkB (Sp.qi (-1)) (Sp.qi 2)) (Sp.mkC (Sp.qi (-1)) (Sp.qi 2))], 12, 0, false, false⟩], [true, true, true, true, true, !((!decide zNxF8) == false && true) || true], [], [⟨true, false, 22, [vi 1], [], ratA false false (Sp.qi 1), []⟩, ⟨true, false, 22, [vi 2], [], ratA false false (Sp.qi 2), []⟩, ⟨true, false, 23, [vi 9, vi 4], [], ratA false false (Sp.qf 9 4), []⟩, ⟨true, false, 8, [ratA false false (Sp.qi 1), ratA false false (Sp.qi 2), ratA false false (Sp.qf 9 4)], [], tu [rootF (Sp.mkA (Sp.qi 1) (Sp.qi 2) (Sp.qf 9 4)) (Sp.mkB (Sp.qi 2) (Sp.qf 9 4)) (Sp.mkC (Sp.qi 2) (Sp.qf 9 4)), vi 0], []⟩, ⟨true, false, 24, [vi 0, vi 1, vi 8], [], tu [rootF (Sp.mkA (Sp.qi 0) (Sp.qi 1) (Sp.qi 8)) (Sp.mkB (Sp.qi 1) (Sp.qi 8)) (Sp.mkC (Sp.qi 1) (Sp.qi 8)), vb true], []⟩, ⟨true, false, 24, [vi 1, vi 1, vi 2], [], tu [rootF (Sp.mkA (Sp.qi 1) (Sp.qi 1) (Sp.qi 2)) (Sp.mkB (Sp.qi 1) (Sp.qi 2)) (Sp.mkC (Sp.qi 1) (Sp.qi 2)), vb true], []⟩, ⟨true, false, 24, [vi 1, vi (-1), vi 2], [], tu [rootF (Sp.mkA (Sp.qi 1) (Sp.qi (-1)) (Sp.qi 2)) (Sp.mkB (Sp.qi (-1)) (Sp.qi 2)) (Sp.mkC (Sp.qi (-1)) (Sp.qi 2)), vb true], []⟩, ⟨false == false && true && true, false, 25, [vi 4], [], rootF (Sp.qi 4) (Sp.qi 0) (Sp.qi 0), []⟩, ⟨true, false, 11, [rootF (Sp.mkA (Sp.qi 1) (Sp.qi 2) (Sp.qf 9 4)) (Sp.mkB (Sp.qi 2) (Sp.qf 9 4)) (Sp.mkC (Sp.qi 2) (Sp.qf 9 4)), rootF (Sp.qi 4) (Sp.qi 0) (Sp.qi 0)], [], vb (decide zNxF8), []⟩, ⟨(!decide zNxF8) == false && true && true, false, 19, [zNxF16], [], rootF zNxF9 (Sp.mkB (Sp.qf 1 (0 + 1)) (Sp.qf 8 (0 + 1))) (Sp.mkC (Sp.qf 1 (0 + 1)) (Sp.qf 8 (0 + 1))), []⟩, ⟨(!decide zNxF8) == false && true && true, false, 11, [rootF (Sp.mkA (Sp.qi 0) (Sp.qi 1) (Sp.qi 8)) (Sp.mkB (Sp.qi 1) (Sp.qi 8)) (Sp.mkC (Sp.qi 1) (Sp.qi 8)), rootF zNxF9 (Sp.mkB (Sp.qf 1 (0 + 1)) (Sp.qf 8 (0 + 1))) (Sp.mkC (Sp.qf 1 (0 + 1)) (Sp.qf 8 (0 + 1)))], [], vb (decide zNxF2), []⟩]⟩ (by kernel_rfl) (bc rfl (bc rfl (bc rfl (bc rfl (bc rfl (bc (Bool.or_true _) b0)))))) q0 (cc (fun _ => (@ev22 (1) k1)) (cc (fun _ => (@ev22 (2) k2)) (cc (fun _ => (@ev23 (9) (4) k3)) (cc (fun _ => (@ev8_y (false) (false) (false) (false) (false) (false) (Sp.qi 1) (Sp.qi 2) (Sp.qf 9 4) k5 d4)) (cc (fun _ => (@ev24 (0) (1) (8) k6)) (cc (fun _ => (@ev24 (1) (1) (2) k7)) (cc (fun _ => (@ev24 (1) (-1) (2) k8)) (cc (fun hc => ((@ev25 (4) (k10 ((i_at (i_at (i_bf (i_var _)))).1 hc))) : Ev M1 (Conf.pure 25 [vi 4]) (rootF (Sp.qi 4) (Sp.qi 0) (Sp.qi 0)) [])) (cc (fun _ => (@ev11 (false) (false) (false) (false) (false) (false) (false) (false) (false) (false) (false) (false) (Sp.mkA (Sp.qi 1) (Sp.qi 2) (Sp.qf 9 4)) (Sp.mkB (Sp.qi 2) (Sp.qf 9 4)) (Sp.mkC (Sp.qi 2) (Sp.qf 9 4)) (Sp.qi 4) (Sp.qi 0) (Sp.qi 0) k11)) (cc (fun hc => ((@ev19 (0) (1) (8) (0) (0) (0) (k13 ((i_at (i_at (i_bf (i_not i_dec)))).1 hc))) : Ev M1 (Conf.pure 19 [zNxF16]) (rootF zNxF9 (Sp.mkB (Sp.qf 1 (0 + 1)) (Sp.qf 8 (0 + 1))) (Sp.mkC (Sp.qf 1 (0 + 1)) (Sp.qf 8 (0 + 1)))) [])) (cc (fun hc => ((@ev11 (false) (false) (false) (false) (false) (false) (false) (false) (false) (false) (false) (false) (Sp.mkA (Sp.qi 0) (Sp.qi 1) (Sp.qi 8)) (Sp.mkB (Sp.qi 1) (Sp.qi 8)) (Sp.mkC (Sp.qi 1) (Sp.qi 8)) zNxF9 (Sp.mkB (Sp.qf 1 (0 + 1)) (Sp.qf 8 (0 + 1))) (Sp.mkC (Sp.qf 1 (0 + 1)) (Sp.qf 8 (0 + 1))) (k15 ((i_at (i_at (i_bf (i_not i_dec)))).1 hc))) : Ev M1 (Conf.pure 11 [rootF (Sp.mkA (Sp.qi 0) (Sp.qi 1) (Sp.qi 8)) (Sp.mkB (Sp.qi 1) (Sp.qi 8)) (Sp.mkC (Sp.qi 1) (Sp.qi 8)), rootF zNxF9 (Sp.mkB (Sp.qf 1 (0 + 1)) (Sp.qf 8 (0 + 1))) (Sp.mkC (Sp.qf 1 (0 + 1)) (Sp.qf 8 (0 + 1)))]) (vb (decide zNxF2)) [])) c0))))))))))) ?_
    rcases xm ((¬zNxF8) ∨ (¬zNxF2)) with d17 | d17
    · have H := H.1 d17
      exact path_re (G := given kp6 [] []) 1000 [true] (vb false) (by kernel_rfl) (bc (beq_t ((i_bor (i_not i_dec) (i_not i_dec)).2 d17)) b0) q0 c0 H
    · have H := H.2 d17
      rcases xm (Sp.sgO (Sp.mkA (Sp.qi 1) (Sp.qi 1) (Sp.qi 2)) (Sp.mkB (Sp.qi 1) (Sp.qi 2)) (Sp.mkC (Sp.qi 1) (Sp.qi 2)) = 0) with d18 | d18
      · have H := H.1 d18
        obtain ⟨k19, H⟩ := H
        obtain ⟨k20, H⟩ := H
        obtain ⟨k21, H⟩ := H
        obtain ⟨k23, H⟩ := H
        obtain ⟨b1, H⟩ := H
        obtain ⟨k25, H⟩ := H
        obtain ⟨k28, H⟩ := H
        obtain ⟨k30, H⟩ := H
        obtain ⟨k32, H⟩ := H
        obtain ⟨k34, H⟩ := H
        obtain ⟨k36, H⟩ := H
        exact path_re (G := given kp6 [(7, 1, .call (tu [zNxF3, vi 6]) none), (8, 0, .call (tu [rootF (Sp.mkA (Sp.qi 3) (Sp.qi (-2)) (Sp.qi 2)) (Sp.mkB (Sp.qi (-2)) (Sp.qi 2)) (Sp.mkC (Sp.qi (-2)) (Sp.qi 2)), vb true]) none), (9, 0, .call (tu [rootF (Sp.mkA (Sp.qi 4) (Sp.qi (-3)) (Sp.qi 2)) (Sp.mkB (Sp.qi (-3)) (Sp.qi 2)) (Sp.mkC (Sp.qi (-3)) (Sp.qi 2)), vb true]) none), (10, 5, .call (rootF zNxF12 (Sp.mkB (Sp.qf 1 (0 + 1)) (Sp.qf 2 (0 + 1))) (Sp.mkC (Sp.qf 1 (0 + 1)) (Sp.qf 2 (0 + 1)))) none), (10, 6, .call (vb b1) none), (10, 10, .call (bigA false zNxF7) none), (10, 11, .call (vb (decide zNxF4)) none), (10, 15, .call (bigA false zNxF5) none), (10, 16, .call (vb (decide zNxF6)) none), (10, 20, .call (vi zNxF10) none), (10, 25, .call (vi zNxF11) none)] []) 1000 [false] (calls := [⟨true, false, 26, [rootF (Sp.mkA (Sp.qi 1) (Sp.qi 1) (Sp.qi 2)) (Sp.mkB (Sp.qi 1) (Sp.qi 2)) (Sp.mkC (Sp.qi 1) (Sp.qi 2))], [], tu [zNxF3, vi 6], []⟩, ⟨true, false, 24, [vi 3, vi (-2), vi 2], [], tu [rootF (Sp.mkA (Sp.qi 3) (Sp.qi (-2)) (Sp.qi 2)) (Sp.mkB (Sp.qi (-2)) (Sp.qi 2)) (Sp.mkC (Sp.qi (-2)) (Sp.qi 2)), vb true], []⟩, ⟨true, false, 24, [vi 4, vi (-3), vi 2], [], tu [rootF (Sp.mkA (Sp.qi 4) (Sp.qi (-3)) (Sp.qi 2)) (Sp.mkB (Sp.qi (-3)) (Sp.qi 2)) (Sp.mkC (Sp.qi (-3)) (Sp.qi 2)), vb true], []⟩, ⟨false == true && true && true, false, 19, [zNxF15], [], rootF zNxF12 (Sp.mkB (Sp.qf 1 (0 + 1)) (Sp.qf 2 (0 + 1))) (Sp.mkC (Sp.qf 1 (0 + 1)) (Sp.qf 2 (0 + 1))), []⟩, ⟨false, false, 11, [zNxF3, rootF zNxF12 (Sp.mkB (Sp.qf 1 (0 + 1)) (Sp.qf 2 (0 + 1))) (Sp.mkC (Sp.qf 1 (0 + 1)) (Sp.qf 2 (0 + 1)))], [], vb b1, []⟩, ⟨false, false, 28, [rootF (Sp.mkA (Sp.qi 1) (Sp.qi 1) (Sp.qi 2)) (Sp.mkB (Sp.qi 1) (Sp.qi 2)) (Sp.mkC (Sp.qi 1) (Sp.qi 2))], [], bigA false zNxF7, []⟩, ⟨false, false, 27, [bigA false zNxF7, vi 2], [], vb (decide zNxF4), []⟩, ⟨false, false, 28, [rootF (Sp.mkA (Sp.qi 1) (Sp.qi (-1)) (Sp.qi 2)) (Sp.mkB (Sp.qi (-1)) (Sp.qi 2)) (Sp.mkC (Sp.qi (-1)) (Sp.qi 2))], [], bigA false zNxF5, []⟩, ⟨false, false, 27, [bigA false zNxF5, vi (-1)], [], vb (decide zNxF6), []⟩, ⟨false, false, 29, [rootF (Sp.mkA (Sp.qi 3) (Sp.qi (-2)) (Sp.qi 2)) (Sp.mkB (Sp.qi (-2)) (Sp.qi 2)) (Sp.mkC (Sp.qi (-2)) (Sp.qi 2))], [], vi zNxF10, []⟩, ⟨false, false, 29, [rootF (Sp.mkA (Sp.qi 4) (Sp.qi (-3)) (Sp.qi 2)) (Sp.mkB (Sp.qi (-3)) (Sp.qi 2)) (Sp.mkC (Sp.qi (-3)) (Sp.qi 2))], [], vi zNxF11, []⟩]) (vb false) (by kernel_rfl) (bc (beq_f (fun h => d17 ((i_bor (i_not i_dec) (i_not i_dec)).1 h))) (bc rfl (bc rfl (bc rfl (bc rfl (bc rfl (bc rfl (bc rfl (bc rfl (bc rfl b0)))))))))) q0 (cc (fun _ => (@ev26_y (false) (false) (false) (false) (false) (false) (Sp.mkA (Sp.qi 1) (Sp.qi 1) (Sp.qi 2)) (Sp.mkB (Sp.qi 1) (Sp.qi 2)) (Sp.mkC (Sp.qi 1) (Sp.qi 2)) k19 d18)) (cc (fun _ => (@ev24 (3) (-2) (2) k20)) (cc (fun _ => (@ev24 (4) (-3) (2) k21)) (cc (fun hc => ((@ev19 (-1) (1) (2) (0) (0) (0) (k23 ((i_at (i_at (i_bt (i_var _)))).1 hc))) : Ev M1 (Conf.pure 19 [zNxF15]) (rootF zNxF12 (Sp.mkB (Sp.qf 1 (0 + 1)) (Sp.qf 2 (0 + 1))) (Sp.mkC (Sp.qf 1 (0 + 1)) (Sp.qf 2 (0 + 1)))) [])) (cc (fun hc => ((k25 ((i_var _).1 hc)) : Ev M1 (Conf.pure 11 [zNxF3, rootF zNxF12 (Sp.mkB (Sp.qf 1 (0 + 1)) (Sp.qf 2 (0 + 1))) (Sp.mkC (Sp.qf 1 (0 + 1)) (Sp.qf 2 (0 + 1)))]) (vb b1) [])) (cc (fun hc => ((@ev28 (false) (false) (false) (false) (false) (false) (Sp.mkA (Sp.qi 1) (Sp.qi 1) (Sp.qi 2)) (Sp.mkB (Sp.qi 1) (Sp.qi 2)) (Sp.mkC (Sp.qi 1) (Sp.qi 2)) k19) : Ev M1 (Conf.pure 28 [rootF (Sp.mkA (Sp.qi 1) (Sp.qi 1) (Sp.qi 2)) (Sp.mkB (Sp.qi 1) (Sp.qi 2)) (Sp.mkC (Sp.qi 1) (Sp.qi 2))]) (bigA false zNxF7) [])) (cc (fun hc => ((@ev27 (false) zNxF7 (2) (k28 ((i_var _).1 hc))) : Ev M1 (Conf.pure 27 [bigA false zNxF7, vi 2]) (vb (decide zNxF4)) [])) (cc (fun hc => ((@ev28 (false) (false) (false) (false) (false) (false) (Sp.mkA (Sp.qi 1) (Sp.qi (-1)) (Sp.qi 2)) (Sp.mkB (Sp.qi (-1)) (Sp.qi 2)) (Sp.mkC (Sp.qi (-1)) (Sp.qi 2)) (k30 ((i_var _).1 hc))) : Ev M1 (Conf.pure 28 [rootF (Sp.mkA (Sp.qi 1) (Sp.qi (-1)) (Sp.qi 2)) (Sp.mkB (Sp.qi (-1)) (Sp.qi 2)) (Sp.mkC (Sp.qi (-1)) (Sp.qi 2))]) (bigA false zNxF5) [])) (cc (fun hc => ((@ev27 (false) zNxF5 (-1) (k32 ((i_var _).1 hc))) : Ev M1 (Conf.pure 27 [bigA false zNxF5, vi (-1)]) (vb (decide zNxF6)) [])) (cc (fun hc => ((@ev29 (false) (false) (false) (false) (false) (false) (Sp.mkA (Sp.qi 3) (Sp.qi (-2)) (Sp.qi 2)) (Sp.mkB (Sp.qi (-2)) (Sp.qi 2)) (Sp.mkC (Sp.qi (-2)) (Sp.qi 2)) (k34 ((i_var _).1 hc))) : Ev M1 (Conf.pure 29 [rootF (Sp.mkA (Sp.qi 3) (Sp.qi (-2)) (Sp.qi 2)) (Sp.mkB (Sp.qi (-2)) (Sp.qi 2)) (Sp.mkC (Sp.qi (-2)) (Sp.qi 2))]) (vi zNxF10) [])) (cc (fun hc => ((@ev29 (false) (false) (false) (false) (false) (false) (Sp.mkA (Sp.qi 4) (Sp.qi (-3)) (Sp.qi 2)) (Sp.mkB (Sp.qi (-3)) (Sp.qi 2)) (Sp.mkC (Sp.qi (-3)) (Sp.qi 2)) (k36 ((i_var _).1 hc))) : Ev M1 (Conf.pure 29 [rootF (Sp.mkA (Sp.qi 4) (Sp.qi (-3)) (Sp.qi 2)) (Sp.mkB (Sp.qi (-3)) (Sp.qi 2)) (Sp.mkC (Sp.qi (-3)) (Sp.qi 2))]) (vi zNxF11) [])) c0))))))))))) H
      · have H := H.2 d18
        obtain ⟨k37, H⟩ := H
        obtain ⟨k38, H⟩ := H
        obtain ⟨k39, H⟩ := H
        obtain ⟨k41, H⟩ := H
        obtain ⟨k42, H⟩ := H
        obtain ⟨k44, H⟩ := H
        obtain ⟨k46, H⟩ := H
        obtain ⟨k48, H⟩ := H
        obtain ⟨k50, H⟩ := H
        obtain ⟨k52, H⟩ := H
        obtain ⟨k54, H⟩ := H
        exact path_re (G := given kp6 [(7, 1, .call (tu [rootF zNxF14 (-Sp.mkB (Sp.qi 1) (Sp.qi 2) * Sp.ivn (Sp.mkA (Sp.qi 1) (Sp.qi 1) (Sp.qi 2)) (Sp.mkB (Sp.qi 1) (Sp.qi 2)) (Sp.mkC (Sp.qi 1) (Sp.qi 2))) zNxF13, vi 0]) none), (8, 0, .call (tu [rootF (Sp.mkA (Sp.qi 3) (Sp.qi (-2)) (Sp.qi 2)) (Sp.mkB (Sp.qi (-2)) (Sp.qi 2)) (Sp.mkC (Sp.qi (-2)) (Sp.qi 2)), vb true]) none), (9, 0, .call (tu [rootF (Sp.mkA (Sp.qi 4) (Sp.qi (-3)) (Sp.qi 2)) (Sp.mkB (Sp.qi (-3)) (Sp.qi 2)) (Sp.mkC (Sp.qi (-3)) (Sp.qi 2)), vb true]) none), (10, 5, .call (rootF zNxF12 (Sp.mkB (Sp.qf 1 (0 + 1)) (Sp.qf 2 (0 + 1))) (Sp.mkC (Sp.qf 1 (0 + 1)) (Sp.qf 2 (0 + 1)))) none), (10, 6, .call (vb (decide zNxF1)) none), (10, 10, .call (bigA false zNxF7) none), (10, 11, .call (vb (decide zNxF4)) none), (10, 15, .call (bigA false zNxF5) none), (10, 16, .call (vb (decide zNxF6)) none), (10, 20, .call (vi zNxF10) none), (10, 25, .call (vi zNxF11) none)] []) 1000 [false] (asm := [(bif !decide zNxF8 then true else !decide zNxF2) == false, true, true, true, true, true, !(decide zNxF1 == true && true) || true, !((bif decide zNxF1 then decide zNxF4 else false) == true && true) || true, !((bif bif decide zNxF1 then decide zNxF4 else false then decide zNxF6 else false) == true && true) || true, !(zNxF17 == true && true) || true]) (calls := [⟨true, false, 26, [rootF (Sp.mkA (Sp.qi 1) (Sp.qi 1) (Sp.qi 2)) (Sp.mkB (Sp.qi 1) (Sp.qi 2)) (Sp.mkC (Sp.qi 1) (Sp.qi 2))], [], tu [rootF zNxF14 (-Sp.mkB (Sp.qi 1) (Sp.qi 2) * Sp.ivn (Sp.mkA (Sp.qi 1) (Sp.qi 1) (Sp.qi 2)) (Sp.mkB (Sp.qi 1) (Sp.qi 2)) (Sp.mkC (Sp.qi 1) (Sp.qi 2))) zNxF13, vi 0], []⟩, ⟨true, false, 24, [vi 3, vi (-2), vi 2], [], tu [rootF (Sp.mkA (Sp.qi 3) (Sp.qi (-2)) (Sp.qi 2)) (Sp.mkB (Sp.qi (-2)) (Sp.qi 2)) (Sp.mkC (Sp.qi (-2)) (Sp.qi 2)), vb true], []⟩, ⟨true, false, 24, [vi 4, vi (-3), vi 2], [], tu [rootF (Sp.mkA (Sp.qi 4) (Sp.qi (-3)) (Sp.qi 2)) (Sp.mkB (Sp.qi (-3)) (Sp.qi 2)) (Sp.mkC (Sp.qi (-3)) (Sp.qi 2)), vb true], []⟩, ⟨true == true && true && true, false, 19, [zNxF15], [], rootF zNxF12 (Sp.mkB (Sp.qf 1 (0 + 1)) (Sp.qf 2 (0 + 1))) (Sp.mkC (Sp.qf 1 (0 + 1)) (Sp.qf 2 (0 + 1))), []⟩, ⟨true, false, 11, [rootF zNxF14 (-Sp.mkB (Sp.qi 1) (Sp.qi 2) * Sp.ivn (Sp.mkA (Sp.qi 1) (Sp.qi 1) (Sp.qi 2)) (Sp.mkB (Sp.qi 1) (Sp.qi 2)) (Sp.mkC (Sp.qi 1) (Sp.qi 2))) zNxF13, rootF zNxF12 (Sp.mkB (Sp.qf 1 (0 + 1)) (Sp.qf 2 (0 + 1))) (Sp.mkC (Sp.qf 1 (0 + 1)) (Sp.qf 2 (0 + 1)))], [], vb (decide zNxF1), []⟩, ⟨decide zNxF1 == true && true && true, false, 28, [rootF (Sp.mkA (Sp.qi 1) (Sp.qi 1) (Sp.qi 2)) (Sp.mkB (Sp.qi 1) (Sp.qi 2)) (Sp.mkC (Sp.qi 1) (Sp.qi 2))], [], bigA false zNxF7, []⟩, ⟨decide zNxF1 == true && true && true, false, 27, [bigA false zNxF7, vi 2], [], vb (decide zNxF4), []⟩, ⟨(bif decide zNxF1 then decide zNxF4 else false) == true && true && true, false, 28, [rootF (Sp.mkA (Sp.qi 1) (Sp.qi (-1)) (Sp.qi 2)) (Sp.mkB (Sp.qi (-1)) (Sp.qi 2)) (Sp.mkC (Sp.qi (-1)) (Sp.qi 2))], [], bigA false zNxF5, []⟩, ⟨(bif decide zNxF1 then decide zNxF4 else false) == true && true && true, false, 27, [bigA false zNxF5, vi (-1)], [], vb (decide zNxF6), []⟩, ⟨(bif bif decide zNxF1 then decide zNxF4 else false then decide zNxF6 else false) == true && true && true, false, 29, [rootF (Sp.mkA (Sp.qi 3) (Sp.qi (-2)) (Sp.qi 2)) (Sp.mkB (Sp.qi (-2)) (Sp.qi 2)) (Sp.mkC (Sp.qi (-2)) (Sp.qi 2))], [], vi zNxF10, []⟩, ⟨zNxF17 == true && true && true, false, 29, [rootF (Sp.mkA (Sp.qi 4) (Sp.qi (-3)) (Sp.qi 2)) (Sp.mkB (Sp.qi (-3)) (Sp.qi 2)) (Sp.mkC (Sp.qi (-3)) (Sp.qi 2))], [], vi zNxF11, []⟩]) (vb (bif bif bif bif decide zNxF1 then decide zNxF4 else false then decide zNxF6 else false then Sp.sgO (Sp.mkA (Sp.qi 3) (Sp.qi (-2)) (Sp.qi 2)) (Sp.mkB (Sp.qi (-2)) (Sp.qi 2)) (Sp.mkC (Sp.qi (-2)) (Sp.qi 2)) == 1 else false then Sp.sgO (Sp.mkA (Sp.qi 4) (Sp.qi (-3)) (Sp.qi 2)) (Sp.mkB (Sp.qi (-3)) (Sp.qi 2)) (Sp.mkC (Sp.qi (-3)) (Sp.qi 2)) == -1 else false)) (by kernel_rfl) (bc (beq_f (fun h => d17 ((i_bor (i_not i_dec) (i_not i_dec)).1 h))) (bc rfl (bc rfl (bc rfl (bc rfl (bc rfl (bc (Bool.or_true _) (bc (Bool.or_true _) (bc (Bool.or_true _) (bc (Bool.or_true _) b0)))))))))) q0 (cc (fun _ => (@ev26_n (false) (false) (false) (false) (false) (false) (Sp.mkA (Sp.qi 1) (Sp.qi 1) (Sp.qi 2)) (Sp.mkB (Sp.qi 1) (Sp.qi 2)) (Sp.mkC (Sp.qi 1) (Sp.qi 2)) k37 d18)) (cc (fun _ => (@ev24 (3) (-2) (2) k38)) (cc (fun _ => (@ev24 (4) (-3) (2) k39)) (cc (fun hc => ((@ev19 (-1) (1) (2) (0) (0) (0) (k41 ((i_at (i_at (i_bt (i_var _)))).1 hc))) : Ev M1 (Conf.pure 19 [zNxF15]) (rootF zNxF12 (Sp.mkB (Sp.qf 1 (0 + 1)) (Sp.qf 2 (0 + 1))) (Sp.mkC (Sp.qf 1 (0 + 1)) (Sp.qf 2 (0 + 1)))) [])) (cc (fun _ => (@ev11 (false) (false) (false) (false) (false) (false) (false) (false) (false) (false) (false) (false) zNxF14 (-Sp.mkB (Sp.qi 1) (Sp.qi 2) * Sp.ivn (Sp.mkA (Sp.qi 1) (Sp.qi 1) (Sp.qi 2)) (Sp.mkB (Sp.qi 1) (Sp.qi 2)) (Sp.mkC (Sp.qi 1) (Sp.qi 2))) zNxF13 zNxF12 (Sp.mkB (Sp.qf 1 (0 + 1)) (Sp.qf 2 (0 + 1))) (Sp.mkC (Sp.qf 1 (0 + 1)) (Sp.qf 2 (0 + 1))) k42)) (cc (fun hc => ((@ev28 (false) (false) (false) (false) (false) (false) (Sp.mkA (Sp.qi 1) (Sp.qi 1) (Sp.qi 2)) (Sp.mkB (Sp.qi 1) (Sp.qi 2)) (Sp.mkC (Sp.qi 1) (Sp.qi 2)) (k44 ((i_at (i_at (i_bt i_dec))).1 hc))) : Ev M1 (Conf.pure 28 [rootF (Sp.mkA (Sp.qi 1) (Sp.qi 1) (Sp.qi 2)) (Sp.mkB (Sp.qi 1) (Sp.qi 2)) (Sp.mkC (Sp.qi 1) (Sp.qi 2))]) (bigA false zNxF7) [])) (cc (fun hc => ((@ev27 (false) zNxF7 (2) (k46 ((i_at (i_at (i_bt i_dec))).1 hc))) : Ev M1 (Conf.pure 27 [bigA false zNxF7, vi 2]) (vb (decide zNxF4)) [])) (cc (fun hc => ((@ev28 (false) (false) (false) (false) (false) (false) (Sp.mkA (Sp.qi 1) (Sp.qi (-1)) (Sp.qi 2)) (Sp.mkB (Sp.qi (-1)) (Sp.qi 2)) (Sp.mkC (Sp.qi (-1)) (Sp.qi 2)) (k48 ((i_at (i_at (i_bt (i_band i_dec i_dec)))).1 hc))) : Ev M1 (Conf.pure 28 [rootF (Sp.mkA (Sp.qi 1) (Sp.qi (-1)) (Sp.qi 2)) (Sp.mkB (Sp.qi (-1)) (Sp.qi 2)) (Sp.mkC (Sp.qi (-1)) (Sp.qi 2))]) (bigA false zNxF5) [])) (cc (fun hc => ((@ev27 (false) zNxF5 (-1) (k50 ((i_at (i_at (i_bt (i_band i_dec i_dec)))).1 hc))) : Ev M1 (Conf.pure 27 [bigA false zNxF5, vi (-1)]) (vb (decide zNxF6)) [])) (cc (fun hc => ((@ev29 (false) (false) (false) (false) (false) (false) (Sp.mkA (Sp.qi 3) (Sp.qi (-2)) (Sp.qi 2)) (Sp.mkB (Sp.qi (-2)) (Sp.qi 2)) (Sp.mkC (Sp.qi (-2)) (Sp.qi 2)) (k52 ((i_at (i_at (i_bt (i_band (i_band i_dec i_dec) i_dec)))).1 hc))) : Ev M1 (Conf.pure 29 [rootF (Sp.mkA (Sp.qi 3) (Sp.qi (-2)) (Sp.qi 2)) (Sp.mkB (Sp.qi (-2)) (Sp.qi 2)) (Sp.mkC (Sp.qi (-2)) (Sp.qi 2))]) (vi zNxF10) [])) (cc (fun hc => ((@ev29 (false) (false) (false) (false) (false) (false) (Sp.mkA (Sp.qi 4) (Sp.qi (-3)) (Sp.qi 2)) (Sp.mkB (Sp.qi (-3)) (Sp.qi 2)) (Sp.mkC (Sp.qi (-3)) (Sp.qi 2)) (k54 ((i_at (i_at (i_bt (i_band (i_band (i_band i_dec i_dec) i_dec) i_eq)))).1 hc))) : Ev M1 (Conf.pure 29 [rootF (Sp.mkA (Sp.qi 4) (Sp.qi (-3)) (Sp.qi 2)) (Sp.mkB (Sp.qi (-3)) (Sp.qi 2)) (Sp.mkC (Sp.qi (-3)) (Sp.qi 2))]) (vi zNxF11) [])) c0))))))))))) H
  · have H := H.2 d4
    obtain ⟨k55, H⟩ := H
    obtain ⟨k56, H⟩ := H
    obtain ⟨k57, H⟩ := H
    obtain ⟨k58, H⟩ := H
    obtain ⟨k60, H⟩ := H
    obtain ⟨b2, H⟩ := H
    obtain ⟨k62, H⟩ := H
    obtain ⟨k64, H⟩ := H
    obtain ⟨k66, H⟩ := H
    exact path_re (G := given kp6 [(1, 0, .call (ratA false false (Sp.qi 1)) none), (1, 1, .call (ratA false false (Sp.qi 2)) none), (1, 2, .call (ratA false false (Sp.qf 9 4)) none), (1, 3, .call (tu [zNxF3, vi 7]) none), (2, 0, .call (tu [rootF (Sp.mkA (Sp.qi 0) (Sp.qi 1) (Sp.qi 8)) (Sp.mkB (Sp.qi 1) (Sp.qi 8)) (Sp.mkC (Sp.qi 1) (Sp.qi 8)), vb true]) none), (3, 0, .call (tu [rootF (Sp.mkA (Sp.qi 1) (Sp.qi 1) (Sp.qi 2)) (Sp.mkB (Sp.qi 1) (Sp.qi 2)) (Sp.mkC (Sp.qi 1) (Sp.qi 2)), vb true]) none), (4, 0, .call (tu [rootF (Sp.mkA (Sp.qi 1) (Sp.qi (-1)) (Sp.qi 2)) (Sp.mkB (Sp.qi (-1)) (Sp.qi 2)) (Sp.mkC (Sp.qi (-1)) (Sp.qi 2)), vb true]) none), (5, 16, .call (rootF (Sp.qi 4) (Sp.qi 0) (Sp.qi 0)) none), (5, 17, .call (vb b2) none), (5, 23, .call (rootF zNxF9 (Sp.mkB (Sp.qf 1 (0 + 1)) (Sp.qf 8 (0 + 1))) (Sp.mkC (Sp.qf 1 (0 + 1)) (Sp.qf 8 (0 + 1)))) none), (5, 24, .call (vb (decide zNxF2)) none)] []) 1000 [true] (calls := [⟨true, false, 22, [vi 1], [], ratA false false (Sp.qi 1), []⟩, ⟨true, false, 22, [vi 2], [], ratA false false (Sp.qi 2), []⟩, ⟨true, false, 23, [vi 9, vi 4], [], ratA false false (Sp.qf 9 4), []⟩, ⟨true, false, 8, [ratA false false (Sp.qi 1), ratA false false (Sp.qi 2), ratA false false (Sp.qf 9 4)], [], tu [zNxF3, vi 7], []⟩, ⟨true, false, 24, [vi 0, vi 1, vi 8], [], tu [rootF (Sp.mkA (Sp.qi 0) (Sp.qi 1) (Sp.qi 8)) (Sp.mkB (Sp.qi 1) (Sp.qi 8)) (Sp.mkC (Sp.qi 1) (Sp.qi 8)), vb true], []⟩, ⟨true, false, 24, [vi 1, vi 1, vi 2], [], tu [rootF (Sp.mkA (Sp.qi 1) (Sp.qi 1) (Sp.qi 2)) (Sp.mkB (Sp.qi 1) (Sp.qi 2)) (Sp.mkC (Sp.qi 1) (Sp.qi 2)), vb true], []⟩, ⟨true, false, 24, [vi 1, vi (-1), vi 2], [], tu [rootF (Sp.mkA (Sp.qi 1) (Sp.qi (-1)) (Sp.qi 2)) (Sp.mkB (Sp.qi (-1)) (Sp.qi 2)) (Sp.mkC (Sp.qi (-1)) (Sp.qi 2)), vb true], []⟩, ⟨true == false && true && true, false, 25, [vi 4], [], rootF (Sp.qi 4) (Sp.qi 0) (Sp.qi 0), []⟩, ⟨false, false, 11, [zNxF3, rootF (Sp.qi 4) (Sp.qi 0) (Sp.qi 0)], [], vb b2, []⟩, ⟨false, false, 19, [zNxF16], [], rootF zNxF9 (Sp.mkB (Sp.qf 1 (0 + 1)) (Sp.qf 8 (0 + 1))) (Sp.mkC (Sp.qf 1 (0 + 1)) (Sp.qf 8 (0 + 1))), []⟩, ⟨false, false, 11, [rootF (Sp.mkA (Sp.qi 0) (Sp.qi 1) (Sp.qi 8)) (Sp.mkB (Sp.qi 1) (Sp.qi 8)) (Sp.mkC (Sp.qi 1) (Sp.qi 8)), rootF zNxF9 (Sp.mkB (Sp.qf 1 (0 + 1)) (Sp.qf 8 (0 + 1))) (Sp.mkC (Sp.qf 1 (0 + 1)) (Sp.qf 8 (0 + 1)))], [], vb (decide zNxF2), []⟩]) (vb false) (by kernel_rfl) (bc rfl (bc rfl (bc rfl (bc rfl (bc rfl (bc rfl (bc rfl b0))))))) q0 (cc (fun _ => (@ev22 (1) k1)) (cc (fun _ => (@ev22 (2) k2)) (cc (fun _ => (@ev23 (9) (4) k3)) (cc (fun _ => (@ev8_n (false) (false) (false) (false) (false) (false) (Sp.qi 1) (Sp.qi 2) (Sp.qf 9 4) k55 d4)) (cc (fun _ => (@ev24 (0) (1) (8) k56)) (cc (fun _ => (@ev24 (1) (1) (2) k57)) (cc (fun _ => (@ev24 (1) (-1) (2) k58)) (cc (fun hc => ((@ev25 (4) (k60 ((i_at (i_at (i_bf (i_var _)))).1 hc))) : Ev M1 (Conf.pure 25 [vi 4]) (rootF (Sp.qi 4) (Sp.qi 0) (Sp.qi 0)) [])) (cc (fun hc => ((k62 ((i_var _).1 hc)) : Ev M1 (Conf.pure 11 [zNxF3, rootF (Sp.qi 4) (Sp.qi 0) (Sp.qi 0)]) (vb b2) [])) (cc (fun hc => ((@ev19 (0) (1) (8) (0) (0) (0) (k64 ((i_var _).1 hc))) : Ev M1 (Conf.pure 19 [zNxF16]) (rootF zNxF9 (Sp.mkB (Sp.qf 1 (0 + 1)) (Sp.qf 8 (0 + 1))) (Sp.mkC (Sp.qf 1 (0 + 1)) (Sp.qf 8 (0 + 1)))) [])) (cc (fun hc => ((@ev11 (false) (false) (false) (false) (false) (false) (false) (false) (false) (false) (false) (false) (Sp.mkA (Sp.qi 0) (Sp.qi 1) (Sp.qi 8)) (Sp.mkB (Sp.qi 1) (Sp.qi 8)) (Sp.mkC (Sp.qi 1) (Sp.qi 8)) zNxF9 (Sp.mkB (Sp.qf 1 (0 + 1)) (Sp.qf 8 (0 + 1))) (Sp.mkC (Sp.qf 1 (0 + 1)) (Sp.qf 8 (0 + 1))) (k66 ((i_var _).1 hc))) : Ev M1 (Conf.pure 11 [rootF (Sp.mkA (Sp.qi 0) (Sp.qi 1) (Sp.qi 8)) (Sp.mkB (Sp.qi 1) (Sp.qi 8)) (Sp.mkC (Sp.qi 1) (Sp.qi 8)), rootF zNxF9 (Sp.mkB (Sp.qf 1 (0 + 1)) (Sp.qf 8 (0 + 1))) (Sp.mkC (Sp.qf 1 (0 + 1)) (Sp.qf 8 (0 + 1)))]) (vb (decide zNxF2)) [])) c0))))))))))) H
end Go.Av

namespace Go.Av
open Go.Proofs
theorem sq_of {a r : Nat} (h1 : r * r ≤ a) (h2 : a < (r + 1) * (r + 1)) : Sp.sq (a : Int) = r := by
  unfold Sp.sq
  rw [if_neg (by omega), Int.natAbs_natCast, isqrt_eq ⟨h1, h2⟩]
theorem nsq_int {n r : Nat} (h1 : r * r < n) (h2 : n < (r + 1) * (r + 1)) : ¬Sp.rsq (Sp.qi (n : Int)) := by
  intro h
  have := ((isSq_iff _).1 h.1).2
  rw [qi_eq, Rat.num_intCast, sq_of (Nat.le_of_lt h1) h2] at this
  have e : ((r * r : Nat) : Int) = (n : Int) := by rw [Int.natCast_mul]; exact this
  omega
theorem mk_ns {c : Rat} (h : ¬Sp.rsq c) (a b : Rat) : Sp.mkA a b c = a ∧ Sp.mkB b c = b ∧ Sp.mkC b c = Sp.rad b c := ⟨if_neg h, if_neg h, if_neg h⟩
theorem qf_one (n : Int) : Sp.qf n (0 + 1) = Sp.qi n := by
  rw [qf_eq, qi_eq]
  have e : ((0 : Int) + 1) = 1 := rfl
  rw [e]
  obtain ⟨e1, e2⟩ := rat_pos (a := n) (b := 1) (by omega)
  apply Rat.ext
  · rw [e1, Int.gcd_one]; simp
  · rw [Int.gcd_one] at e2
    have : ((n : Rat).den : Int) = 1 := by rw [Rat.den_intCast]; rfl
    simp at e2
    omega
theorem qi_mul (a b : Int) : Sp.qi a * Sp.qi b = Sp.qi (a * b) := by rw [qi_eq, qi_eq, qi_eq, Rat.intCast_mul]
theorem qi_sub (a b : Int) : Sp.qi a - Sp.qi b = Sp.qi (a - b) := by rw [qi_eq, qi_eq, qi_eq, Rat.intCast_sub]
theorem qi_neg (a : Int) : -Sp.qi a = Sp.qi (-a) := by rw [qi_eq, qi_eq, Rat.intCast_neg]
theorem qi_num (a : Int) : (Sp.qi a).num = a ∧ ((Sp.qi a).den : Int) = 1 := by rw [qi_eq, Rat.num_intCast, Rat.den_intCast]; exact ⟨rfl, rfl⟩
theorem qi_ne {a : Int} (h : a ≠ 0) : Sp.qi a ≠ 0 := fun e => h (by have := (qi_num a).1; rw [e] at this; exact this.symm)
theorem rad_ne {b : Int} (h : b ≠ 0) (c : Rat) : Sp.rad (Sp.qi b) c = c := if_neg (qi_ne h)
theorem sgR_int (a : Int) : Sp.sgR (Sp.qi a) = Sp.sgnI a := by unfold Sp.sgR; rw [(qi_num a).1]
theorem sgO_int (a b c : Int) : Sp.sgO (Sp.qi a) (Sp.qi b) (Sp.qi c) = if Sp.sgnI b = 0 ∨ Sp.sgnI a = Sp.sgnI b then Sp.sgnI a else if Sp.sgnI a = 0 then Sp.sgnI b else Sp.sgnI a * Sp.sgnI (a * a - b * b * c) := by
  unfold Sp.sgO
  rw [qi_mul, qi_mul, qi_mul, qi_sub, sgR_int, sgR_int, sgR_int]
theorem fl_int {a b c : Int} (hb : b ≠ 0) : Sp.fl (Sp.qi a) (Sp.qi b) (Sp.qi c) = Sp.flo (a * 1 + (if b < 0 then -(Sp.sq (1 * 1 * (b * b * c * 1)) + 1) else Sp.sq (1 * 1 * (b * b * c * 1)))) (1 * 1) := by
  unfold Sp.fl Sp.flW
  rw [if_neg (qi_ne hb), qi_mul, qi_mul]
  simp only [qi_num]
theorem nn94 : Sp.isNN (Sp.qf 9 4) := nn_qf (by omega) (by omega)
theorem rsq94 : Sp.rsq (Sp.qf 9 4) := rsq_of (s := Rat.divInt 3 2) (by rw [qf_eq, Rat.divInt_mul_divInt]; rfl)
theorem rt94 : Sp.rt (Sp.qf 9 4) = Rat.divInt 3 2 := by
  have e : (Sp.qf 9 4).num = 9 ∧ ((Sp.qf 9 4).den : Int) = 4 := by rw [qf_eq]; decide
  unfold Sp.rt
  rw [e.1, e.2]
  have h9 : Sp.sq 9 = 3 := sq_of (a := 9) (r := 3) (by decide) (by decide)
  have h4 : Sp.sq 4 = 2 := sq_of (a := 4) (r := 2) (by decide) (by decide)
  rw [h9, h4]
theorem mk94 : Sp.mkA (Sp.qi 1) (Sp.qi 2) (Sp.qf 9 4) = Sp.qi 4 ∧ Sp.mkB (Sp.qi 2) (Sp.qf 9 4) = Sp.qi 0 ∧ Sp.mkC (Sp.qi 2) (Sp.qf 9 4) = Sp.qi 0 := by
  refine ⟨?_, if_pos rsq94, if_pos rsq94⟩
  unfold Sp.mkA
  have d : (Rat.divInt 3 2).num = 3 ∧ ((Rat.divInt 3 2).den : Int) = 2 := by decide
  have d2 : (Rat.divInt (2 * 3) (1 * 2)).num = 3 ∧ ((Rat.divInt (2 * 3) (1 * 2)).den : Int) = 1 := by decide
  rw [if_pos rsq94, rt94, ← rat_mul, d.1, d.2, (qi_num 2).1, (qi_num 2).2, ← rat_add, d2.1, d2.2, (qi_num 1).1, (qi_num 1).2, qi_eq]
  decide
theorem okO_int {a b c : Int} (ha : Sp.inI a) (hb : Sp.inI b) (hc : Sp.inI c) : Sp.okO (Sp.qi a) (Sp.qi b) (Sp.qi c) := okT_O (okT_int ha) (okT_int hb) (okT_int hc) (by omega)
theorem ivn_int : Sp.ivn (Sp.qi 1) (Sp.qi 1) (Sp.qi 2) = Sp.qi (-1) := by
  unfold Sp.ivn
  rw [qi_mul, qi_mul, qi_sub, ← rat_div, (qi_num 1).1, (qi_num 1).2, (qi_num _).1, (qi_num _).2, qi_eq]
  decide
theorem okO_of94 : Sp.okO (Sp.qi 1) (Sp.qi 2) (Sp.qf 9 4) := okT_O (okT_int (by unfold Sp.inI; omega)) (okT_int (by unfold Sp.inI; omega)) (okT_qf (by unfold Sp.okF Sp.inI; omega)) (by omega)
end Go.Av

namespace Go.Av
open Go.Proofs
theorem inI_small {n : Int} (h : -100 ≤ n ∧ n ≤ 100) : Sp.inI n := by unfold Sp.inI; omega
theorem ev6 : Ev M1 (.pure 6 []) (.bool true) [] := by
  have n2 : ¬Sp.rsq (Sp.qi 2) := nsq_int (n := 2) (r := 1) (by decide) (by decide)
  have n8 : ¬Sp.rsq (Sp.qi 8) := nsq_int (n := 8) (r := 2) (by decide) (by decide)
  have s2 : Sp.sq 2 = 1 := sq_of (a := 2) (r := 1) (by decide) (by decide)
  have a2 : ∀ a b, Sp.mkA a b (Sp.qi 2) = a := fun a b => (mk_ns n2 a b).1
  have b2 : ∀ b, Sp.mkB b (Sp.qi 2) = b := fun b => (mk_ns n2 b b).2.1
  have c2 : ∀ b, Sp.mkC b (Sp.qi 2) = Sp.rad b (Sp.qi 2) := fun b => (mk_ns n2 b b).2.2
  have a8 : ∀ a b, Sp.mkA a b (Sp.qi 8) = a := fun a b => (mk_ns n8 a b).1
  have b8 : ∀ b, Sp.mkB b (Sp.qi 8) = b := fun b => (mk_ns n8 b b).2.1
  have c8 : ∀ b, Sp.mkC b (Sp.qi 8) = Sp.rad b (Sp.qi 8) := fun b => (mk_ns n8 b b).2.2
  have r1 : ∀ c, Sp.rad (Sp.qi 1) c = c := rad_ne (by decide)
  have r2 : ∀ c, Sp.rad (Sp.qi (-1)) c = c := rad_ne (by decide)
  have r3 : ∀ c, Sp.rad (Sp.qi (-2)) c = c := rad_ne (by decide)
  have r4 : ∀ c, Sp.rad (Sp.qi (-3)) c = c := rad_ne (by decide)
  have m1 : Sp.qi 1 * Sp.qi (-1) = Sp.qi (-1) := qi_mul 1 (-1)
  have m2 : -Sp.qi 1 * Sp.qi (-1) = Sp.qi 1 := by rw [qi_neg, qi_mul]; rfl
  have g1 : Sp.sgO (Sp.qi 1) (Sp.qi 1) (Sp.qi 2) = 1 := by rw [sgO_int]; decide
  have g2 : Sp.sgO (Sp.qi 3) (Sp.qi (-2)) (Sp.qi 2) = 1 := by rw [sgO_int]; decide
  have g3 : Sp.sgO (Sp.qi 4) (Sp.qi (-3)) (Sp.qi 2) = -1 := by rw [sgO_int]; decide
  have f1 : Sp.fl (Sp.qi 1) (Sp.qi 1) (Sp.qi 2) = 2 := by
    rw [fl_int (by decide), show (1 : Int) * 1 * (1 * 1 * 2 * 1) = 2 from rfl, s2]; decide
  have f2 : Sp.fl (Sp.qi 1) (Sp.qi (-1)) (Sp.qi 2) = -1 := by
    rw [fl_int (by decide), show (1 : Int) * 1 * (-1 * -1 * 2 * 1) = 2 from rfl, s2]; decide
  have nm : Sp.nrm (Sp.qi 1) (Sp.qi 1) (Sp.qi 2) := by
    unfold Sp.nrm
    rw [qi_mul, qi_mul, qi_sub]
    exact qi_ne (by decide)
  refine call6 (lAwake _ ?_)
  simp only [mk94.1, mk94.2.1, mk94.2.2, qf_one, a2, b2, c2, a8, b8, c8, r1, r2, r3, r4, ivn_int, m1, m2, g1, g2, g3, f1, f2]
  have i (n : Int) (h : -100 ≤ n ∧ n ≤ 100 := by decide) : Sp.inI n := inI_small h
  have o (a b c : Int) (h : (-100 ≤ a ∧ a ≤ 100) ∧ (-100 ≤ b ∧ b ≤ 100) ∧ (-100 ≤ c ∧ c ≤ 100) := by decide) : Sp.okO (Sp.qi a) (Sp.qi b) (Sp.qi c) := okO_int (inI_small h.1) (inI_small h.2.1) (inI_small h.2.2)
  have m (a b c : Int) (h : (-100 ≤ a ∧ a ≤ 100) ∧ (-100 ≤ b ∧ b ≤ 100) ∧ (0 ≤ c ∧ c ≤ 100) := by decide) : Sp.okM a b c := ⟨inI_small h.1, inI_small h.2.1, inI_small (by omega), h.2.2.1⟩
  have ok (a : Int) (h : -100 ≤ a ∧ a ≤ 100 := by decide) : Sp.ok a := ok_inI (inI_small h)
  have d (a b c : Int) (h : (-100 ≤ a ∧ a ≤ 100) ∧ (-100 ≤ b ∧ b ≤ 100) ∧ (0 ≤ c ∧ c ≤ 100) := by decide) : Sp.okSd a b c 0 0 0 := by unfold Sp.okSd; omega
  have okf : Sp.okF 9 4 := ⟨inI_small (by decide), inI_small (by decide), by decide⟩
  refine ⟨i 1, i 2, okf, fun _ => ⟨okO_of94, m 0 1 8, m 1 1 2, m 1 (-1) 2, fun _ => i 4, ⟨o 4 0 0, o 4 0 0⟩, fun _ => d 0 1 8, fun _ => ⟨o 0 1 8, o 0 1 8⟩, fun k => ?_, fun _ => ⟨fun k => ?_, fun _ => ⟨⟨o 1 1 2, nm⟩, m 3 (-2) 2, m 4 (-3) 2, fun _ => d (-1) 1 2, ⟨o (-1) 1 2, o (-1) 1 2⟩, fun _ => o 1 1 2, fun _ => ⟨ok 2, i 2⟩, fun _ => o 1 (-1) 2, fun _ => ⟨ok (-1), i (-1)⟩, fun _ => o 3 (-2) 2, fun _ => o 4 (-3) 2, ?_⟩⟩⟩, fun k => absurd nn94 k⟩
  · exfalso
    rcases k with k | k
    · exact k (by simp)
    · exact k (by simp)
  · exact absurd k (by decide)
  · simp
end Go.Av

namespace Go.Av
open Go.Proofs
set_option maxRecDepth 100000
def fi3 : Fi := ⟨97, [.tmp 6]⟩
def kp3 : List (Nat × List Nat) := [(0, [3, 4, 5]), (1, [3, 4, 5, 33]), (2, [6]), (3, [3, 4, 5, 7, 8]), (4, [3, 7, 8, 9, 10]), (5, [3, 7, 8, 9, 62]), (6, [6]), (7, [3, 7, 8, 9, 11, 12]), (8, [7, 8, 9, 76]), (9, [6]), (10, [7, 9, 78]), (11, [6]), (12, [9, 13, 14]), (13, [13, 14, 15, 16]), (14, [6])]
def lwMake_at (f1 f2 f3 f4 f5 f6 : Bool) (a b c : Rat) (Q : AV → Heap → Prop) : Prop := Wp M1 (.run fi3 (atC (cd Try.f3) []) [(0, .agg [.bool (Sp.isNeg a.num), .vec f1 1 ((Sp.limI a.num).map (.int .u32)), .bool (Sp.isNeg (a.den : Int)), .vec f2 1 ((Sp.limI (a.den : Int)).map (.int .u32))]), (1, .agg [.bool (Sp.isNeg b.num), .vec f3 1 ((Sp.limI b.num).map (.int .u32)), .bool (Sp.isNeg (b.den : Int)), .vec f4 1 ((Sp.limI (b.den : Int)).map (.int .u32))]), (2, .agg [.bool (Sp.isNeg c.num), .vec f5 1 ((Sp.limI c.num).map (.int .u32)), .bool (Sp.isNeg (c.den : Int)), .vec f6 1 ((Sp.limI (c.den : Int)).map (.int .u32))])] []) Q
def lwMakeR_at (s1 s2 s3 t1 t2 t3 f1 f2 f3 g1 g2 g3 : Bool) (x1 x2 x3 y1 y2 y3 : List Int) (Q : AV → Heap → Prop) : Prop := Wp M1 (.run fi3 (atC (cd Try.f3) []) [(0, .agg [.bool s1, .vec f1 1 (x1.map (.int .u32)), .bool t1, .vec g1 1 (y1.map (.int .u32))]), (1, .agg [.bool s2, .vec f2 1 (x2.map (.int .u32)), .bool t2, .vec g2 1 (y2.map (.int .u32))]), (2, .agg [.bool s3, .vec f3 1 (x3.map (.int .u32)), .bool t3, .vec g3 1 (y3.map (.int .u32))])] []) Q
theorem call3 {args : List AV} {d : AV} (h : Wp M1 (.run fi3 [.code (cd Try.f3)] (argVars 0 args) []) (PureQ d)) : Ev M1 (.pure 3 args) d [] :=
  pure_pq Try.f3 fi3 (by kernel_rfl) (by kernel_rfl) (by kernel_rfl) (by kernel_rfl) h
noncomputable abbrev zNxG1 := ag [vb false, vf [], vb false, vf []]
noncomputable abbrev zNxG2 := ag [vb false, vf [], vb false, vf [], vb false, vf [], vb false, vf [], vb false, vf [], vb false, vf []]
noncomputable abbrev zNxG3 (a : Rat) (b : Rat) (c : Rat) := bif bif !Sp.smallB 4 (Sp.isNeg a.num) (Sp.limI a.num) (Sp.isNeg (↑a.den : Int)) (Sp.limI (↑a.den : Int)) then true else !Sp.smallB 4 (Sp.isNeg b.num) (Sp.limI b.num) (Sp.isNeg (↑b.den : Int)) (Sp.limI (↑b.den : Int)) then true else !Sp.smallB 4 (Sp.isNeg c.num) (Sp.limI c.num) (Sp.isNeg (↑c.den : Int)) (Sp.limI (↑c.den : Int))
noncomputable abbrev zNxG4 (a : Rat) (b : Rat) (c : Rat) := Sp.mkA a b c = Sp.mkA a b c /\ Sp.mkB b c = Sp.mkB b c /\ Sp.mkC b c = Sp.mkC b c
noncomputable abbrev zNxG5 (a : Rat) (b : Rat) := bif !Sp.smallB 4 (Sp.isNeg a.num) (Sp.limI a.num) (Sp.isNeg (↑a.den : Int)) (Sp.limI (↑a.den : Int)) then true else !Sp.smallB 4 (Sp.isNeg b.num) (Sp.limI b.num) (Sp.isNeg (↑b.den : Int)) (Sp.limI (↑b.den : Int))
noncomputable abbrev zNxG6 (b : Rat) := Sp.smallB 4 (Sp.isNeg b.num) (Sp.limI b.num) (Sp.isNeg (↑b.den : Int)) (Sp.limI (↑b.den : Int))
noncomputable abbrev zNxG7 (c : Rat) := Sp.smallB 4 (Sp.isNeg c.num) (Sp.limI c.num) (Sp.isNeg (↑c.den : Int)) (Sp.limI (↑c.den : Int))
noncomputable abbrev zNxG8 (a : Rat) := vb (decide (a = a /\ Sp.qi 0 = Sp.qi 0 /\ Sp.qi 0 = Sp.qi 0))
theorem lwMake (f1 f2 f3 f4 f5 f6 : Bool) (a b c : Rat)  (dq : AV) (H :
    (Sp.okU 4 (Sp.limI a.num) (Sp.limI (↑a.den : Int))) /\
    ((¬(¬(Sp.smallB 4 (Sp.isNeg a.num) (Sp.limI a.num) (Sp.isNeg (↑a.den : Int)) (Sp.limI (↑a.den : Int)) = true))) -> (Sp.okU 4 (Sp.limI b.num) (Sp.limI (↑b.den : Int)))) /\
    ((¬((¬(Sp.smallB 4 (Sp.isNeg a.num) (Sp.limI a.num) (Sp.isNeg (↑a.den : Int)) (Sp.limI (↑a.den : Int)) = true)) ∨ (¬(Sp.smallB 4 (Sp.isNeg b.num) (Sp.limI b.num) (Sp.isNeg (↑b.den : Int)) (Sp.limI (↑b.den : Int)) = true)))) -> (Sp.okU 4 (Sp.limI c.num) (Sp.limI (↑c.den : Int)))) /\
    ((((¬(Sp.smallB 4 (Sp.isNeg a.num) (Sp.limI a.num) (Sp.isNeg (↑a.den : Int)) (Sp.limI (↑a.den : Int)) = true)) ∨ (¬(Sp.smallB 4 (Sp.isNeg b.num) (Sp.limI b.num) (Sp.isNeg (↑b.den : Int)) (Sp.limI (↑b.den : Int)) = true))) ∨ (¬(Sp.smallB 4 (Sp.isNeg c.num) (Sp.limI c.num) (Sp.isNeg (↑c.den : Int)) (Sp.limI (↑c.den : Int)) = true))) -> vb true = dq) /\
    (¬(((¬(Sp.smallB 4 (Sp.isNeg a.num) (Sp.limI a.num) (Sp.isNeg (↑a.den : Int)) (Sp.limI (↑a.den : Int)) = true)) ∨ (¬(Sp.smallB 4 (Sp.isNeg b.num) (Sp.limI b.num) (Sp.isNeg (↑b.den : Int)) (Sp.limI (↑b.den : Int)) = true))) ∨ (¬(Sp.smallB 4 (Sp.isNeg c.num) (Sp.limI c.num) (Sp.isNeg (↑c.den : Int)) (Sp.limI (↑c.den : Int)) = true))) -> ((Sp.isNN c) -> (Sp.okO a b c) /\
        (Sp.okO (Sp.mkA a b c) (Sp.mkB b c) (Sp.mkC b c) /\ Sp.okO (Sp.mkA a b c) (Sp.mkB b c) (Sp.mkC b c)) /\
        ((¬(¬(Sp.mkA a b c = Sp.mkA a b c /\ Sp.mkB b c = Sp.mkB b c /\ Sp.mkC b c = Sp.mkC b c))) -> (Sp.okO a (Sp.qi 0) (Sp.qi 0) /\ Sp.okO a (Sp.qi 0) (Sp.qi 0))) /\
        (((¬(Sp.mkA a b c = Sp.mkA a b c /\ Sp.mkB b c = Sp.mkB b c /\ Sp.mkC b c = Sp.mkC b c)) ∨ (¬(a = a /\ Sp.qi 0 = Sp.qi 0 /\ Sp.qi 0 = Sp.qi 0))) -> vb false = dq) /\
        (¬((¬(Sp.mkA a b c = Sp.mkA a b c /\ Sp.mkB b c = Sp.mkB b c /\ Sp.mkC b c = Sp.mkC b c)) ∨ (¬(a = a /\ Sp.qi 0 = Sp.qi 0 /\ Sp.qi 0 = Sp.qi 0))) -> ((Sp.qi 0 = 0) -> ((¬(false = true)) -> (Sp.okR a /\ Sp.okR a)) /\
            ((¬(a = a)) -> vb false = dq) /\
            (¬(¬(a = a)) -> ((Sp.mkB b c = 0) -> ((true = true) -> (Sp.okR (Sp.mkA a b c) /\ Sp.okR (Sp.mkA a b c))) /\
                vb (decide (Sp.mkA a b c = Sp.mkA a b c)) = dq) /\
              (¬(Sp.mkB b c = 0) -> vb true = dq))) /\
          (¬(Sp.qi 0 = 0) -> ∃ (b1 : Bool),
            ((¬(true = true)) -> (Ev M1 (Conf.pure 15 [ag [vb false, vf [], vb false, vf []], ratA f1 f2 a]) (vb b1) [])) /\
            vb false = dq))) /\
      (¬(Sp.isNN c) -> (Sp.okO a b c) /\
        (Sp.okO a (Sp.qi 0) (Sp.qi 0) /\ Sp.okO a (Sp.qi 0) (Sp.qi 0)) /\
        ((¬(a = a /\ Sp.qi 0 = Sp.qi 0 /\ Sp.qi 0 = Sp.qi 0)) -> vb false = dq) /\
        (¬(¬(a = a /\ Sp.qi 0 = Sp.qi 0 /\ Sp.qi 0 = Sp.qi 0)) -> ((Sp.qi 0 = 0) -> ((¬(false = true)) -> (Sp.okR a /\ Sp.okR a)) /\
            ((¬(a = a)) -> vb false = dq) /\
            (¬(¬(a = a)) -> vb true = dq)) /\
          (¬(Sp.qi 0 = 0) -> ∃ (b2 : Bool),
            ((¬(true = true)) -> (Ev M1 (Conf.pure 15 [ag [vb false, vf [], vb false, vf []], ratA f1 f2 a]) (vb b2) [])) /\
            vb false = dq))))) :
  lwMake_at f1 f2 f3 f4 f5 f6 a b c (PureQ dq) := by
  unfold lwMake_at
  obtain ⟨k1, H⟩ := H
  obtain ⟨k3, H⟩ := H
  obtain ⟨k5, H⟩ := H
  refine path_wp (G := given kp3 [(1, 0, .call (vb true) none), (1, 4, .call (vb (Sp.smallB 4 (Sp.isNeg a.num) (Sp.limI a.num) (Sp.isNeg (↑a.den : Int)) (Sp.limI (↑a.den : Int)))) none), (1, 9, .call (vb (zNxG6 b)) none), (1, 14, .call (vb (zNxG7 c)) none)] []) 5 [] ⟨(atC (cd Try.f3) [1, 0, 1]), [(3, AV.ptr 0 0 0 0), (4, AV.ptr 1 0 0 0), (5, AV.ptr 2 0 0 0), (33, vb (zNxG3 a b c))], [⟨[ratA f1 f2 a], 4, 0, false, false⟩, ⟨[ratA f3 f4 b], 4, 0, false, false⟩, ⟨[ratA f5 f6 c], 4, 0, false, false⟩], [true, !((!Sp.smallB 4 (Sp.isNeg a.num) (Sp.limI a.num) (Sp.isNeg (↑a.den : Int)) (Sp.limI (↑a.den : Int))) == false && true) || true, !((zNxG5 a b) == false && true) || true], [], [⟨true, false, 6, [], [], vb true, []⟩, ⟨true, false, 7, [ratA f1 f2 a, vi 4], [], vb (Sp.smallB 4 (Sp.isNeg a.num) (Sp.limI a.num) (Sp.isNeg (↑a.den : Int)) (Sp.limI (↑a.den : Int))), []⟩, ⟨(!Sp.smallB 4 (Sp.isNeg a.num) (Sp.limI a.num) (Sp.isNeg (↑a.den : Int)) (Sp.limI (↑a.den : Int))) == false && true && true, false, 7, [ratA f3 f4 b, vi 4], [], vb (zNxG6 b), []⟩, ⟨(zNxG5 a b) == false && true && true, false, 7, [ratA f5 f6 c, vi 4], [], vb (zNxG7 c), []⟩]⟩ (by kernel_rfl) (bc rfl (bc (Bool.or_true _) (bc (Bool.or_true _) b0))) q0 (cc (fun _ => (@ev6 )) (cc (fun _ => (@ev7 (Sp.isNeg a.num) (f1) (Sp.isNeg (↑a.den : Int)) (f2) (Sp.limI a.num) (Sp.limI (↑a.den : Int)) (4) k1)) (cc (fun hc => ((@ev7 (Sp.isNeg b.num) (f3) (Sp.isNeg (↑b.den : Int)) (f4) (Sp.limI b.num) (Sp.limI (↑b.den : Int)) (4) (k3 ((i_at (i_at (i_bf (i_not (i_var _))))).1 hc))) : Ev M1 (Conf.pure 7 [ratA f3 f4 b, vi 4]) (vb (zNxG6 b)) [])) (cc (fun hc => ((@ev7 (Sp.isNeg c.num) (f5) (Sp.isNeg (↑c.den : Int)) (f6) (Sp.limI c.num) (Sp.limI (↑c.den : Int)) (4) (k5 ((i_at (i_at (i_bf (i_bor (i_not (i_var _)) (i_not (i_var _)))))).1 hc))) : Ev M1 (Conf.pure 7 [ratA f5 f6 c, vi 4]) (vb (zNxG7 c)) [])) c0)))) ?_
  rcases xm (((¬(Sp.smallB 4 (Sp.isNeg a.num) (Sp.limI a.num) (Sp.isNeg (↑a.den : Int)) (Sp.limI (↑a.den : Int)) = true)) ∨ (¬(Sp.smallB 4 (Sp.isNeg b.num) (Sp.limI b.num) (Sp.isNeg (↑b.den : Int)) (Sp.limI (↑b.den : Int)) = true))) ∨ (¬(Sp.smallB 4 (Sp.isNeg c.num) (Sp.limI c.num) (Sp.isNeg (↑c.den : Int)) (Sp.limI (↑c.den : Int)) = true))) with d7 | d7
  · have H := H.1 d7
    exact path_re (G := given kp3 [(2, 0, .call (vb true) none)] []) 1000 [true] (asm := [(zNxG3 a b c) == true]) (vb true) (by kernel_rfl) (bc (beq_t ((i_bor (i_bor (i_not (i_var _)) (i_not (i_var _))) (i_not (i_var _))).2 d7)) b0) q0 (ce (@ev6 ) c0) H
  · have H := H.2 d7
    rcases xm (Sp.isNN c) with d8 | d8
    · have H := H.1 d8
      obtain ⟨k9, H⟩ := H
      obtain ⟨k10, H⟩ := H
      obtain ⟨k14, H⟩ := H
      refine path_wp (G := given kp3 [(3, 3, .call (tu [rootF (Sp.mkA a b c) (Sp.mkB b c) (Sp.mkC b c), vi 0]) none), (4, 3, .call (tu [rootF (Sp.mkA a b c) (Sp.mkB b c) (Sp.mkC b c), vi 0]) none), (5, 4, .call (vb (decide (zNxG4 a b c))) none), (5, 8, .call (rootF a (Sp.qi 0) (Sp.qi 0)) none), (5, 10, .call (rootF a (Sp.qi 0) (Sp.qi 0)) none), (5, 11, .call (zNxG8 a) none)] []) 9 [false] ⟨(atC (cd Try.f3) [1, 1, 1, 1, 0, 1]), [(3, AV.ptr 0 0 0 0), (7, AV.ptr 3 0 0 0), (8, vi 0), (9, AV.ptr 4 0 0 0), (62, vb (bif !decide (zNxG4 a b c) then true else !decide (a = a /\ Sp.qi 0 = Sp.qi 0 /\ Sp.qi 0 = Sp.qi 0)))], [⟨[ratA f1 f2 a], 4, 0, false, false⟩, ⟨[ratA f3 f4 b], 4, 0, false, false⟩, ⟨[ratA f5 f6 c], 4, 0, false, false⟩, ⟨[rootF (Sp.mkA a b c) (Sp.mkB b c) (Sp.mkC b c)], 12, 0, false, false⟩, ⟨[rootF (Sp.mkA a b c) (Sp.mkB b c) (Sp.mkC b c)], 12, 0, false, false⟩], [(zNxG3 a b c) == false, true, true, true, true, true, true, true, true, true, true, !((!decide (zNxG4 a b c)) == false && true) || true, !((!decide (zNxG4 a b c)) == false && true) || true], [], [⟨true, false, 8, [ratA f1 f2 a, ratA f3 f4 b, ratA f5 f6 c], [], tu [rootF (Sp.mkA a b c) (Sp.mkB b c) (Sp.mkC b c), vi 0], []⟩, ⟨true, false, 9, [ratA f1 f2 a, ratA f3 f4 b, ratA f5 f6 c], [], tu [rootF (Sp.mkA a b c) (Sp.mkB b c) (Sp.mkC b c), vi 0], []⟩, ⟨true, false, 10, [rootF (Sp.mkA a b c) (Sp.mkB b c) (Sp.mkC b c), vi 0, rootF (Sp.mkA a b c) (Sp.mkB b c) (Sp.mkC b c), vi 0], [], vb (decide (zNxG4 a b c)), []⟩, ⟨(!decide (zNxG4 a b c)) == false && true && true, false, 12, [ratA f1 f2 a], [], rootF a (Sp.qi 0) (Sp.qi 0), []⟩, ⟨(!decide (zNxG4 a b c)) == false && true && true, false, 13, [ratA f1 f2 a], [], rootF a (Sp.qi 0) (Sp.qi 0), []⟩, ⟨(!decide (zNxG4 a b c)) == false && true && true, false, 11, [rootF a (Sp.qi 0) (Sp.qi 0), rootF a (Sp.qi 0) (Sp.qi 0)], [], vb (decide (a = a /\ Sp.qi 0 = Sp.qi 0 /\ Sp.qi 0 = Sp.qi 0)), []⟩]⟩ (by kernel_rfl) (bc (beq_f (fun h => d7 ((i_bor (i_bor (i_not (i_var _)) (i_not (i_var _))) (i_not (i_var _))).1 h))) (bc rfl (bc rfl (bc rfl (bc rfl (bc rfl (bc rfl (bc rfl (bc rfl (bc rfl (bc rfl (bc (Bool.or_true _) (bc (Bool.or_true _) b0))))))))))))) q0 (cc (fun _ => (@ev8_y (f1) (f2) (f3) (f4) (f5) (f6) (a) (b) (c) k9 d8)) (cc (fun _ => (@ev9_y (f1) (f2) (f3) (f4) (f5) (f6) (a) (b) (c) k9 d8)) (cc (fun _ => (@ev10 (false) (false) (false) (false) (false) (false) (false) (false) (false) (false) (false) (false) (Sp.mkA a b c) (Sp.mkB b c) (Sp.mkC b c) (Sp.mkA a b c) (Sp.mkB b c) (Sp.mkC b c) (0) (0) k10)) (cc (fun hc => ((@ev12 (f1) (f2) (a)) : Ev M1 (Conf.pure 12 [ratA f1 f2 a]) (rootF a (Sp.qi 0) (Sp.qi 0)) [])) (cc (fun hc => ((@ev13 (f1) (f2) (a)) : Ev M1 (Conf.pure 13 [ratA f1 f2 a]) (rootF a (Sp.qi 0) (Sp.qi 0)) [])) (cc (fun hc => ((@ev11 (false) (false) (false) (false) (false) (false) (false) (false) (false) (false) (false) (false) (a) (Sp.qi 0) (Sp.qi 0) (a) (Sp.qi 0) (Sp.qi 0) (k14 ((i_at (i_at (i_bf (i_not i_dec)))).1 hc))) : Ev M1 (Conf.pure 11 [rootF a (Sp.qi 0) (Sp.qi 0), rootF a (Sp.qi 0) (Sp.qi 0)]) (zNxG8 a) [])) c0)))))) ?_
      rcases xm ((¬(zNxG4 a b c)) ∨ (¬(a = a /\ Sp.qi 0 = Sp.qi 0 /\ Sp.qi 0 = Sp.qi 0))) with d16 | d16
      · have H := H.1 d16
        exact path_re (G := given kp3 [] []) 1000 [true] (vb false) (by kernel_rfl) (bc (beq_t ((i_bor (i_not i_dec) (i_not i_dec)).2 d16)) b0) q0 c0 H
      · have H := H.2 d16
        rcases xm (Sp.qi 0 = 0) with d17 | d17
        · have H := H.1 d17
          obtain ⟨k19, H⟩ := H
          refine path_wp (G := given kp3 [(7, 1, .call (rootF a (Sp.qi 0) (Sp.qi 0)) none), (7, 2, .call (tu [ratA false false a, vb true]) none), (8, 5, .call (vb (decide (a = a))) none)] []) 7 [false] ⟨(atC (cd Try.f3) [1, 1, 1, 1, 1, 1, 0, 1]), [(7, AV.ptr 3 0 0 0), (8, vi 0), (9, AV.ptr 4 0 0 0), (76, vb !decide (a = a))], [⟨[ratA f1 f2 a], 4, 0, false, false⟩, ⟨[ratA f3 f4 b], 4, 0, false, false⟩, ⟨[ratA f5 f6 c], 4, 0, false, false⟩, ⟨[rootF (Sp.mkA a b c) (Sp.mkB b c) (Sp.mkC b c)], 12, 0, false, false⟩, ⟨[rootF (Sp.mkA a b c) (Sp.mkB b c) (Sp.mkC b c)], 12, 0, false, false⟩, ⟨[ratA false false a], 4, 0, false, false⟩], _, [], [⟨true, false, 12, [ratA f1 f2 a], [], rootF a (Sp.qi 0) (Sp.qi 0), []⟩, ⟨true, false, 14, [rootF a (Sp.qi 0) (Sp.qi 0)], [], tu [ratA false false a, vb true], []⟩, ⟨false == false && true && true, false, 15, [ratA false false a, ratA f1 f2 a], [], vb (decide (a = a)), []⟩]⟩ (by kernel_rfl) (bc (beq_f (fun h => d16 ((i_bor (i_not i_dec) (i_not i_dec)).1 h))) (bc rfl (bc rfl (bc rfl (bc rfl b0))))) q0 (cc (fun _ => (@ev12 (f1) (f2) (a))) (cc (fun _ => (@ev14_y (false) (false) (false) (false) (false) (false) (a) (Sp.qi 0) (Sp.qi 0) d17)) (cc (fun hc => ((@ev15 (false) (false) (f1) (f2) (a) (a) (k19 ((i_at (i_at (i_bf (i_var _)))).1 hc))) : Ev M1 (Conf.pure 15 [ratA false false a, ratA f1 f2 a]) (vb (decide (a = a))) [])) c0))) ?_
          rcases xm (¬(a = a)) with d21 | d21
          · have H := H.1 d21
            exact path_re (G := given kp3 [] []) 1000 [true] (vb false) (by kernel_rfl) (bc (beq_t ((i_not i_dec).2 d21)) b0) q0 c0 H
          · have H := H.2 d21
            rcases xm (Sp.mkB b c = 0) with d22 | d22
            · have H := H.1 d22
              obtain ⟨k24, H⟩ := H
              exact path_re (G := given kp3 [(12, 1, .call (tu [ratA false false (Sp.mkA a b c), vb true]) none), (13, 1, .call (tu [ratA false false (Sp.mkA a b c), vb true]) none), (14, 6, .call (vb (decide (Sp.mkA a b c = Sp.mkA a b c))) none)] []) 1000 [false, false] (calls := [⟨true, false, 14, [rootF (Sp.mkA a b c) (Sp.mkB b c) (Sp.mkC b c)], [], tu [ratA false false (Sp.mkA a b c), vb true], []⟩, ⟨true, false, 16, [rootF (Sp.mkA a b c) (Sp.mkB b c) (Sp.mkC b c)], [], tu [ratA false false (Sp.mkA a b c), vb true], []⟩, ⟨true == true && true && true, false, 15, [ratA false false (Sp.mkA a b c), ratA false false (Sp.mkA a b c)], [], vb (decide (Sp.mkA a b c = Sp.mkA a b c)), []⟩]) (vb (decide (Sp.mkA a b c = Sp.mkA a b c))) (by kernel_rfl) (bc (beq_f (fun h => d21 ((i_not i_dec).1 h))) (bc rfl (bc rfl (bc rfl (bc rfl (bc rfl (bc rfl (bc rfl b0)))))))) q0 (cc (fun _ => (@ev14_y (false) (false) (false) (false) (false) (false) (Sp.mkA a b c) (Sp.mkB b c) (Sp.mkC b c) d22)) (cc (fun _ => (@ev16_y (false) (false) (false) (false) (false) (false) (Sp.mkA a b c) (Sp.mkB b c) (Sp.mkC b c) d22)) (cc (fun hc => ((@ev15 (false) (false) (false) (false) (Sp.mkA a b c) (Sp.mkA a b c) (k24 ((i_at (i_at (i_bt (i_var _)))).1 hc))) : Ev M1 (Conf.pure 15 [ratA false false (Sp.mkA a b c), ratA false false (Sp.mkA a b c)]) (vb (decide (Sp.mkA a b c = Sp.mkA a b c))) [])) c0))) H
            · have H := H.2 d22
              exact path_re (G := given kp3 [(12, 1, .call (tu [zNxG1, vb false]) none), (13, 1, .call (tu [zNxG1, vb false]) none), (14, 6, .call (vb true) none)] []) 1000 [false, false] (calls := [⟨true, false, 14, [rootF (Sp.mkA a b c) (Sp.mkB b c) (Sp.mkC b c)], [], tu [zNxG1, vb false], []⟩, ⟨true, false, 16, [rootF (Sp.mkA a b c) (Sp.mkB b c) (Sp.mkC b c)], [], tu [zNxG1, vb false], []⟩, ⟨true == true && true && true, false, 15, [zNxG1, zNxG1], [], vb true, []⟩]) (vb true) (by kernel_rfl) (bc (beq_f (fun h => d21 ((i_not i_dec).1 h))) (bc rfl (bc rfl (bc rfl (bc rfl (bc rfl (bc rfl (bc rfl b0)))))))) q0 (cc (fun _ => (@ev14_n (false) (false) (false) (false) (false) (false) (Sp.mkA a b c) (Sp.mkB b c) (Sp.mkC b c) d22)) (cc (fun _ => (@ev16_n (false) (false) (false) (false) (false) (false) (Sp.mkA a b c) (Sp.mkB b c) (Sp.mkC b c) d22)) (cc (fun hc => ((@ev15_a ) : Ev M1 (Conf.pure 15 [zNxG1, zNxG1]) (vb true) [])) c0))) H
        · have H := H.2 d17
          obtain ⟨b1, H⟩ := H
          obtain ⟨k27, H⟩ := H
          exact path_re (G := given kp3 [(7, 1, .call (rootF a (Sp.qi 0) (Sp.qi 0)) none), (7, 2, .call (tu [zNxG1, vb false]) none), (8, 5, .call (vb b1) none)] []) 1000 [false, true] (calls := [⟨true, false, 12, [ratA f1 f2 a], [], rootF a (Sp.qi 0) (Sp.qi 0), []⟩, ⟨true, false, 14, [rootF a (Sp.qi 0) (Sp.qi 0)], [], tu [zNxG1, vb false], []⟩, ⟨true == false && true && true, false, 15, [zNxG1, ratA f1 f2 a], [], vb b1, []⟩]) (vb false) (by kernel_rfl) (bc (beq_f (fun h => d16 ((i_bor (i_not i_dec) (i_not i_dec)).1 h))) (bc rfl (bc rfl (bc rfl (bc rfl (bc rfl b0)))))) q0 (cc (fun _ => (@ev12 (f1) (f2) (a))) (cc (fun _ => (@ev14_n (false) (false) (false) (false) (false) (false) (a) (Sp.qi 0) (Sp.qi 0) d17)) (cc (fun hc => ((k27 ((i_at (i_at (i_bf (i_var _)))).1 hc)) : Ev M1 (Conf.pure 15 [zNxG1, ratA f1 f2 a]) (vb b1) [])) c0))) H
    · have H := H.2 d8
      obtain ⟨k28, H⟩ := H
      obtain ⟨k29, H⟩ := H
      refine path_wp (G := given kp3 [(3, 3, .call (tu [zNxG2, vi 7]) none), (4, 3, .call (tu [zNxG2, vi 7]) none), (5, 4, .call (vb true) none), (5, 8, .call (rootF a (Sp.qi 0) (Sp.qi 0)) none), (5, 10, .call (rootF a (Sp.qi 0) (Sp.qi 0)) none), (5, 11, .call (zNxG8 a) none)] []) 9 [false] ⟨(atC (cd Try.f3) [1, 1, 1, 1, 0, 1]), [(3, AV.ptr 0 0 0 0), (7, AV.ptr 3 0 0 0), (8, vi 7), (9, AV.ptr 4 0 0 0), (62, vb !decide (a = a /\ Sp.qi 0 = Sp.qi 0 /\ Sp.qi 0 = Sp.qi 0))], [⟨[ratA f1 f2 a], 4, 0, false, false⟩, ⟨[ratA f3 f4 b], 4, 0, false, false⟩, ⟨[ratA f5 f6 c], 4, 0, false, false⟩, ⟨[zNxG2], 12, 0, false, false⟩, ⟨[zNxG2], 12, 0, false, false⟩], [(zNxG3 a b c) == false, true, true, true, true, true, true, true, true, true, true, true, true], [], _⟩ (by kernel_rfl) (bc (beq_f (fun h => d7 ((i_bor (i_bor (i_not (i_var _)) (i_not (i_var _))) (i_not (i_var _))).1 h))) (bc rfl (bc rfl (bc rfl (bc rfl (bc rfl (bc rfl (bc rfl (bc rfl (bc rfl (bc rfl (bc rfl (bc rfl b0))))))))))))) q0 (ce (@ev8_n (f1) (f2) (f3) (f4) (f5) (f6) (a) (b) (c) k28 d8) (ce (@ev9_n (f1) (f2) (f3) (f4) (f5) (f6) (a) (b) (c) k28 d8) (ce (@ev10_a (7) (7)) (ce (@ev12 (f1) (f2) (a)) (ce (@ev13 (f1) (f2) (a)) (ce (@ev11 (false) (false) (false) (false) (false) (false) (false) (false) (false) (false) (false) (false) (a) (Sp.qi 0) (Sp.qi 0) (a) (Sp.qi 0) (Sp.qi 0) k29) c0)))))) ?_
      rcases xm (¬(a = a /\ Sp.qi 0 = Sp.qi 0 /\ Sp.qi 0 = Sp.qi 0)) with d31 | d31
      · have H := H.1 d31
        exact path_re (G := given kp3 [] []) 1000 [true] (vb false) (by kernel_rfl) (bc (beq_t ((i_not i_dec).2 d31)) b0) q0 c0 H
      · have H := H.2 d31
        rcases xm (Sp.qi 0 = 0) with d32 | d32
        · have H := H.1 d32
          obtain ⟨k34, H⟩ := H
          refine path_wp (G := given kp3 [(7, 1, .call (rootF a (Sp.qi 0) (Sp.qi 0)) none), (7, 2, .call (tu [ratA false false a, vb true]) none), (8, 5, .call (vb (decide (a = a))) none)] []) 7 [false] ⟨(atC (cd Try.f3) [1, 1, 1, 1, 1, 1, 0, 1]), [(7, AV.ptr 3 0 0 0), (8, vi 7), (9, AV.ptr 4 0 0 0), (76, vb !decide (a = a))], [⟨[ratA f1 f2 a], 4, 0, false, false⟩, ⟨[ratA f3 f4 b], 4, 0, false, false⟩, ⟨[ratA f5 f6 c], 4, 0, false, false⟩, ⟨[zNxG2], 12, 0, false, false⟩, ⟨[zNxG2], 12, 0, false, false⟩, ⟨[ratA false false a], 4, 0, false, false⟩], _, [], [⟨true, false, 12, [ratA f1 f2 a], [], rootF a (Sp.qi 0) (Sp.qi 0), []⟩, ⟨true, false, 14, [rootF a (Sp.qi 0) (Sp.qi 0)], [], tu [ratA false false a, vb true], []⟩, ⟨false == false && true && true, false, 15, [ratA false false a, ratA f1 f2 a], [], vb (decide (a = a)), []⟩]⟩ (by kernel_rfl) (bc (beq_f (fun h => d31 ((i_not i_dec).1 h))) (bc rfl (bc rfl (bc rfl (bc rfl b0))))) q0 (cc (fun _ => (@ev12 (f1) (f2) (a))) (cc (fun _ => (@ev14_y (false) (false) (false) (false) (false) (false) (a) (Sp.qi 0) (Sp.qi 0) d32)) (cc (fun hc => ((@ev15 (false) (false) (f1) (f2) (a) (a) (k34 ((i_at (i_at (i_bf (i_var _)))).1 hc))) : Ev M1 (Conf.pure 15 [ratA false false a, ratA f1 f2 a]) (vb (decide (a = a))) [])) c0))) ?_
          rcases xm (¬(a = a)) with d36 | d36
          · have H := H.1 d36
            exact path_re (G := given kp3 [] []) 1000 [true] (vb false) (by kernel_rfl) (bc (beq_t ((i_not i_dec).2 d36)) b0) q0 c0 H
          · have H := H.2 d36
            exact path_re (G := given kp3 [] []) 1000 [false, true] (vb true) (by kernel_rfl) (bc (beq_f (fun h => d36 ((i_not i_dec).1 h))) (bc rfl b0)) q0 c0 H
        · have H := H.2 d32
          obtain ⟨b2, H⟩ := H
          obtain ⟨k38, H⟩ := H
          exact path_re (G := given kp3 [(7, 1, .call (rootF a (Sp.qi 0) (Sp.qi 0)) none), (7, 2, .call (tu [zNxG1, vb false]) none), (8, 5, .call (vb b2) none)] []) 1000 [false, true] (calls := [⟨true, false, 12, [ratA f1 f2 a], [], rootF a (Sp.qi 0) (Sp.qi 0), []⟩, ⟨true, false, 14, [rootF a (Sp.qi 0) (Sp.qi 0)], [], tu [zNxG1, vb false], []⟩, ⟨true == false && true && true, false, 15, [zNxG1, ratA f1 f2 a], [], vb b2, []⟩]) (vb false) (by kernel_rfl) (bc (beq_f (fun h => d31 ((i_not i_dec).1 h))) (bc rfl (bc rfl (bc rfl (bc rfl (bc rfl b0)))))) q0 (cc (fun _ => (@ev12 (f1) (f2) (a))) (cc (fun _ => (@ev14_n (false) (false) (false) (false) (false) (false) (a) (Sp.qi 0) (Sp.qi 0) d32)) (cc (fun hc => ((k38 ((i_at (i_at (i_bf (i_var _)))).1 hc)) : Ev M1 (Conf.pure 15 [zNxG1, ratA f1 f2 a]) (vb b2) [])) c0))) H
noncomputable abbrev zNxG9 (s2 : Bool) (f2 : Bool) (x2 : List Int) (t2 : Bool) (g2 : Bool) (y2 : List Int) := ag [vb s2, AV.vec f2 1 (us x2), vb t2, AV.vec g2 1 (us y2)]
noncomputable abbrev zNxG10 (s3 : Bool) (f3 : Bool) (x3 : List Int) (t3 : Bool) (g3 : Bool) (y3 : List Int) := ag [vb s3, AV.vec f3 1 (us x3), vb t3, AV.vec g3 1 (us y3)]
theorem lwMakeR (s1 s2 s3 t1 t2 t3 f1 f2 f3 g1 g2 g3 : Bool) (x1 x2 x3 y1 y2 y3 : List Int)  (dq : AV) (H :
    (Sp.okU 4 x1 y1) /\
    ((¬(¬(Sp.smallB 4 s1 x1 t1 y1 = true))) -> (Sp.okU 4 x2 y2)) /\
    ((¬((¬(Sp.smallB 4 s1 x1 t1 y1 = true)) ∨ (¬(Sp.smallB 4 s2 x2 t2 y2 = true)))) -> (Sp.okU 4 x3 y3)) /\
    ((((¬(Sp.smallB 4 s1 x1 t1 y1 = true)) ∨ (¬(Sp.smallB 4 s2 x2 t2 y2 = true))) ∨ (¬(Sp.smallB 4 s3 x3 t3 y3 = true))) -> vb true = dq) /\
    (¬(((¬(Sp.smallB 4 s1 x1 t1 y1 = true)) ∨ (¬(Sp.smallB 4 s2 x2 t2 y2 = true))) ∨ (¬(Sp.smallB 4 s3 x3 t3 y3 = true))) -> False)) :
  lwMakeR_at s1 s2 s3 t1 t2 t3 f1 f2 f3 g1 g2 g3 x1 x2 x3 y1 y2 y3 (PureQ dq) := by
  unfold lwMakeR_at
  obtain ⟨k1, H⟩ := H
  obtain ⟨k3, H⟩ := H
  obtain ⟨k5, H⟩ := H
  refine path_wp (G := given kp3 [(1, 0, .call (vb true) none), (1, 4, .call (vb (Sp.smallB 4 s1 x1 t1 y1)) none), (1, 9, .call (vb (Sp.smallB 4 s2 x2 t2 y2)) none), (1, 14, .call (vb (Sp.smallB 4 s3 x3 t3 y3)) none)] []) 5 [] ⟨(atC (cd Try.f3) [1, 0, 1]), [(3, AV.ptr 0 0 0 0), (4, AV.ptr 1 0 0 0), (5, AV.ptr 2 0 0 0), (33, vb (bif bif !Sp.smallB 4 s1 x1 t1 y1 then true else !Sp.smallB 4 s2 x2 t2 y2 then true else !Sp.smallB 4 s3 x3 t3 y3))], [⟨[ag [vb s1, AV.vec f1 1 (us x1), vb t1, AV.vec g1 1 (us y1)]], 4, 0, false, false⟩, ⟨[(zNxG9 s2 f2 x2 t2 g2 y2)], 4, 0, false, false⟩, ⟨[(zNxG10 s3 f3 x3 t3 g3 y3)], 4, 0, false, false⟩], [true, !((!Sp.smallB 4 s1 x1 t1 y1) == false && true) || true, !((bif !Sp.smallB 4 s1 x1 t1 y1 then true else !Sp.smallB 4 s2 x2 t2 y2) == false && true) || true], [], [⟨true, false, 6, [], [], vb true, []⟩, ⟨true, false, 7, [ag [vb s1, AV.vec f1 1 (us x1), vb t1, AV.vec g1 1 (us y1)], vi 4], [], vb (Sp.smallB 4 s1 x1 t1 y1), []⟩, ⟨(!Sp.smallB 4 s1 x1 t1 y1) == false && true && true, false, 7, [(zNxG9 s2 f2 x2 t2 g2 y2), vi 4], [], vb (Sp.smallB 4 s2 x2 t2 y2), []⟩, ⟨(bif !Sp.smallB 4 s1 x1 t1 y1 then true else !Sp.smallB 4 s2 x2 t2 y2) == false && true && true, false, 7, [(zNxG10 s3 f3 x3 t3 g3 y3), vi 4], [], vb (Sp.smallB 4 s3 x3 t3 y3), []⟩]⟩ (by kernel_rfl) (bc rfl (bc (Bool.or_true _) (bc (Bool.or_true _) b0))) q0 (cc (fun _ => (@ev6 )) (cc (fun _ => (@ev7 (s1) (f1) (t1) (g1) (x1) (y1) (4) k1)) (cc (fun hc => ((@ev7 (s2) (f2) (t2) (g2) (x2) (y2) (4) (k3 ((i_at (i_at (i_bf (i_not (i_var _))))).1 hc))) : Ev M1 (Conf.pure 7 [(zNxG9 s2 f2 x2 t2 g2 y2), vi 4]) (vb (Sp.smallB 4 s2 x2 t2 y2)) [])) (cc (fun hc => ((@ev7 (s3) (f3) (t3) (g3) (x3) (y3) (4) (k5 ((i_at (i_at (i_bf (i_bor (i_not (i_var _)) (i_not (i_var _)))))).1 hc))) : Ev M1 (Conf.pure 7 [(zNxG10 s3 f3 x3 t3 g3 y3), vi 4]) (vb (Sp.smallB 4 s3 x3 t3 y3)) [])) c0)))) ?_
  rcases xm (((¬(Sp.smallB 4 s1 x1 t1 y1 = true)) ∨ (¬(Sp.smallB 4 s2 x2 t2 y2 = true))) ∨ (¬(Sp.smallB 4 s3 x3 t3 y3 = true))) with d7 | d7
  · have H := H.1 d7
    exact path_re (G := given kp3 [(2, 0, .call (vb true) none)] []) 1000 [true] (asm := [(bif bif !Sp.smallB 4 s1 x1 t1 y1 then true else !Sp.smallB 4 s2 x2 t2 y2 then true else !Sp.smallB 4 s3 x3 t3 y3) == true]) (vb true) (by kernel_rfl) (bc (beq_t ((i_bor (i_bor (i_not (i_var _)) (i_not (i_var _))) (i_not (i_var _))).2 d7)) b0) q0 (ce (@ev6 ) c0) H
  · have H := H.2 d7
    exact False.elim H
end Go.Av

namespace Go.Av
open Go.Proofs
theorem small_rat {s t : Bool} {x y : List Int} (h : Sp.smallB 4 s x t y = true) : ∃ r : Rat, Sp.okT 4 r ∧ s = Sp.isNeg r.num ∧ x = Sp.limI r.num ∧ t = Sp.isNeg (r.den : Int) ∧ y = Sp.limI (r.den : Int) := by
  obtain ⟨h1, h2, r, rfl, rfl, rfl, rfl⟩ := smallB_iff.1 h
  rw [limI_len] at h1 h2
  rw [Int.natAbs_natCast] at h2
  exact ⟨r, ⟨by omega, by omega⟩, rfl, rfl, rfl, rfl⟩
theorem okT_mkA {k : Nat} {a b c : Rat} (ha : Sp.okT k a) (hb : Sp.okT k b) (hc : Sp.okT k c) : Sp.okT (3 * k + 1) (Sp.mkA a b c) := by
  unfold Sp.mkA
  split
  · rename_i s
    exact okT_le (okT_add ha (okT_mul hb (okT_rt s hc))) (by omega)
  · exact okT_le ha (by omega)
theorem okT_q0 : Sp.okT 1 (Sp.qi 0) := by rw [qi_zero]; exact okT_zero
theorem okT_mkB {k : Nat} {b c : Rat} (hb : Sp.okT k b) : Sp.okT (k + 1) (Sp.mkB b c) := by
  unfold Sp.mkB
  split
  · exact okT_le okT_q0 (by omega)
  · exact okT_le hb (by omega)
theorem okT_rad {k : Nat} {b c : Rat} (hc : Sp.okT k c) : Sp.okT (k + 1) (Sp.rad b c) := by
  unfold Sp.rad
  split
  · exact okT_le okT_q0 (by omega)
  · exact okT_le hc (by omega)
theorem okT_mkC {k : Nat} {b c : Rat} (hc : Sp.okT k c) : Sp.okT (k + 1) (Sp.mkC b c) := by
  unfold Sp.mkC
  split
  · exact okT_le okT_q0 (by omega)
  · exact okT_rad hc
theorem okO_mk {k : Nat} {a b c : Rat} (ha : Sp.okT k a) (hb : Sp.okT k b) (hc : Sp.okT k c) (hk : k ≤ 2999) : Sp.okO (Sp.mkA a b c) (Sp.mkB b c) (Sp.mkC b c) :=
  ⟨okT_le (okT_mkA ha hb hc) (by omega), okT_le (okT_mkB hb) (by omega), okT_le (okT_mkC hc) (by omega)⟩
theorem ev3 (s1 s2 s3 t1 t2 t3 f1 f2 f3 g1 g2 g3 : Bool) (x1 x2 x3 y1 y2 y3 : List Int) (h : (Sp.okU 4 x1 y1) ∧ (Sp.okU 4 x2 y2) ∧ Sp.okU 4 x3 y3) : Ev M1 (.pure 3 [.agg [.bool s1, .vec f1 1 (x1.map (.int .u32)), .bool t1, .vec g1 1 (y1.map (.int .u32))], .agg [.bool s2, .vec f2 1 (x2.map (.int .u32)), .bool t2, .vec g2 1 (y2.map (.int .u32))], .agg [.bool s3, .vec f3 1 (x3.map (.int .u32)), .bool t3, .vec g3 1 (y3.map (.int .u32))]]) (.bool true) [] := by
  obtain ⟨u1, u2, u3⟩ := h
  by_cases k1 : Sp.smallB 4 s1 x1 t1 y1 = true
  · by_cases k2 : Sp.smallB 4 s2 x2 t2 y2 = true
    · by_cases k3 : Sp.smallB 4 s3 x3 t3 y3 = true
      · obtain ⟨a, ha, rfl, rfl, rfl, rfl⟩ := small_rat k1
        obtain ⟨b, hb, rfl, rfl, rfl, rfl⟩ := small_rat k2
        obtain ⟨c, hc, rfl, rfl, rfl, rfl⟩ := small_rat k3
        have om := okO_mk ha hb hc (by omega)
        have oo := okT_O ha hb hc (by omega)
        have o0 : Sp.okO a (Sp.qi 0) (Sp.qi 0) := okT_O (k := 4) ha (okT_le okT_q0 (by omega)) (okT_le okT_q0 (by omega)) (by omega)
        have z : Sp.qi 0 = 0 := qi_zero
        have ra : Sp.okR a := okT_R ha (by omega)
        have rm : Sp.okR (Sp.mkA a b c) := okT_R om.1 (by omega)
        refine call3 (lwMake _ _ _ _ _ _ _ _ _ _ ⟨u1, fun _ => u2, fun _ => u3, fun _ => rfl, fun _ => ⟨fun _ => ⟨oo, ⟨om, om⟩, fun _ => ⟨o0, o0⟩, fun k => ?_, fun _ => ⟨fun _ => ⟨fun _ => ⟨ra, ra⟩, fun k => absurd rfl k, fun _ => ⟨fun _ => ⟨fun _ => ⟨rm, rm⟩, ?_⟩, fun _ => rfl⟩⟩, fun k => absurd z k⟩⟩, fun _ => ⟨oo, ⟨o0, o0⟩, fun k => absurd ⟨rfl, rfl, rfl⟩ k, fun _ => ⟨fun _ => ⟨fun _ => ⟨ra, ra⟩, fun k => absurd rfl k, fun _ => rfl⟩, fun k => absurd z k⟩⟩⟩⟩)
        · rcases k with k | k
          · exact absurd ⟨rfl, rfl, rfl⟩ k
          · exact absurd ⟨rfl, rfl, rfl⟩ k
        · rw [decide_eq_true rfl]
      · exact call3 (lwMakeR _ _ _ _ _ _ _ _ _ _ _ _ _ _ _ _ _ _ _ ⟨u1, fun _ => u2, fun _ => u3, fun _ => rfl, fun k => absurd (.inr k3) k⟩)
    · exact call3 (lwMakeR _ _ _ _ _ _ _ _ _ _ _ _ _ _ _ _ _ _ _ ⟨u1, fun _ => u2, fun _ => u3, fun _ => rfl, fun k => absurd (.inl (.inr k2)) k⟩)
  · exact call3 (lwMakeR _ _ _ _ _ _ _ _ _ _ _ _ _ _ _ _ _ _ _ ⟨u1, fun _ => u2, fun _ => u3, fun _ => rfl, fun k => absurd (.inl (.inl k1)) k⟩)
end Go.Av
