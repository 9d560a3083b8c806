/- WHAT Expand OF THE PROGRAM ANSWERS. -/
import Derived.Test.YtfndgoannijhpaaVcF
import Derived.Test.YtfndgoannijhpaaCycE
namespace Go.Av
open Go.Proofs

/-- The moves at further positions, or too many of them. -/
def Sp.run (code r z q rate ini : Int) (high : Bool) : List G2 → Ps → List Mv → Option (List Mv)
  | [], _, l => some l
  | g :: gs, p, l =>
    let l' := Sp.oneL code r z q rate ini high p.x p.y p.z g.x g.y l
    if l'.length > 20000 then none else Sp.run code r z q rate ini high gs ⟨g.x, g.y, if high = true then ini else r⟩ l'

section
variable (code r z q rate ini : Int) (high fl : Bool) (gs : List G2) (d : List Int)

/-- The head of the loop over the positions, whatever has been moved. -/
def at2 (x y h i : Int) (l : List Mv) (Q : AV → Heap → Prop) : Prop :=
  match l with
  | [] => v17b_at code r z q rate ini high fl gs d x y h gs.length i Q
  | m :: l => v17c_at code r z q rate ini high fl gs d x y h gs.length i (m :: l) l.length Q
/-- The head of the loop over the depths. -/
def at3 (x y h gx gy i j : Int) (l : List Mv) (Q : AV → Heap → Prop) : Prop :=
  match l with
  | [] => v17d_at code r z q rate ini high fl gs d x y h gx gy gs.length i d.length j Q
  | m :: l => v17e_at code r z q rate ini high fl gs d x y h gx gy gs.length i d.length j (m :: l) l.length Q

variable {code r z q rate ini high fl gs d}
theorem at2_row {x y h i : Int} {l : List Mv} {v : Nat} {Q : AV → Heap → Prop} (hv : l.length = v + 1) : at2 code r z q rate ini high fl gs d x y h i l Q = v17c_at code r z q rate ini high fl gs d x y h gs.length i l v Q := by
  cases l with
  | nil => simp at hv
  | cons m l => simp at hv; subst hv; rfl
theorem at3_row {x y h gx gy i j : Int} {l : List Mv} {v : Nat} {Q : AV → Heap → Prop} (hv : l.length = v + 1) : at3 code r z q rate ini high fl gs d x y h gx gy i j l Q = v17e_at code r z q rate ini high fl gs d x y h gx gy gs.length i d.length j l v Q := by
  cases l with
  | nil => simp at hv
  | cons m l => simp at hv; subst hv; rfl

theorem toL_one {p q : Ps} {rate : Int} (h : ¬p = q) : Sp.toL [] p q rate = [⟨if rate > 0 then 2 else 1, q, rate⟩] := by
  unfold Sp.toL; simp [h]

variable (hr1 : 1 ≤ rate)
include hr1

theorem at3_step {dq : AV} {x y h gx gy i : Int} {j : Nat} {l : List Mv} (hj : j < d.length) (hd : d.length ≤ 1001) (hl : l.length ≤ 900000)
    (k : at3 code r z q rate ini high fl gs d gx gy r gx gy i (j + 1 : Nat) (Sp.toL (Sp.toL l ⟨x, y, h⟩ ⟨gx, gy, d.getD j default⟩ rate) ⟨gx, gy, d.getD j default⟩ ⟨gx, gy, r⟩ 0) (PureQ dq)) :
    at3 code r z q rate ini high fl gs d x y h gx gy i j l (PureQ dq) := by
  have h3 := toL_le l ⟨x, y, h⟩ ⟨gx, gy, d.getD j default⟩ rate
  have e2 : Sp.kindOk 2 rate := by unfold Sp.kindOk; rw [if_pos (by omega)]
  have e1 : Sp.kindOk 1 0 := by simp [Sp.kindOk]
  have jj : ((j + 1 : Nat) : Int) = (j : Int) + 1 := by omega
  rw [jj] at k
  cases l with
  | nil =>
    refine v17d _ _ _ _ _ _ _ _ _ _ _ _ _ _ _ _ _ _ _ _ ⟨fun _ => ⟨by omega, by omega, ?_⟩, fun h => by omega⟩
    rw [Int.toNat_natCast]
    refine ⟨fun c1 => ⟨fun c2 => ⟨by omega, ?_⟩, fun c2 => ⟨e1, by omega, ?_⟩⟩, fun c1 => ⟨e2, by omega, e1, by omega, ?_⟩⟩
    · rw [toL_eq (l := []) (by rw [Ps.mk.injEq]; exact c1), toL_eq (by rw [Ps.mk.injEq]; exact c2)] at k
      exact k
    · rw [toL_eq (l := []) (p := ⟨x, y, h⟩) (by rw [Ps.mk.injEq]; exact c1)] at k
      rwa [at3_row (v := 0) (toL_nil (by rw [Ps.mk.injEq]; exact c2))] at k
    · rwa [at3_row (toL_bump (toL_nil (by rw [Ps.mk.injEq]; exact c1)))] at k
  | cons m l =>
    refine v17e _ _ _ _ _ _ _ _ _ _ _ _ _ _ _ _ _ _ _ _ _ _ ⟨fun _ => ⟨by omega, by omega, by omega, e2, ?_⟩, fun h => by omega⟩
    simp only [Int.toNat_natCast]
    refine ⟨by omega, e1, by omega, ?_⟩
    rwa [at3_row (toL_bump (toL_bump (v := l.length) rfl))] at k

omit hr1 in
theorem at3_end {dq : AV} {x y h gx gy : Int} {i j : Nat} {l : List Mv} (hj : j = d.length) (hl : l.length ≤ 900000) (hi : i < gs.length) (hgs : gs.length ≤ 1000)
    (k1 : (if high = true then Sp.toL l ⟨x, y, h⟩ ⟨gx, gy, ini⟩ 0 else l).length > 20000 → Weak (.tup [.vnil, .int .i64 3]) dq)
    (k2 : ¬(if high = true then Sp.toL l ⟨x, y, h⟩ ⟨gx, gy, ini⟩ 0 else l).length > 20000 → at2 code r z q rate ini high fl gs d (if high = true then gx else x) (if high = true then gy else y) (if high = true then ini else h) (i + 1 : Nat) (if high = true then Sp.toL l ⟨x, y, h⟩ ⟨gx, gy, ini⟩ 0 else l) (PureQ dq)) :
    at3 code r z q rate ini high fl gs d x y h gx gy i j l (PureQ dq) := by
  have e1 : Sp.kindOk 1 0 := by simp [Sp.kindOk]
  have jj : ((i + 1 : Nat) : Int) = (i : Int) + 1 := by omega
  rw [jj] at k2
  have big : ∀ {n : Nat}, (n : Int) > 20000 ↔ n > 20000 := by omega
  cases l with
  | nil =>
    refine v17d _ _ _ _ _ _ _ _ _ _ _ _ _ _ _ _ _ _ _ _ ⟨fun h => by omega, fun _ => ⟨fun hh => ⟨fun c1 => ⟨by omega, ?_⟩, fun c1 => ⟨e1, ?_, ?_⟩⟩, fun hh => ⟨by omega, ?_⟩⟩⟩
    · simp only [if_pos hh] at k2
      rw [toL_eq (by rw [Ps.mk.injEq]; exact c1)] at k2
      exact k2 (by simp)
    · simp only [if_pos hh] at k1
      rw [big]; exact k1
    · simp only [if_pos hh] at k2
      intro hn
      rw [big] at hn
      have k2 := k2 hn
      rw [at2_row (v := 0) (toL_nil (by rw [Ps.mk.injEq]; exact c1))] at k2
      exact ⟨by omega, k2⟩
    · simp only [if_neg hh] at k2
      exact k2 (by simp)
  | cons m l =>
    refine v17e _ _ _ _ _ _ _ _ _ _ _ _ _ _ _ _ _ _ _ _ _ _ ⟨fun h => by omega, fun _ => ⟨fun hh => ⟨by omega, e1, ?_, ?_⟩, fun hh => ⟨?_, ?_⟩⟩⟩
    · simp only [if_pos hh] at k1
      rw [big]; exact k1
    · simp only [if_pos hh] at k2
      intro hn
      rw [big] at hn
      have k2 := k2 hn
      rw [at2_row (toL_bump (v := l.length) rfl)] at k2
      exact ⟨by omega, k2⟩
    · simp only [if_neg hh] at k1
      rw [big]; exact k1
    · simp only [if_neg hh] at k2
      intro hn
      rw [big] at hn
      exact ⟨by omega, k2 hn⟩

omit hr1 in
theorem at2_step {dq : AV} {x y h : Int} {i : Nat} {l : List Mv} (hi : i < gs.length) (hl : l.length ≤ 900000)
    (k : at3 code r z q rate ini high fl gs d (gs.getD i default).x (gs.getD i default).y r (gs.getD i default).x (gs.getD i default).y i (0 : Nat)
      (Sp.toL (Sp.toL (Sp.toL l ⟨x, y, h⟩ ⟨x, y, if r > h then r else h⟩ 0) ⟨x, y, if r > h then r else h⟩ ⟨(gs.getD i default).x, (gs.getD i default).y, if r > h then r else h⟩ 0) ⟨(gs.getD i default).x, (gs.getD i default).y, if r > h then r else h⟩ ⟨(gs.getD i default).x, (gs.getD i default).y, r⟩ 0) (PureQ dq)) :
    at2 code r z q rate ini high fl gs d x y h i l (PureQ dq) := by
  have e1 : Sp.kindOk 1 0 := by simp [Sp.kindOk]
  have h1 := toL_le l ⟨x, y, h⟩ ⟨x, y, if r > h then r else h⟩ 0
  have h2 := toL_le (Sp.toL l ⟨x, y, h⟩ ⟨x, y, if r > h then r else h⟩ 0) ⟨x, y, if r > h then r else h⟩ ⟨(gs.getD i default).x, (gs.getD i default).y, if r > h then r else h⟩ 0
  have h4 := toL_le l ⟨x, y, h⟩ ⟨(gs.getD i default).x, (gs.getD i default).y, h⟩ 0
  cases l with
  | nil =>
    refine v17b _ _ _ _ _ _ _ _ _ _ _ _ _ _ _ _ ⟨fun _ => ⟨by omega, by omega, ?_⟩, fun h => by omega⟩
    rw [Int.toNat_natCast]
    refine ⟨fun hh => ?_, fun hh => ?_⟩
    · simp only [gt_iff_lt, if_pos hh] at k h1 h2
      refine ⟨fun c1 => ⟨fun c2 => ⟨fun c3' => ?_, fun c3 => absurd ⟨rfl, rfl, rfl⟩ c3⟩, fun c2 => ⟨e1, by omega, ?_⟩⟩, fun c1 => ⟨e1, by omega, by omega, ?_⟩⟩
      · rw [toL_eq (l := []) (by rw [Ps.mk.injEq]; exact c1), toL_eq (l := []) (by rw [Ps.mk.injEq]; exact c2), toL_eq (l := []) rfl] at k
        exact k
      · rw [toL_eq (l := []) (p := ⟨x, y, h⟩) (by rw [Ps.mk.injEq]; exact c1), at3_row (toL_bump (toL_nil (by rw [Ps.mk.injEq]; exact c2)))] at k
        exact k
      · rw [at3_row (toL_bump (toL_bump (toL_nil (by rw [Ps.mk.injEq]; exact c1))))] at k
        exact k
    · simp only [gt_iff_lt, if_neg hh] at k h1 h2
      rw [toL_eq (l := []) (p := ⟨x, y, h⟩) rfl] at k
      refine ⟨fun c1 => ⟨fun c2 => ?_, fun c2 => ⟨e1, ?_⟩⟩, fun c1 => ⟨e1, by omega, ?_⟩⟩
      · rw [toL_eq (l := []) (p := ⟨x, y, h⟩) (by rw [Ps.mk.injEq]; exact c1), toL_eq (l := []) (by rw [Ps.mk.injEq]; exact c2)] at k
        exact k
      · rw [toL_eq (l := []) (p := ⟨x, y, h⟩) (by rw [Ps.mk.injEq]; exact c1), at3_row (v := 0) (toL_nil (by rw [Ps.mk.injEq]; exact c2))] at k
        exact k
      · rw [at3_row (toL_bump (toL_nil (by rw [Ps.mk.injEq]; exact c1)))] at k
        exact k
  | cons m l =>
    refine v17c _ _ _ _ _ _ _ _ _ _ _ _ _ _ _ _ _ _ ⟨fun _ => ⟨by omega, by omega, ?_⟩, fun h => by omega⟩
    simp only [Int.toNat_natCast]
    refine ⟨fun hh => ⟨by omega, e1, ?_⟩, fun hh => ⟨by omega, e1, by omega, ?_⟩⟩
    · simp only [gt_iff_lt, if_pos hh] at k h1 h2
      rw [at3_row (toL_bump (toL_bump (toL_bump (v := l.length) rfl)))] at k
      exact ⟨by omega, by omega, k⟩
    · simp only [gt_iff_lt, if_neg hh] at k
      rw [toL_eq (p := ⟨x, y, h⟩) (q := ⟨x, y, h⟩) rfl, at3_row (toL_bump (toL_bump (v := l.length) rfl))] at k
      exact k

/-- All depths at a position. -/
theorem loop3 {dq : AV} {gx gy : Int} {i : Nat} (hd : d.length ≤ 1001) (hi : i < gs.length) (hgs : gs.length ≤ 1000) : ∀ (m j : Nat) (l : List Mv), j + m = d.length → l.length + 2 * m ≤ 800000 →
    (let f := Sp.dl gx gy r rate (d.drop j) l
     let f := if high = true then Sp.toL f ⟨gx, gy, r⟩ ⟨gx, gy, ini⟩ 0 else f
     (f.length > 20000 → Weak (.tup [.vnil, .int .i64 3]) dq) ∧ (¬f.length > 20000 → at2 code r z q rate ini high fl gs d gx gy (if high = true then ini else r) (i + 1 : Nat) f (PureQ dq))) →
    at3 code r z q rate ini high fl gs d gx gy r gx gy i j l (PureQ dq) := by
  intro m
  induction m with
  | zero =>
    intro j l hj hl ⟨k1, k2⟩
    rw [List.drop_eq_nil_of_le (by omega)] at k1 k2
    exact at3_end (by omega) (by omega) hi hgs k1 (by simp only [ite_self]; exact k2)
  | succ m ih =>
    intro j l hj hl k
    rw [drop_getD (show j < d.length by omega)] at k
    have h3 := toL_le l ⟨gx, gy, r⟩ ⟨gx, gy, d.getD j default⟩ rate
    have h2 := toL_le (Sp.toL l ⟨gx, gy, r⟩ ⟨gx, gy, d.getD j default⟩ rate) ⟨gx, gy, d.getD j default⟩ ⟨gx, gy, r⟩ 0
    exact at3_step hr1 (by omega) hd (by omega) (ih (j + 1) _ (by omega) (by omega) k)
end

/-- The moves as they are returned. -/
def mvA : List Mv → AV
  | [] => .vnil
  | m :: l => .vec false 7 ((m :: l).map Mv.a)

theorem loop2 {code r z q rate ini : Int} {high fl : Bool} {gs : List G2} {dq : AV} (hv : validE code r z q rate ini = 0) (hgs : gs.length ≤ 1000) : ∀ (m i : Nat) (x y h : Int) (l : List Mv), i + m = gs.length → l.length ≤ 20000 →
    Weak (AV.tup (match Sp.run code r z q rate ini high (gs.drop i) ⟨x, y, h⟩ l with | some f => [mvA f, .int .i64 0] | none => [.vnil, .int .i64 3])) dq →
    at2 code r z q rate ini high fl gs (Sp.depths code r z q rate ini) x y h i l (PureQ dq) := by
  intro m
  induction m with
  | zero =>
    intro i x y h l hi hl k
    rw [List.drop_eq_nil_of_le (by omega), Sp.run] at k
    cases l with
    | nil => exact v17b _ _ _ _ _ _ _ _ _ _ _ _ _ _ _ _ ⟨fun h => by omega, fun _ => k⟩
    | cons m l => exact v17c _ _ _ _ _ _ _ _ _ _ _ _ _ _ _ _ _ _ ⟨fun h => by omega, fun _ => k⟩
  | succ m ih =>
    intro i x y h l hi hl k
    have hlt : i < gs.length := by omega
    obtain ⟨-, -, -, -, -, hr1, -, -, -⟩ := valid_facts hv
    obtain ⟨g1, -, -⟩ := Sp.depths_spec hv
    rw [drop_getD hlt, Sp.run] at k
    refine at2_step hlt (by omega) ?_
    have h1 := toL_le l ⟨x, y, h⟩ ⟨x, y, if r > h then r else h⟩ 0
    have h2 := toL_le (Sp.toL l ⟨x, y, h⟩ ⟨x, y, if r > h then r else h⟩ 0) ⟨x, y, if r > h then r else h⟩ ⟨(gs.getD i default).x, (gs.getD i default).y, if r > h then r else h⟩ 0
    have h3 := toL_le (Sp.toL (Sp.toL l ⟨x, y, h⟩ ⟨x, y, if r > h then r else h⟩ 0) ⟨x, y, if r > h then r else h⟩ ⟨(gs.getD i default).x, (gs.getD i default).y, if r > h then r else h⟩ 0) ⟨(gs.getD i default).x, (gs.getD i default).y, if r > h then r else h⟩ ⟨(gs.getD i default).x, (gs.getD i default).y, r⟩ 0
    refine loop3 hr1 g1 hlt hgs _ 0 _ (Nat.zero_add _) (by omega) ?_
    simp only [List.drop_zero]
    simp only [Sp.oneL] at k
    refine ⟨fun hb => ?_, fun hb => ?_⟩
    · rw [if_pos hb] at k; exact k
    · rw [if_neg hb] at k
      exact ih (i + 1) _ _ _ _ (by omega) (by omega) k

def Sp.farG (gs : List G2) : Bool := gs.any fun g => farI g.x || farI g.y

theorem loop1 {code r z q rate ini : Int} {high fl : Bool} {gs : List G2} {d : List Int} {x y h : Int} {dq : AV} (hgs : gs.length ≤ 1000) : ∀ (m i : Nat) (b : Bool), i + m = gs.length →
    ((b || Sp.farG (gs.drop i)) = true → Weak (.tup [.vnil, .int .i64 11]) dq) → (¬(b || Sp.farG (gs.drop i)) = true → v17b_at code r z q rate ini high fl gs d x y h gs.length 0 (PureQ dq)) →
    v17a_at code r z q rate ini high fl gs d x y h gs.length i b (PureQ dq) := by
  intro m
  induction m with
  | zero =>
    intro i b hi k1 k2
    rw [List.drop_eq_nil_of_le (by omega)] at k1 k2
    simp only [Sp.farG, List.any_nil, Bool.or_false] at k1 k2
    exact v17a _ _ _ _ _ _ _ _ _ _ _ _ _ _ _ _ _ ⟨fun h => by omega, fun _ => ⟨k1, k2⟩⟩
  | succ m ih =>
    intro i b hi k1 k2
    have hlt : i < gs.length := by omega
    rw [drop_getD hlt] at k1 k2
    refine v17a _ _ _ _ _ _ _ _ _ _ _ _ _ _ _ _ _ ⟨fun _ => ⟨by omega, by omega, by omega, ?_⟩, fun h => by omega⟩
    simp only [Int.toNat_natCast]
    have e : (b || Sp.farG (gs.getD i default :: gs.drop (i + 1))) = ((bif bif b then true else decide ((gs.getD i default).x > 10000000) || decide ((gs.getD i default).x < -10000000) then true else decide ((gs.getD i default).y > 10000000) || decide ((gs.getD i default).y < -10000000)) || Sp.farG (gs.drop (i + 1))) := by
      simp only [Sp.farG, List.any_cons, farI, bif_or, Bool.or_assoc]
    rw [e] at k1 k2
    exact ih (i + 1) _ (by omega) k1 k2

/-- What Expand answers: moves and an error. -/
def Sp.expand (code r z q rate ini : Int) (high : Bool) (p : Ps) (gs : List G2) : List Mv × Int :=
  if validE code r z q rate ini = 0 then
    if (farI p.x || farI p.y || farI p.z || Sp.farG gs) = true then ([], 11)
    else match Sp.run code r z q rate ini high gs p [] with
      | some f => (f, 0)
      | none => ([], 3)
  else ([], validE code r z q rate ini)

theorem weak_mv (l : List Mv) (n : Int) : Weak (.tup [mvA l, .int .i64 n]) (.tup [.vec false 7 (l.map Mv.a), .int .i64 n]) := by
  cases l with
  | nil => exact weak_tup1
  | cons m l => exact .refl _

theorem ev17 (code r z q rate ini : Int) (high fl : Bool) (gs : List G2) (x y h : Int) (hgs : gs.length ≤ 1000) :
    Ev M1 (.pure 17 [cyc code r z q rate ini high, .agg [.int .i64 x, .int .i64 y, .int .i64 h], .vec fl 2 (gs.map G2.a)])
      (.tup [.vec false 7 ((Sp.expand code r z q rate ini high ⟨x, y, h⟩ gs).1.map Mv.a), .int .i64 (Sp.expand code r z q rate ini high ⟨x, y, h⟩ gs).2]) [] := by
  refine call17 (v17 code r z q rate ini high fl gs x y h _ ⟨fun hv => ?_, fun hv => ?_⟩)
  · unfold Sp.expand; rw [if_neg hv]; exact weak_tup1
  · have hv := Classical.not_not.1 hv
    have e : (bif bif decide (x > 10000000) || decide (x < -10000000) then true else decide (y > 10000000) || decide (y < -10000000) then true else decide (h > 10000000) || decide (h < -10000000)) = (farI x || farI y || farI h) := by
      simp only [bif_or, farI]
    rw [e]
    refine loop1 hgs _ 0 _ (Nat.zero_add _) (fun k => ?_) (fun k => ?_)
    · rw [List.drop_zero] at k
      unfold Sp.expand; rw [if_pos hv, if_pos k]; exact weak_tup1
    · rw [List.drop_zero] at k
      refine loop2 hv hgs _ 0 x y h [] (Nat.zero_add _) (by simp) ?_
      unfold Sp.expand
      rw [if_pos hv, if_neg k, List.drop_zero]
      cases Sp.run code r z q rate ini high gs ⟨x, y, h⟩ [] with
      | none => exact weak_tup1
      | some f => exact weak_mv f 0
end Go.Av
