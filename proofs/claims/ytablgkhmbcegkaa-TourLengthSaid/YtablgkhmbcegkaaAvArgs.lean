/- THE ARGUMENTS OF A STATEMENT, read as trees. No program in sight. -/
import Derived.Test.YtablgkhmbcegkaaAvSound
import Derived.ProofKit
import Derived.OpenShut
namespace Go.Av
open Go.RowKit Go.WideShapes Go.ChangeShapes

/-- The parts of a row of fields. -/
def TyL (R : TypeId → List AV → Prop) : List TypeId → List AV → Prop
  | [], cs => cs = []
  | t :: ts, cs => ∃ a b, cs = a ++ b ∧ R t a ∧ TyL R ts b

def aggT (P : Program) (t : TypeId) : Bool :=
  match P.underlying t with
  | some (.struct _) | some (.array _ _) => true
  | _ => false

def packA (P : Program) (t : TypeId) (cs : List AV) : AV := if aggT P t = true then .agg cs else cs.headD .any

/-- The cells of a value of type t. -/
def Ty (P : Program) : Nat → TypeId → List AV → Prop
  | 0, _, _ => False
  | n + 1, t, cs =>
    match P.underlying t with
    | some .bool => ∃ b, cs = [.bool b]
    | some (.int k) => ∃ m, cs = [.int k m] ∧ k.min ≤ m ∧ m ≤ k.max
    | some .string => ∃ s, cs = [.str s] ∧ s.length ≤ maxLen
    | some (.slice e) => ∃ xs, cs = [.vec false (P.cellsOf e) xs] ∧ xs.length ≤ maxLen ∧ ∀ x ∈ xs, ∃ ys, Ty P n e ys ∧ x = packA P e ys
    | some (.struct fs) => TyL (Ty P n) (fs.toList.map (·.type)) cs
    | some (.array m e) => TyL (Ty P n) (List.replicate m e) cs
    | _ => False

/-- The fields lie one behind the other. -/
def laidFrom (P : Program) : Nat → List Field → Nat → Bool
  | off, [], n => off == n
  | off, f :: fs, n => f.offset == off && laidFrom P (off + P.cellsOf f.type) fs n

def served (P : Program) : Nat → TypeId → Bool
  | 0, _ => false
  | n + 1, t =>
    match P.underlying t with
    | some .bool | some (.int _) | some .string => P.cellsOf t == 1
    | some (.slice e) => P.cellsOf t == 1 && served P n e && Nat.blt 0 (P.cellsOf e)
    | some (.struct fs) => (fs.toList.all fun f => served P n f.type) && laidFrom P 0 fs.toList (P.cellsOf t)
    | some (.array m e) => served P n e && P.cellsOf t == m * P.cellsOf e
    | _ => false

def S0 (w : World) : St := ⟨w.heap.size, fun _ _ => True, [], [], w⟩

structure RelD (w : World) (as : List AV) (cs : List Value) : Prop where
  len : as.length = cs.length
  plain : as.all AV.plain = true
  rel : ∀ (i : Nat) a c, as[i]? = some a → cs[i]? = some c → DRel (S0 w) a c

theorem RelD.append {w : World} {as bs : List AV} {cs ds : List Value} (h : RelD w as cs) (k : RelD w bs ds) : RelD w (as ++ bs) (cs ++ ds) := by
  refine ⟨by simp [h.len, k.len], by simp [List.all_append, h.plain, k.plain], fun i a c ha hc => ?_⟩
  by_cases hi : i < as.length
  · rw [List.getElem?_append_left hi] at ha
    rw [List.getElem?_append_left (by rw [← h.len]; exact hi)] at hc
    exact h.rel i a c ha hc
  · rw [List.getElem?_append_right (by omega)] at ha
    rw [List.getElem?_append_right (by have := h.len; omega), ← h.len] at hc
    exact k.rel _ a c ha hc

theorem RelD.one {w : World} {a : AV} {c : Value} (hp : a.plain = true) (h : DRel (S0 w) a c) : RelD w [a] [c] :=
  ⟨rfl, by simp [hp], fun i x y hx hy => by cases i with
    | zero => simp at hx hy; subst hx; subst hy; exact h
    | succ i => simp at hx⟩

/-- A list whose elements are all had. -/
theorem list_of {α : Type} {R : Nat → α → Prop} : ∀ (n : Nat), (∀ i, i < n → ∃ x, R i x) → ∃ xs : List α, xs.length = n ∧ ∀ (i : Nat) x, xs[i]? = some x → R i x
  | 0, _ => ⟨[], rfl, by simp⟩
  | n + 1, h => by
    obtain ⟨xs, h1, h2⟩ := list_of n (fun i hi => h i (by omega))
    obtain ⟨x, hx⟩ := h n (by omega)
    refine ⟨xs ++ [x], by simp [h1], fun i y hy => ?_⟩
    by_cases hi : i < xs.length
    · rw [List.getElem?_append_left hi] at hy; exact h2 i y hy
    · rw [List.getElem?_append_right (by omega)] at hy
      have : i = n := by
        have := (List.getElem?_eq_some_iff.1 hy).1
        simp at this; omega
      subst this
      rw [h1] at hy
      simp at hy; subst hy; exact hx

section
variable {H : Type} {enc : TypeId × Value → H} {P : Program} {w : World} {sp : Nat → Bool} {held : Bool}

theorem read_parts {R : TypeId → List AV → Prop} : ∀ (fs : List Field) (off : Nat) (cs : List Value), laidFrom P off fs cs.length = true →
    (∀ f ∈ fs, ∃ as, R f.type as ∧ RelD w as ((cs.drop f.offset).take (P.cellsOf f.type)) ∧ ((cs.drop f.offset).take (P.cellsOf f.type)).length = P.cellsOf f.type) →
    ∃ as, TyL R (fs.map (·.type)) as ∧ RelD w as (cs.drop off)
  | [], off, cs, hl, _ => by
    simp only [laidFrom, beq_iff_eq] at hl
    refine ⟨[], rfl, ?_⟩
    rw [List.drop_eq_nil_of_le (by omega)]
    exact ⟨rfl, rfl, by simp⟩
  | f :: fs, off, cs, hl, h => by
    simp only [laidFrom, Bool.and_eq_true, beq_iff_eq] at hl
    obtain ⟨rfl, hl⟩ := hl
    obtain ⟨as, h1, h2, h3⟩ := h f (List.mem_cons_self ..)
    obtain ⟨bs, k1, k2⟩ := read_parts fs _ cs hl (fun g hg => h g (List.mem_cons_of_mem _ hg))
    refine ⟨as ++ bs, ⟨as, bs, rfl, h1, k1⟩, ?_⟩
    have := h2.append k2
    rwa [← List.drop_drop, List.take_append_drop] at this

theorem read_same {R : TypeId → List AV → Prop} {e : TypeId} {z : Nat} : ∀ (m : Nat) (cs : List Value), cs.length = m * z →
    (∀ i, i < m → ∃ as, R e as ∧ RelD w as ((cs.drop (i * z)).take z)) → ∃ as, TyL R (List.replicate m e) as ∧ RelD w as cs
  | 0, cs, hl, _ => by
    have : cs = [] := List.length_eq_zero_iff.1 (by simpa using hl)
    subst this
    exact ⟨[], rfl, rfl, rfl, by simp⟩
  | m + 1, cs, hl, h => by
    obtain ⟨as, h1, h2⟩ := h 0 (by omega)
    simp only [Nat.zero_mul, List.drop_zero] at h2
    obtain ⟨bs, k1, k2⟩ := read_same (R := R) (e := e) (z := z) m (cs.drop z) (by simp [hl, Nat.add_mul]) fun i hi => by
      obtain ⟨as, q1, q2⟩ := h (i + 1) (by omega)
      refine ⟨as, q1, ?_⟩
      rw [List.drop_drop]
      have : z + i * z = (i + 1) * z := by rw [Nat.add_mul]; omega
      rw [this]; exact q2
    refine ⟨as ++ bs, ⟨as, bs, rfl, h1, k1⟩, ?_⟩
    have := h2.append k2
    rwa [List.take_append_drop] at this

theorem read_cells : ∀ (n : Nat) (t : TypeId) (cs : List Value) (x : DataW H × List MemPlace) (fuel : Nat), served P n t = true → DataW.trod enc P w 0 sp held fuel t cs = some x →
    ∃ as, Ty P n t as ∧ RelD w as cs ∧ cs.length = P.cellsOf t
  | 0, t, cs, x, fuel, hs, _ => by simp [served] at hs
  | n + 1, t, cs, x, fuel, hs, hx => by
    unfold served at hs
    unfold Ty
    split at hs
    · rename_i hu
      try simp only [hu]
      obtain ⟨b, rfl, _⟩ := DataW.trod_bool hu hx
      exact ⟨[.bool b], ⟨b, rfl⟩, .one rfl (.bool b), by simp only [beq_iff_eq] at hs; exact hs.symm⟩
    · rename_i k hu
      try simp only [hu]
      obtain ⟨m, rfl, _, hw⟩ := DataW.trod_int hu hx
      simp only [Lit.wf, Bool.and_eq_true, decide_eq_true_eq] at hw
      exact ⟨[.int k m], ⟨m, rfl, hw.1, hw.2⟩, .one rfl (.int k m), by simp only [beq_iff_eq] at hs; exact hs.symm⟩
    · rename_i hu
      try simp only [hu]
      obtain ⟨s, rfl, _, hw⟩ := DataW.trod_string hu hx
      obtain ⟨⟨l⟩⟩ := s
      exact ⟨[.str l], ⟨l, rfl, hw⟩, .one rfl (.str l), by simp only [beq_iff_eq] at hs; exact hs.symm⟩
    · rename_i e hu
      try simp only [hu]
      simp only [Bool.and_eq_true, beq_iff_eq, Nat.blt_eq] at hs
      obtain ⟨⟨hs1, hs2⟩, hs3⟩ := hs
      rcases DataW.trod_slice hu hx with ⟨rfl, _⟩ | ⟨a, len, cap, elems, rest, m, _, rfl, _, _, hlc, hcm, hel, hall, _, _⟩
      · exact ⟨[.vec false (P.cellsOf e) []], ⟨[], rfl, by simp, by simp⟩, .one rfl (.vecE _ _ _ _ (by simp)), hs1.symm⟩
      · have hget : ∀ i, i < len → ∃ x : AV, ∃ ys cs', Ty P n e ys ∧ x = packA P e ys ∧ RelD w ys cs' ∧ cs'.length = P.cellsOf e ∧ w.cells? 0 (a.add (i * P.cellsOf e)) (P.cellsOf e) = some cs' := by
          intro i hi
          have h1 := hall i hi
          rw [List.getElem?_eq_getElem (by omega)] at h1
          obtain ⟨cs', h2, h3⟩ := Option.bind_eq_some_iff.1 h1
          obtain ⟨ys, k1, k2, k3⟩ := read_cells n e cs' _ m hs2 h3
          exact ⟨_, ys, cs', k1, rfl, k2, k3, h2⟩
        obtain ⟨xs, hxl, hxs⟩ := list_of len hget
        have hpack : ∀ {ys : List AV} {cs' : List Value}, Ty P n e ys → RelD w ys cs' → cs'.length = P.cellsOf e → (packA P e ys).cells = ys := by
          intro ys cs' hty hrd hl
          unfold packA
          split
          · rfl
          · rename_i hagg
            -- a single cell
            have h1 : ∃ y, ys = [y] := by
              cases n with
              | zero => simp [served] at hs2
              | succ n =>
                unfold Ty at hty
                unfold aggT at hagg
                split at hty
                · obtain ⟨b, rfl⟩ := hty; exact ⟨_, rfl⟩
                · obtain ⟨b, rfl, _⟩ := hty; exact ⟨_, rfl⟩
                · obtain ⟨b, rfl, _⟩ := hty; exact ⟨_, rfl⟩
                · obtain ⟨b, rfl, _⟩ := hty; exact ⟨_, rfl⟩
                · rename_i hu'; simp [hu'] at hagg
                · rename_i hu'; simp [hu'] at hagg
                · exact hty.elim
            obtain ⟨y, rfl⟩ := h1
            have := hrd.plain
            simp only [List.all_cons, List.all_nil, Bool.and_true] at this
            simp only [List.headD_cons]
            cases y <;> first | rfl | simp [AV.plain] at this
        have hok : okElems (P.cellsOf e) xs := by
          intro i x hix
          obtain ⟨ys, cs', k1, rfl, k3, k4, _⟩ := hxs i x hix
          rw [hpack k1 k3 k4]
          exact ⟨k3.len.trans k4, k3.plain⟩
        refine ⟨[.vec false (P.cellsOf e) xs], ⟨xs, rfl, by omega, fun x hx => ?_⟩, .one rfl ?_, hs1.symm⟩
        · obtain ⟨i, hi⟩ := List.getElem?_of_mem hx
          obtain ⟨ys, cs', k1, k2, _⟩ := hxs i x hi
          exact ⟨ys, k1, k2⟩
        · subst hxl
          cases hxe : xs with
          | nil => exact .vecE _ _ _ _ (by simp)
          | cons x0 xs0 =>
            obtain ⟨b, off, spot⟩ := a
            have hlen0 : 0 < xs.length := by rw [hxe]; simp
            obtain ⟨ys0, cs0, _, _, _, z4, z5⟩ := hxs 0 xs[0] (List.getElem?_eq_getElem hlen0)
            obtain ⟨_, _, z6⟩ := World.cells?_some z5
            have z7 := z6 0 hs3
            rw [List.getElem?_eq_getElem (by omega)] at z7
            have hspot : spot = none := by simpa [Addr.add] using World.cell?_spot z7
            subst hspot
            have hcell : ∀ (i : Nat) x (k : Nat) c, xs[i]? = some x → x.cells[k]? = some c → ∃ cv, w.cell? ⟨b, off + i * P.cellsOf e + k, none⟩ = some cv ∧ DRel (S0 w) c cv := by
              intro i x k c hix hk
              obtain ⟨ys, cs', k1, rfl, k3, k4, k5⟩ := hxs i x hix
              rw [hpack k1 k3 k4] at hk
              obtain ⟨_, _, k6⟩ := World.cells?_some k5
              have hkl : k < ys.length := (List.getElem?_eq_some_iff.1 hk).1
              have hkc : k < cs'.length := by rw [← k3.len]; exact hkl
              have h1 := k6 k (by omega)
              rw [List.getElem?_eq_getElem hkc] at h1
              rw [addr_add, addr_add] at h1
              exact ⟨_, h1, k3.rel k c _ hk (List.getElem?_eq_getElem hkc)⟩
            rw [← hxe]
            refine .vec false (P.cellsOf e) xs b off cap hok (by simp) hlc (fun i x k c hix hk => ?_) (fun i x k c cv hix hk hcv => ?_)
            · obtain ⟨cv, h1, _⟩ := hcell i x k c hix hk
              exact ⟨⟨cv, h1⟩, ⟨trivial, by simp [S0]⟩⟩
            · obtain ⟨cv', h1, h2⟩ := hcell i x k c hix hk
              have : cv' = cv := by
                have h3 : w.cell? ⟨b, off + i * P.cellsOf e + k, none⟩ = some cv := hcv
                rw [h1] at h3; exact Option.some.inj h3
              subst this; exact h2
    · rename_i fs hu
      try simp only [hu]
      simp only [Bool.and_eq_true, List.all_eq_true] at hs
      obtain ⟨hs1, hs2⟩ := hs
      obtain ⟨xs, m, _, _, hl, hxl, hf⟩ := DataW.trod_struct hu hx
      obtain ⟨as, k1, k2⟩ := read_parts (P := P) (w := w) (R := Ty P n) fs.toList 0 cs (by rw [hl]; exact hs2) fun f hfm => by
        obtain ⟨i, hi⟩ := List.getElem?_of_mem hfm
        have hi' : fs[i]? = some f := by simpa using hi
        have h1 := hf i f hi'
        have hilt : i < xs.length := by rw [hxl]; exact (Array.getElem?_eq_some_iff.1 hi').1
        rw [List.getElem?_eq_getElem hilt] at h1
        obtain ⟨as, q1, q2, q3⟩ := read_cells n f.type _ _ m (hs1 f hfm) h1
        exact ⟨as, q1, q2, q3⟩
      exact ⟨as, k1, by simpa using k2, hl⟩
    · rename_i m e hu
      try simp only [hu]
      simp only [Bool.and_eq_true, beq_iff_eq] at hs
      obtain ⟨hs1, hs2⟩ := hs
      obtain ⟨xs, q, _, _, hl, hxl, hf⟩ := DataW.trod_array hu hx
      obtain ⟨as, k1, k2⟩ := read_same (w := w) (R := Ty P n) (e := e) (z := P.cellsOf e) m cs (by rw [hl, hs2]) fun i hi => by
        have h1 := hf i hi
        rw [List.getElem?_eq_getElem (by omega)] at h1
        obtain ⟨as, q1, q2, _⟩ := read_cells n e _ _ q hs1 h1
        exact ⟨as, q1, q2⟩
      exact ⟨as, k1, k2, hl⟩
    · simp at hs

/-- An argument. -/
theorem read_arg {n : Nat} {t : TypeId} {v : Value} {d : DataW H} {ps : List MemPlace} {r : Reach} {b0 : Nat} (hs : served P n t = true) (hval : Value.okWide P w r b0 t v) (hd : DataW.Trod enc P w 0 sp held t v d ps) :
    ∃ as, Ty P n t as ∧ DRel (S0 w) (packA P t as) v := by
  obtain ⟨fuel, hf⟩ := hd
  obtain ⟨as, h1, h2, h3⟩ := read_cells n t _ _ fuel hs hf
  refine ⟨as, h1, ?_⟩
  unfold packA
  cases n with
  | zero => simp [served] at hs
  | succ n =>
    have one : v.cells = #[v] → (∃ a, as = [a]) → DRel (S0 w) (as.headD .any) v := by
      rintro hc ⟨a, rfl⟩
      exact h2.rel 0 a v rfl (by rw [hc]; rfl)
    unfold Ty at h1
    unfold aggT
    split at h1
    · rename_i hu
      obtain ⟨b, rfl⟩ := h1
      obtain ⟨b', rfl⟩ := okWide_bool hu hval
      simp only [hu, Bool.false_eq_true, if_false]
      exact one rfl ⟨_, rfl⟩
    · rename_i hu
      obtain ⟨b, rfl, _⟩ := h1
      obtain ⟨b', rfl⟩ := okWide_int hu hval
      simp only [hu, Bool.false_eq_true, if_false]
      exact one rfl ⟨_, rfl⟩
    · rename_i hu
      obtain ⟨b, rfl, _⟩ := h1
      obtain ⟨b', rfl⟩ := okWide_string hu hval
      simp only [hu, Bool.false_eq_true, if_false]
      exact one rfl ⟨_, rfl⟩
    · rename_i hu
      obtain ⟨b, rfl, _⟩ := h1
      obtain ⟨b1, b2, b3, rfl⟩ := okWide_slice hu hval
      simp only [hu, Bool.false_eq_true, if_false]
      exact one rfl ⟨_, rfl⟩
    · rename_i fs hu
      obtain ⟨cs, rfl, _⟩ := okWide_struct hu hval
      simp only [hu, if_true]
      obtain ⟨cs⟩ := cs
      exact .agg as cs h2.len h2.rel
    · rename_i m e hu
      have : ∃ cs, v = .agg cs := by
        unfold Value.okWide at hval
        rw [hu] at hval
        obtain ⟨cs, rfl, _⟩ := hval
        exact ⟨cs, rfl⟩
      obtain ⟨⟨cs⟩, rfl⟩ := this
      simp only [hu, if_true]
      exact .agg as cs h2.len h2.rel
    · exact h1.elim
end

theorem ty_struct {P : Program} {n : Nat} {t : TypeId} {fs : Array Field} {cs : List AV} (hu : P.underlying t = some (.struct fs)) (h : Ty P (n + 1) t cs) : TyL (Ty P n) (fs.toList.map (·.type)) cs := by
  unfold Ty at h; rw [hu] at h; exact h
theorem ty_int {P : Program} {n : Nat} {t : TypeId} {k : IntKind} {cs : List AV} (hu : P.underlying t = some (.int k)) (h : Ty P (n + 1) t cs) : ∃ m, cs = [.int k m] ∧ k.min ≤ m ∧ m ≤ k.max := by
  unfold Ty at h; rw [hu] at h; exact h
theorem ty_bool {P : Program} {n : Nat} {t : TypeId} {cs : List AV} (hu : P.underlying t = some .bool) (h : Ty P (n + 1) t cs) : ∃ b, cs = [.bool b] := by
  unfold Ty at h; rw [hu] at h; exact h

theorem list_form {τ : Type} {enc : τ → AV} : ∀ (xs : List AV), (∀ x ∈ xs, ∃ a, x = enc a) → ∃ X : List τ, xs = X.map enc
  | [], _ => ⟨[], rfl⟩
  | x :: xs, h => by
    obtain ⟨a, rfl⟩ := h x (List.mem_cons_self ..)
    obtain ⟨X, rfl⟩ := list_form xs fun y hy => h y (List.mem_cons_of_mem _ hy)
    exact ⟨a :: X, rfl⟩

theorem ty_list {P : Program} {τ : Type} {enc : τ → AV} {n : Nat} {t e : TypeId} {cs : List AV} (hu : P.underlying t = some (.slice e)) (he : ∀ ys, Ty P n e ys → ∃ a, packA P e ys = enc a) (h : Ty P (n + 1) t cs) :
    ∃ X : List τ, cs = [.vec false (P.cellsOf e) (X.map enc)] ∧ X.length ≤ maxLen := by
  simp only [Ty, hu] at h
  obtain ⟨xs, rfl, hl, hx⟩ := h
  obtain ⟨X, rfl⟩ := list_form (enc := enc) xs fun x hxm => by
    obtain ⟨ys, h1, rfl⟩ := hx x hxm
    obtain ⟨a, ha⟩ := he ys h1
    exact ⟨a, ha⟩
  exact ⟨X, rfl, by simpa using hl⟩

theorem ty_str {P : Program} {n : Nat} {t : TypeId} {cs : List AV} (hu : P.underlying t = some .string) (h : Ty P (n + 1) t cs) : ∃ s, cs = [.str s] ∧ s.length ≤ maxLen := by
  simpa only [Ty, hu] using h
end Go.Av
