/- SMALL LEMMAS for the use of the evaluator. No program in sight. -/
import Derived.Test.YtablgkhmbcegkaaAvWp
namespace Go.Av

theorem w64 (n : Int) (h : -9223372036854775808 ≤ n ∧ n ≤ 9223372036854775807) : IntKind.i64.wrap n = n := by
  have e1 : (2 : Int) ^ IntKind.i64.bits = 18446744073709551616 := rfl
  have e2 : (2 : Int) ^ (IntKind.i64.bits - 1) = 9223372036854775808 := rfl
  have e3 : IntKind.i64.signed = true := rfl
  simp only [IntKind.wrap, e1, e2, e3, Bool.true_and, decide_eq_true_eq]
  split <;> omega

/-- A call's answer, from its paths. -/
theorem pure_wp {M : Mach} {f : FuncId} {args : List AV} {d : AV} (fn : Func) (fi : Fi) (hf : (M.P ()).funcs[f]? = some fn) (hb : fn.body = some (cd fn)) (hn : (fn.name == "runtime.NumGoroutine") = false)
    (hi : (⟨fn.ntmps, fn.results.toList⟩ : Fi) = fi) (h : Wp M (.run fi [.code (cd fn)] (argVars 0 args) []) fun v L => pureA L v = some d ∧ allB (versA L v)) (hd : d.clean = true) : Ev M (.pure f args) d [] :=
  pure_of (own_wp fn fi hf hb hn hi h) hd

theorem q_int {L : Heap} {k : IntKind} {n m : Int} (h : n = m) : pureA L (.int k n) = some (.int k m) ∧ allB (versA L (.int k n)) := by subst h; exact ⟨rfl, trivial⟩
theorem q_bool {L : Heap} {n m : Bool} (h : n = m) : pureA L (.bool n) = some (.bool m) ∧ allB (versA L (.bool n)) := by subst h; exact ⟨rfl, trivial⟩

theorem bif_or (a b : Bool) : (bif a then true else b) = (a || b) := by cases a <;> rfl
theorem bif_and (a b : Bool) : (bif a then b else false) = (a && b) := by cases a <;> rfl

theorem wp_mono' {M : Mach} {c : Conf} {Q Q' : AV → Heap → Prop} (h : Wp M c Q) (hq : ∀ v L, Q v L → Q' v L) : Wp M c Q' := .mono h hq

/-! What the tool's texts use. -/
theorem beq_t {c : Bool} (h : c = true) : (c == true) = true := by simp [h]
theorem beq_f {c : Bool} (h : ¬c = true) : (c == false) = true := by simp at h; simp [h]
theorem i_var (c : Bool) : c = true ↔ c = true := Iff.rfl
theorem i_dec {p : Prop} [Decidable p] : decide p = true ↔ p := decide_eq_true_iff
theorem i_not {c : Bool} {C : Prop} (h : c = true ↔ C) : (!c) = true ↔ ¬C := by rw [← h]; cases c <;> simp
theorem i_and {c d : Bool} {C D : Prop} (h : c = true ↔ C) (g : d = true ↔ D) : (c && d) = true ↔ (C ∧ D) := by rw [← h, ← g]; simp
theorem i_or {c d : Bool} {C D : Prop} (h : c = true ↔ C) (g : d = true ↔ D) : (c || d) = true ↔ (C ∨ D) := by rw [← h, ← g]; simp
theorem i_bor {c d : Bool} {C D : Prop} (h : c = true ↔ C) (g : d = true ↔ D) : (bif c then true else d) = true ↔ (C ∨ D) := by rw [← h, ← g]; cases c <;> simp
theorem i_band {c d : Bool} {C D : Prop} (h : c = true ↔ C) (g : d = true ↔ D) : (bif c then d else false) = true ↔ (C ∧ D) := by rw [← h, ← g]; cases c <;> simp
theorem i_bif {c d e : Bool} {C D E : Prop} (h : c = true ↔ C) (g : d = true ↔ D) (f : e = true ↔ E) : (bif c then d else e) = true ↔ ((C → D) ∧ (¬C → E)) := by rw [← h, ← g, ← f]; cases c <;> simp
theorem i_imp {c d : Bool} {C D : Prop} (h : c = true ↔ C) (g : d = true ↔ D) : (!c || d) = true ↔ (C → D) := by rw [← h, ← g]; cases c <;> simp
theorem i_eq {α : Type} [BEq α] [LawfulBEq α] {a b : α} : (a == b) = true ↔ a = b := beq_iff_eq
theorem i_ne {α : Type} [BEq α] [LawfulBEq α] {a b : α} : (a != b) = true ↔ ¬a = b := by simp
theorem i_neq {α : Type} [BEq α] [LawfulBEq α] {a b : α} : (!(a == b)) = true ↔ ¬a = b := by simp
theorem i_bt {c : Bool} {C : Prop} (h : c = true ↔ C) : (c == true) = true ↔ C := by rw [← h]; simp
theorem i_bf {c : Bool} {C : Prop} (h : c = true ↔ C) : (c == false) = true ↔ ¬C := by rw [← h]; simp
theorem i_at {c : Bool} {C : Prop} (h : c = true ↔ C) : (c && true) = true ↔ C := by rw [← h]; simp
theorem el_map {α : Type} [Inhabited α] {g : α → AV} {X : List α} {i : Nat} (h : i < X.length) : (X.map g)[i]? = some (g (X.getD i default)) := by
  simp [h]
theorem drop_getD {α : Type} [Inhabited α] {d : List α} {i : Nat} (h : i < d.length) : d.drop i = d.getD i default :: d.drop (i + 1) := by
  rw [List.drop_eq_getElem_cons h]; simp [h]
theorem getD_mem {α : Type} [Inhabited α] {d : List α} {i : Nat} (h : i < d.length) : d.getD i default ∈ d := by
  simp [h]

theorem lm_app {α : Type} {g : α → AV} {A B : List AV} {X Y : List α} (h : A = X.map g) (k : B = Y.map g) : A ++ B = (X ++ Y).map g := by rw [h, k, List.map_append]
theorem lm_set {α : Type} {g : α → AV} {A : List AV} {X : List α} {i : Nat} {v : AV} {y : α} (h : A = X.map g) (k : v = g y) : A.set i v = (X.set i y).map g := by rw [h, k, List.map_set]
theorem lm_take {α : Type} {g : α → AV} {A : List AV} {X : List α} {n : Nat} (h : A = X.map g) : A.take n = (X.take n).map g := by rw [h, List.map_take]
theorem lm_drop {α : Type} {g : α → AV} {A : List AV} {X : List α} {n : Nat} (h : A = X.map g) : A.drop n = (X.drop n).map g := by rw [h, List.map_drop]
theorem lm_rep {α : Type} {g : α → AV} {n : Nat} {v : AV} {y : α} (k : v = g y) : List.replicate n v = (List.replicate n y).map g := by rw [k, List.map_replicate]
theorem wI8 {n : Int} (h : -128 ≤ n ∧ n ≤ 127) : IntKind.i8.wrap n = n := by
  have e1 : (2 : Int) ^ IntKind.i8.bits = 256 := rfl
  have e2 : (2 : Int) ^ (IntKind.i8.bits - 1) = 128 := rfl
  have e3 : IntKind.i8.signed = true := rfl
  simp only [IntKind.wrap, e1, e2, e3, Bool.true_and, decide_eq_true_eq]
  split <;> omega
theorem wI16 {n : Int} (h : -32768 ≤ n ∧ n ≤ 32767) : IntKind.i16.wrap n = n := by
  have e1 : (2 : Int) ^ IntKind.i16.bits = 65536 := rfl
  have e2 : (2 : Int) ^ (IntKind.i16.bits - 1) = 32768 := rfl
  have e3 : IntKind.i16.signed = true := rfl
  simp only [IntKind.wrap, e1, e2, e3, Bool.true_and, decide_eq_true_eq]
  split <;> omega
theorem wI32 {n : Int} (h : -2147483648 ≤ n ∧ n ≤ 2147483647) : IntKind.i32.wrap n = n := by
  have e1 : (2 : Int) ^ IntKind.i32.bits = 4294967296 := rfl
  have e2 : (2 : Int) ^ (IntKind.i32.bits - 1) = 2147483648 := rfl
  have e3 : IntKind.i32.signed = true := rfl
  simp only [IntKind.wrap, e1, e2, e3, Bool.true_and, decide_eq_true_eq]
  split <;> omega
theorem wI64 {n : Int} (h : -9223372036854775808 ≤ n ∧ n ≤ 9223372036854775807) : IntKind.i64.wrap n = n := w64 n h
theorem wU8 {n : Int} (h : 0 ≤ n ∧ n ≤ 255) : IntKind.u8.wrap n = n := by
  have e1 : (2 : Int) ^ IntKind.u8.bits = 256 := rfl
  have e3 : IntKind.u8.signed = false := rfl
  simp only [IntKind.wrap, e1, e3, Bool.false_and, Bool.false_eq_true, if_false]
  omega
theorem wU16 {n : Int} (h : 0 ≤ n ∧ n ≤ 65535) : IntKind.u16.wrap n = n := by
  have e1 : (2 : Int) ^ IntKind.u16.bits = 65536 := rfl
  have e3 : IntKind.u16.signed = false := rfl
  simp only [IntKind.wrap, e1, e3, Bool.false_and, Bool.false_eq_true, if_false]
  omega
theorem wU32 {n : Int} (h : 0 ≤ n ∧ n ≤ 4294967295) : IntKind.u32.wrap n = n := by
  have e1 : (2 : Int) ^ IntKind.u32.bits = 4294967296 := rfl
  have e3 : IntKind.u32.signed = false := rfl
  simp only [IntKind.wrap, e1, e3, Bool.false_and, Bool.false_eq_true, if_false]
  omega
theorem wU64 {n : Int} (h : 0 ≤ n ∧ n ≤ 18446744073709551615) : IntKind.u64.wrap n = n := by
  have e1 : (2 : Int) ^ IntKind.u64.bits = 18446744073709551616 := rfl
  have e3 : IntKind.u64.signed = false := rfl
  simp only [IntKind.wrap, e1, e3, Bool.false_and, Bool.false_eq_true, if_false]
  omega

/-- A call's contract where rows of the caller are seen. -/
theorem own_wp' {M : Mach} {f : FuncId} {args : List AV} {L : Heap} {v : AV} {L' : Heap} (h : Wp M (.own f args L) fun x K => x = v ∧ K = L') : Ev M (.own f args L) v L' := h
end Go.Av
