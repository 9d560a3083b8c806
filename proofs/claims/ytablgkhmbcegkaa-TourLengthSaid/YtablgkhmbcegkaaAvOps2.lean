/- EACH OPERATION of the evaluator against the model's own, part 2: arithmetic, comparisons, conversions, struct values, strings. No program in sight. -/
import Derived.Test.YtablgkhmbcegkaaAvOps
namespace Go.Av
open Go.RowKit
section
variable {P : Unit → Program}

theorem part_sound {S : St} {cs : List AV} {vs : List Value} {T : TypeId} {j : Nat} {v : AV} {w : World} (hl : cs.length = vs.length)
    (hc : ∀ (i : Nat) c u, cs[i]? = some c → vs[i]? = some u → Rel S c u) (h : partA P T cs j = some v) :
    ∃ vv, (part T ⟨vs⟩ j).run (P ()) w = .ok vv w ∧ Rel S v vv := by
  unfold partA at h
  split at h
  · simp at h
  · rename_i i hi
    have agg : ∀ d, (P ()).underlying T = some d → aggD d = true →
        (if j + i.size ≤ cs.length then some (AV.agg ((cs.drop j).take i.size)) else none) = some v → ∃ vv, (part T ⟨vs⟩ j).run (P ()) w = .ok vv w ∧ Rel S v vv := by
      intro d hd hagg h
      split at h
      · simp only [Option.some.injEq] at h
        subst h
        refine ⟨.agg ⟨(vs.drop j).take i.size⟩, ?_, ?_⟩
        · simp only [part, Sem.run_bind, run_isAgg hd, Result.andThen_ok, hagg, if_true, run_size hi, Sem.run_pure]
          congr 2
          apply Array.ext'
          simp [List.take_drop]
        · refine .agg _ _ (by simp [hl]) fun k c u hk hv => ?_
          rw [List.getElem?_take] at hk hv
          split at hk
          · rename_i hlt
            simp only [hlt, if_true, List.getElem?_drop] at hk hv
            exact hc _ _ _ hk hv
          · simp at hk
      · simp at h
    split at h
    · rename_i d hd; exact agg _ hd rfl h
    · rename_i d e hd; exact agg _ hd rfl h
    · rename_i d hd1 hd2 hd
      have : aggD d = false := by
        cases d <;> first | rfl | exact absurd rfl (hd1 _) | exact absurd rfl (hd2 _ _)
      have hlt : j < vs.length := by have := lt_of_get h; omega
      refine ⟨vs[j], ?_, hc j v _ h (List.getElem?_eq_getElem hlt)⟩
      simp only [part, Sem.run_bind, run_isAgg hd, Result.andThen_ok, this, Bool.false_eq_true, if_false]
      have : (⟨vs⟩ : Array Value)[j]? = some vs[j] := by simp [hlt]
      rw [this]
      rfl
    · simp at h

theorem data_int (S : St) (k : IntKind) (n : Int) : Rel S (.int k n) (.int k n) := .data _ _ (.int k n)
theorem data_bool (S : St) (b : Bool) : Rel S (.bool b) (.bool b) := .data _ _ (.bool b)
theorem data_str (S : St) (t : List UInt8) : Rel S (.str t) (.string ⟨⟨t⟩⟩) := .data _ _ (.str t)

theorem eq_sound {S : St} {w : World} : ∀ (d : Nat) {T : TypeId} {x y : AV} {xv yv : Value} {t : Bool}, Rel S x xv → Rel S y yv → eqA P d T x y = some t →
    (Op.equalIn d T xv yv).run (P ()) w = .ok t w := by
  intro d
  induction d with
  | zero => intro T x y xv yv t _ _ h; simp [eqA] at h
  | succ d ih =>
    have fields : ∀ (fs : List Field) {cx cy : List AV} {vx vy : List Value} {t : Bool}, cx.length = vx.length → cy.length = vy.length →
        (∀ (i : Nat) c u, cx[i]? = some c → vx[i]? = some u → Rel S c u) → (∀ (i : Nat) c u, cy[i]? = some c → vy[i]? = some u → Rel S c u) →
        eqFields P (eqA P d) cx cy fs = some t → (Op.eqFields d ⟨vx⟩ ⟨vy⟩ fs).run (P ()) w = .ok t w := by
      intro fs
      induction fs with
      | nil => intro cx cy vx vy t _ _ _ _ h; simp only [eqFields, Option.some.injEq] at h; subst h; simp [Op.eqFields]
      | cons f fs ihf =>
        intro cx cy vx vy t hx hy h1 h2 h
        simp only [eqFields] at h
        split at h
        · rename_i hn
          simp only [Op.eqFields, hn, ne_eq, not_true_eq_false, if_false]
          exact ihf hx hy h1 h2 h
        · rename_i hn
          split at h
          · rename_i a b ha hb
            split at h
            · rename_i p q hp hq
              simp only [Option.some.injEq] at h
              subst h
              obtain ⟨va, e1, r1⟩ := part_sound (P := P) (S := S) (w := w) hx h1 ha
              obtain ⟨vb, e2, r2⟩ := part_sound (P := P) (S := S) (w := w) hy h2 hb
              have e3 := ih r1 r2 hp
              simp only [Op.eqFields, ne_eq, hn, not_false_eq_true, if_true, Sem.run_bind, e1, Result.andThen_ok, e2, e3]
              cases p
              · simp
              · simpa using ihf hx hy h1 h2 hq
            · simp at h
          · simp at h
    intro T x y xv yv t hx hy h
    unfold eqA at h
    split at h
    · rename_i a b hu
      simp only [Option.some.injEq] at h; subst h
      rw [rel_bool hx, rel_bool hy]; exact run_equalIn_bool' _ d T a b hu
    · rename_i k0 k a k' b hu
      split at h
      · rename_i hk
        simp only [Option.some.injEq] at h; subst h; subst hk
        rw [rel_int hx, rel_int hy]; exact run_equalIn_int _ d T k k0 a b hu
      · simp at h
    · rename_i a b hu
      simp only [Option.some.injEq] at h; subst h
      rw [rel_str hx, rel_str hy, run_equalIn_string _ d T _ _ hu, ByteArray.toList_eq, ByteArray.toList_eq]
    · rename_i fs cx cy hu
      split at h
      · simp at h
      · rename_i hs
        obtain ⟨vx, rfl, l1, r1⟩ := rel_agg hx
        obtain ⟨vy, rfl, l2, r2⟩ := rel_agg hy
        have hf : (P ()).fieldsOf T = fs := by simp [Program.fieldsOf, hu]
        rw [run_equalIn_struct _ d T _ _ (by rw [hf]; exact hu) (by simpa using hs), hf]
        exact fields _ l1 l2 r1 r2 h
    · rename_i e hu
      simp only [Option.some.injEq] at h; subst h
      rw [rel_vnil hx, rel_vnil hy]; simp [Op.equalIn, run_underlying hu]
    · rename_i e f es z zs hu
      simp only [Option.some.injEq] at h; subst h
      rw [rel_vnil hx]
      have := rel_vec hy
      cases this; simp [Op.equalIn, run_underlying hu]
    · rename_i e r ver hu
      simp only [Option.some.injEq] at h; subst h
      rw [rel_vnil hx]
      obtain ⟨a, n, c, rfl⟩ := rel_row_slice hy
      simp [Op.equalIn, run_underlying hu]
    · rename_i e f es z zs hu
      simp only [Option.some.injEq] at h; subst h
      rw [rel_vnil hy]
      have := rel_vec hx
      cases this; simp [Op.equalIn, run_underlying hu]
    · rename_i e r ver hu
      simp only [Option.some.injEq] at h; subst h
      rw [rel_vnil hy]
      obtain ⟨a, n, c, rfl⟩ := rel_row_slice hx
      simp [Op.equalIn, run_underlying hu]
    · rename_i e hu
      simp only [Option.some.injEq] at h; subst h
      rw [rel_nilp hx, rel_nilp hy]; simp [Op.equalIn, run_underlying hu]
    · rename_i a b c hu
      simp only [Option.some.injEq] at h; subst h
      rw [rel_nilf hx, rel_nilf hy]; simp [Op.equalIn, run_underlying hu]
    · rename_i a b c fn p q hu
      simp only [Option.some.injEq] at h; subst h
      obtain ⟨va, vb, rfl, _⟩ := rel_func hy
      rw [rel_nilf hx]; simp [Op.equalIn, run_underlying hu]
    · rename_i a b c fn p q hu
      simp only [Option.some.injEq] at h; subst h
      obtain ⟨va, vb, rfl, _⟩ := rel_func hx
      rw [rel_nilf hy]; simp [Op.equalIn, run_underlying hu]
    · simp at h

/-- What a binary operation of the model comes to. -/
theorem intBin_sound {S : St} {op : BinOp} {k : IntKind} {a b : Int} {r : SR} (T : TypeId) (w : World) (hop : op ≠ .shl ∧ op ≠ .shr) (h : intBin op k a b = some r) (hA : ∀ x ∈ r.asm, x = true) :
    r.L' = none ∧ r.calls = [] ∧ r.eqs = [] ∧ ∃ vv, (binOp op T (.int k a) (.int k b)).run (P ()) w = .ok vv w ∧ Rel S r.v vv := by
  cases op <;> simp only [intBin, Option.some.injEq, reduceCtorEq] at h
  all_goals (try subst h)
  all_goals (try (refine ⟨rfl, rfl, rfl, _, ?_, data_int S _ _⟩; simp [binOp, Op.intArith, Op.intBits]; done))
  all_goals (try (refine ⟨rfl, rfl, rfl, _, ?_, data_bool S _⟩; simp [binOp, Op.intCmp]; done))
  · have hb : b ≠ 0 := by simpa using hA (!(b == 0)) (by simp)
    refine ⟨rfl, rfl, rfl, _, ?_, data_int S _ _⟩
    simp [binOp, Op.intDiv, hb]
  · have hb : b ≠ 0 := by simpa using hA (!(b == 0)) (by simp)
    refine ⟨rfl, rfl, rfl, _, ?_, data_int S _ _⟩
    simp [binOp, Op.intDiv, hb]
  all_goals simp at hop

theorem strBin_sound {S : St} {op : BinOp} {a b : List UInt8} {r : SR} (T : TypeId) (w : World) (h : strBin op a b = some r) (hA : ∀ x ∈ r.asm, x = true) :
    r.L' = none ∧ r.calls = [] ∧ r.eqs = [] ∧ ∃ vv, (binOp op T (.string ⟨⟨a⟩⟩) (.string ⟨⟨b⟩⟩)).run (P ()) w = .ok vv w ∧ Rel S r.v vv := by
  cases op <;> simp only [strBin, Option.some.injEq, reduceCtorEq] at h
  all_goals subst h
  · have hb : a.length + b.length ≤ 1099511627776 := by simpa using hA (decide (a.length + b.length ≤ 1099511627776)) (by simp)
    refine ⟨rfl, rfl, rfl, .string ⟨⟨a ++ b⟩⟩, ?_, data_str S _⟩
    have e : binOp .add T (.string ⟨⟨a⟩⟩) (.string ⟨⟨b⟩⟩) = Op.stringOp .add ⟨⟨a⟩⟩ ⟨⟨b⟩⟩ := by simp [binOp]
    rw [e, run_string_add_sum]
    · exact congrArg (fun x => Result.ok (Value.string x) w) (ByteArray.mk_append_mk a b)
    · show a.length + b.length ≤ _
      omega
  all_goals (refine ⟨rfl, rfl, rfl, _, ?_, data_bool S _⟩; simp [binOp, Op.stringOp, ByteArray.toList_eq])

theorem guardT_eq : ∀ (d : Nat) (t : TypeId), guardT P d t = (P ()).eqGuardType d t
  | 0, _ => rfl
  | d + 1, t => by
    unfold guardT Program.eqGuardType
    cases (P ()).underlying t with
    | none => rfl
    | some u => cases u with
      | interface ms => obtain ⟨l⟩ := ms; cases l <;> rfl
      | struct fs => simp only [guardT_eq d, Array.any_toList]
      | array n e => exact guardT_eq d e
      | _ => rfl

/-- '==' and '!=' where the operands are neither two integers nor two strings. -/
theorem shape_sound {S : St} {d : Nat} {T : TypeId} {x y : AV} {xv yv : Value} {t : Bool} {xo yo : Operand} {w : World} (hx : Rel S x xv) (hy : Rel S y yv) (h : eqA P (d + 1) T x y = some t) (hg : guardFree P x y T = true)
    (h1 : ∀ k a k' b, x = .int k a → y = .int k' b → False) (h2 : ∀ a b, x = .str a → y = .str b → False) :
    binOp .eql T xv yv = (do pure (.bool (← Op.equal T xv yv))) ∧ binOp .neq T xv yv = (do pure (.bool (!(← Op.equal T xv yv)))) ∧
    ∀ op, (eqGuard op T xo yo xv yv).run (P ()) w = .ok () w := by
  unfold eqA at h
  split at h
  · rw [rel_bool hx, rel_bool hy]
    exact ⟨rfl, rfl, fun op => by cases op <;> simp [eqGuard]⟩
  · exact (h1 _ _ _ _ rfl rfl).elim
  · exact (h2 _ _ rfl rfl).elim
  · obtain ⟨vx, rfl, l1, r1⟩ := rel_agg hx
    obtain ⟨vy, rfl, l2, r2⟩ := rel_agg hy
    refine ⟨rfl, rfl, fun op => run_eqGuard_agg _ op T xo yo _ _ ?_⟩
    simpa [guardFree, guardT_eq] using hg
  · rw [rel_vnil hx, rel_vnil hy]
    exact ⟨rfl, rfl, fun op => by cases op <;> simp [eqGuard]⟩
  · rw [rel_vnil hx]
    have := rel_vec hy
    cases this
    exact ⟨rfl, rfl, fun op => by cases op <;> simp [eqGuard]⟩
  · rw [rel_vnil hx]
    obtain ⟨a, n, c, rfl⟩ := rel_row_slice hy
    exact ⟨rfl, rfl, fun op => by cases op <;> simp [eqGuard]⟩
  · rw [rel_vnil hy]
    have := rel_vec hx
    cases this
    exact ⟨rfl, rfl, fun op => by cases op <;> simp [eqGuard]⟩
  · rw [rel_vnil hy]
    obtain ⟨a, n, c, rfl⟩ := rel_row_slice hx
    exact ⟨rfl, rfl, fun op => by cases op <;> simp [eqGuard]⟩
  · rw [rel_nilp hx, rel_nilp hy]
    exact ⟨rfl, rfl, fun op => by cases op <;> simp [eqGuard]⟩
  · rw [rel_nilf hx, rel_nilf hy]
    exact ⟨rfl, rfl, fun op => by cases op <;> simp [eqGuard]⟩
  · obtain ⟨va, vb, rfl, _⟩ := rel_func hy
    rw [rel_nilf hx]
    exact ⟨rfl, rfl, fun op => by cases op <;> simp [eqGuard]⟩
  · obtain ⟨va, vb, rfl, _⟩ := rel_func hx
    rw [rel_nilf hy]
    exact ⟨rfl, rfl, fun op => by cases op <;> simp [eqGuard]⟩
  · simp at h

theorem bin_sound {S : St} {op : BinOp} {T : TypeId} {x y : AV} {xv yv : Value} {r : SR} {xo yo : Operand} (hx : Rel S x xv) (hy : Rel S y yv) (h : binA P op T x y = some r) (hA : ∀ b ∈ r.asm, b = true) :
    r.L' = none ∧ r.calls = [] ∧ ∃ vv, (do eqGuard op T xo yo xv yv; binOp op T xv yv : Sem Value).run (P ()) S.w = .ok vv S.w ∧ Rel S r.v vv := by
  have gi : ∀ (a b : Int) (k k' : IntKind), (eqGuard op T xo yo (.int k a) (.int k' b)).run (P ()) S.w = .ok () S.w := by
    intro a b k k'; cases op <;> simp [eqGuard]
  unfold binA at h
  split at h
  · rename_i k a k' b
    simp only [Option.some.injEq] at h; subst h
    have hb : 0 ≤ b := by simpa using hA (decide (0 ≤ b)) (by simp)
    rw [rel_int hx, rel_int hy]
    refine ⟨rfl, rfl, _, ?_, data_int S _ _⟩
    have : ¬ b < 0 := by omega
    simp [eqGuard, binOp, Op.shift, this]
  · rename_i k a k' b
    simp only [Option.some.injEq] at h; subst h
    have hb : 0 ≤ b := by simpa using hA (decide (0 ≤ b)) (by simp)
    rw [rel_int hx, rel_int hy]
    refine ⟨rfl, rfl, _, ?_, data_int S _ _⟩
    have : ¬ b < 0 := by omega
    simp [eqGuard, binOp, Op.shift, this]
  · rename_i op' k a k' b h1 h2
    split at h
    · rename_i hk
      subst hk
      rw [rel_int hx, rel_int hy]
      have hop : op ≠ .shl ∧ op ≠ .shr := by
        constructor <;> (intro e; subst e)
        · exact h1 rfl
        · exact h2 rfl
      obtain ⟨a1, a2, _, vv, e1, e2⟩ := intBin_sound (P := P) (S := S) T S.w hop h hA
      exact ⟨a1, a2, vv, by rw [Sem.run_bind, gi]; exact e1, e2⟩
    · simp at h
  · rename_i op' a b
    rw [rel_str hx, rel_str hy]
    obtain ⟨a1, a2, _, vv, e1, e2⟩ := strBin_sound (P := P) (S := S) T S.w h hA
    have gs : (eqGuard op T xo yo (.string ⟨⟨a⟩⟩) (.string ⟨⟨b⟩⟩)).run (P ()) S.w = .ok () S.w := by cases op <;> simp [eqGuard]
    exact ⟨a1, a2, vv, by rw [Sem.run_bind, gs]; exact e1, e2⟩
  · rename_i h0 h3 h4
    split at h
    · rename_i hg
      cases he : eqA P Op.maxDepth T x y with
      | none => rw [he] at h; simp [quiet] at h
      | some t =>
        rw [he] at h
        simp only [Option.map_some, quiet, Option.some.injEq] at h
        subst h
        obtain ⟨e1, _, e3⟩ := shape_sound (P := P) (d := 9999) (xo := xo) (yo := yo) (w := S.w) hx hy he hg (fun k a k' b e e' => h3 _ _ _ _ e e') (fun a b e e' => h4 _ _ e e')
        refine ⟨rfl, rfl, _, ?_, data_bool S t⟩
        rw [Sem.run_bind, e3, e1]
        simp [Op.equal, eq_sound (P := P) (w := S.w) Op.maxDepth hx hy he]
    · simp at h
  · rename_i h0 h3 h4
    split at h
    · rename_i hg
      cases he : eqA P Op.maxDepth T x y with
      | none => rw [he] at h; simp [quiet] at h
      | some t =>
        rw [he] at h
        simp only [Option.map_some, quiet, Option.some.injEq] at h
        subst h
        obtain ⟨_, e2, e3⟩ := shape_sound (P := P) (d := 9999) (xo := xo) (yo := yo) (w := S.w) hx hy he hg (fun k a k' b e e' => h3 _ _ _ _ e e') (fun a b e e' => h4 _ _ e e')
        refine ⟨rfl, rfl, _, ?_, data_bool S (!t)⟩
        rw [Sem.run_bind, e3, e2]
        simp [Op.equal, eq_sound (P := P) (w := S.w) Op.maxDepth hx hy he]
    · simp at h
  · simp at h

theorem un_sound {S : St} {op : UnOp} {x v : AV} {xv : Value} (hx : Rel S x xv) (h : unA op x = some v) : ∃ vv, (Op.unary op xv).run (P ()) S.w = .ok vv S.w ∧ Rel S v vv := by
  unfold unA at h
  split at h
  · simp only [Option.some.injEq] at h; subst h
    rw [rel_int hx]
    exact ⟨_, by simp [Op.unary, Op.intArith], data_int S _ _⟩
  · simp only [Option.some.injEq] at h; subst h
    rw [rel_int hx]
    exact ⟨_, by simp [Op.unary, Op.intBits], data_int S _ _⟩
  · simp only [Option.some.injEq] at h; subst h
    rw [rel_bool hx]
    exact ⟨_, by simp [Op.unary], data_bool S _⟩
  · simp at h

theorem conv_sound {S : St} {src dst : TypeId} {x v : AV} {xv : Value} (hx : Rel S x xv) (h : convA P src dst x = some v) : ∃ vv, (convert src dst xv).run (P ()) S.w = .ok vv S.w ∧ Rel S v vv := by
  unfold convA at h
  split at h
  · rename_i d k k' n h1 h2
    simp only [Option.some.injEq] at h; subst h
    rw [rel_int hx]
    exact ⟨_, by simp [convert, run_underlying h1, run_underlying h2, Conv.intToInt], data_int S _ _⟩
  · rename_i d k' n h1 h2
    simp only [Option.some.injEq] at h; subst h
    rw [rel_int hx]
    exact ⟨_, by simp [convert, run_underlying h1, run_underlying h2, Conv.intToString], data_str S _⟩
  · rename_i d t h1 h2
    simp only [Option.some.injEq] at h; subst h
    rw [rel_str hx]
    exact ⟨_, by simp [convert, run_underlying h1, run_underlying h2], data_str S _⟩
  · simp at h

theorem pick_sound {S : St} {c a b v : AV} {cv av bv : Value} (hc : Rel S c cv) (ha : cv = .bool true → Rel S a av) (hb : cv = .bool false → Rel S b bv) (h : pickA c a b = some v) :
    ∃ t, cv = .bool t ∧ Rel S v (if t then av else bv) := by
  unfold pickA at h
  split at h
  · rename_i t
    have e := rel_bool hc
    refine ⟨t, e, ?_⟩
    split at h
    · rename_i x y
      simp only [Option.some.injEq] at h; subst h
      cases t
      · simpa using hb e
      · simpa using ha e
    · simp only [Option.some.injEq] at h; subst h
      cases t
      · simpa using hb e
      · simpa using ha e
  · simp at h

theorem field_sound {S : St} {T : TypeId} {x v : AV} {xv : Value} {f : Nat} (hx : Rel S x xv) (h : fieldA P T x f = some v) : ∃ vv, (Instr.field T xv f).run (P ()) S.w = .ok vv S.w ∧ Rel S v vv := by
  unfold fieldA at h
  split at h
  · rename_i fs hu
    split at h
    · rename_i fl hf
      split at h
      · rename_i cs
        obtain ⟨vs, rfl, l1, r1⟩ := rel_agg hx
        obtain ⟨vv, e1, e2⟩ := part_sound (P := P) (w := S.w) l1 r1 h
        exact ⟨vv, by simp [Instr.field, run_underlying hu, hf, asAgg, e1], e2⟩
      · simp at h
    · simp at h
  · simp at h

theorem fieldAddr_sound {S : St} {T : TypeId} {p v : AV} {pv : Value} {f : Nat} (hx : Rel S p pv) (h : fieldAddrA P T p f = some v) :
    ∃ vv, (Instr.fieldAt T pv f).run (P ()) S.w = .ok vv S.w ∧ Rel S v vv := by
  unfold fieldAddrA at h
  split at h
  · rename_i fs hu
    split at h
    · rename_i fl hf
      split at h
      · simp at h
      · rename_i i hi
        split at h
        · simp at h
        · rename_i hz
          split at h
          · rename_i r ver i' j
            simp only [Option.some.injEq] at h; subst h
            obtain ⟨⟨a, rfl⟩, row, info, h1, h2, h3, h4⟩ := rel_ptr' hx
            refine ⟨.pointer (some (a.add fl.offset)), ?_, .ptr _ _ _ _ row info _ ⟨_, rfl⟩ h1 h2 h3 fun e => ?_⟩
            · simp [Instr.fieldAt, run_underlying hu, hf, Instr.sureAddr, fieldPlace, run_size hi, hz]
            · have := h4 e
              simp only [Value.pointer.injEq, Option.some.injEq] at this
              subst this
              rw [addr_add, Nat.add_assoc]
          · rename_i es xs i' j
            simp only [Option.some.injEq] at h; subst h
            have hd := rel_eptr hx
            cases hd with
            | eptr _ _ _ _ b off ho hc hr =>
              refine ⟨.pointer (some ⟨b, off + i' * es + (j + fl.offset), none⟩), ?_, .data _ _ (.eptr es xs i' (j + fl.offset) b off ho hc hr)⟩
              simp [Instr.fieldAt, run_underlying hu, hf, Instr.sureAddr, fieldPlace, run_size hi, hz, addr_add, Nat.add_assoc]
          · simp at h
    · simp at h
  · simp at h
end
end Go.Av
