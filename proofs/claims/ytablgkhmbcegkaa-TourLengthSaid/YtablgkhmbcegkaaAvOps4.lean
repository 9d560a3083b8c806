/- EACH OPERATION of the evaluator against the model's own, part 4: places in slices, slice expressions, lengths, tuples. No program in sight. -/
import Derived.Test.YtablgkhmbcegkaaAvOps3
namespace Go.Av
open Go.RowKit
section
variable {P : Unit → Program}

theorem allb {l : List Bool} (h : ∀ b ∈ l, b = true) {b : Bool} (hb : b ∈ l) : b = true := h b hb
theorem alld {l : List Bool} (h : ∀ b ∈ l, b = true) {p : Prop} [Decidable p] (hb : decide p ∈ l) : p := of_decide_eq_true (h _ hb)

theorem index_sound {S : St} {T : TypeId} {x i : AV} {xv iv : Value} {r : SR} (hx : Rel S x xv) (hi : Rel S i iv) (h : indexA P T x i = some r) (hA : ∀ b ∈ r.asm, b = true) :
    r.L' = none ∧ r.calls = [] ∧ r.eqs = [] ∧ ∃ vv, (Instr.index T xv iv).run (P ()) S.w = .ok vv S.w ∧ Rel S r.v vv := by
  unfold indexA at h
  split at h
  · rename_i len e cs k n hu
    split at h
    · rename_i q hq
      split at h
      · rename_i v hv
        simp only [Option.some.injEq] at h; subst h
        have h0 : 0 ≤ n := alld hA (p := 0 ≤ n) (by simp)
        have h1 : n < len := alld hA (p := n < len) (by simp)
        obtain ⟨vs, rfl, l1, r1⟩ := rel_agg hx
        rw [rel_int hi]
        obtain ⟨vv, e1, e2⟩ := part_sound (P := P) (w := S.w) l1 r1 hv
        exact ⟨rfl, rfl, rfl, vv, by simp [Instr.index, asIntOf, run_underlying hu, h0, h1, run_size hq, e1], e2⟩
      · simp at h
    · simp at h
  · rename_i t k n hu
    simp only [Option.some.injEq] at h; subst h
    have h0 : 0 ≤ n := alld hA (p := 0 ≤ n) (by simp)
    have h1 : n.toNat < t.length := alld hA (p := n.toNat < t.length) (by simp)
    rw [rel_str hx, rel_int hi]
    have hs : (⟨⟨t⟩⟩ : ByteArray).size = t.length := rfl
    have h2 : n < (⟨⟨t⟩⟩ : ByteArray).size := by rw [hs]; omega
    refine ⟨rfl, rfl, rfl, _, ?_, data_int S _ _⟩
    rw [run_index_string (P := P ()) S.w T ⟨⟨t⟩⟩ k n hu, dif_pos ⟨h0, h2⟩]
    have : ((⟨⟨t⟩⟩ : ByteArray)[n.toNat]'(by omega)) = t.getD n.toNat 0 := by
      rw [List.getD_eq_getElem?_getD, List.getElem?_eq_getElem h1]; rfl
    rw [this]
  · simp at h

theorem indexAddr_sound {S : St} (hS : HeapOk S) {T : TypeId} {x i : AV} {xv iv : Value} {r : SR} (hx : Rel S x xv) (hi : Rel S i iv) (h : indexAddrA P S.L T x i = some r) (hA : ∀ b ∈ r.asm, b = true) :
    r.L' = none ∧ r.calls = [] ∧ r.eqs = [] ∧ ∃ vv, (Instr.indexAt T xv iv).run (P ()) S.w = .ok vv S.w ∧ Rel S r.v vv := by
  unfold indexAddrA at h
  split at h
  · rename_i e f es xs k n hu
    split at h
    · rename_i q hq
      split at h
      · rename_i hes
        simp only [Option.some.injEq] at h; subst h
        have h0 : 0 ≤ n := alld hA (p := 0 ≤ n) (by simp)
        have h1 : n.toNat < xs.length := alld hA (p := n.toNat < xs.length) (by simp)
        rw [rel_int hi]
        have hd := rel_vec hx
        cases hd with
        | vecE _ _ a cap hf => simp at h1
        | vec _ _ _ b off cap ho hf hl hc hr =>
          have h2 : n < (xs.length : Int) := by omega
          refine ⟨rfl, rfl, rfl, .pointer (some ⟨b, off + n.toNat * es + 0, none⟩), ?_, .data _ _ (.eptr es xs n.toNat 0 b off ho hc hr)⟩
          simp [Instr.indexAt, asIntOf, run_underlying hu, h0, h2, run_size hq, addr_add, hes]
      · simp at h
    · simp at h
  · rename_i e r' ver k n hu
    split at h
    · rename_i row q hrow hq
      split at h
      · rename_i hes
        simp only [Option.some.injEq] at h; subst h
        have h0 : 0 ≤ n := alld hA (p := 0 ≤ n) (by simp)
        have h1 : n.toNat < row.elems.length := alld hA (p := n.toNat < row.elems.length) (by simp)
        have hver : row.ver = ver := by simpa using hA (row.ver == ver) (by simp)
        rw [rel_int hi]
        obtain ⟨row', info, a1, a2, a3⟩ := rel_row hx
        rw [hrow] at a1
        simp only [Option.some.injEq] at a1; subst a1
        have h2 : n < (row.elems.length : Int) := by omega
        have hie := (hS.cells r' row info hrow a2).1
        rw [a3 hver]
        refine ⟨rfl, rfl, rfl, .pointer (some ⟨info.blk, info.off + n.toNat * info.es + 0, none⟩), ?_, .ptr _ _ _ _ row info _ ⟨_, rfl⟩ hrow a2 (by omega) fun _ => rfl⟩
        simp [Instr.indexAt, asIntOf, run_underlying hu, h0, h2, run_size hq, addr_add, hie, hes]
      · simp at h
    · simp at h
  · rename_i e r' ver lo len k n hu
    split at h
    · rename_i row q hrow hq
      split at h
      · rename_i hes
        simp only [Option.some.injEq] at h; subst h
        have h0 : 0 ≤ n := alld hA (p := 0 ≤ n) (by simp)
        have h1 : n.toNat < len := alld hA (p := n.toNat < len) (by simp)
        have hver : row.ver = ver := by simpa using hA (row.ver == ver) (by simp)
        rw [rel_int hi]
        obtain ⟨row', info, a1, a2, a3⟩ := rel_ref hx
        rw [hrow] at a1
        simp only [Option.some.injEq] at a1; subst a1
        have h2 : n < (len : Int) := (Int.toNat_lt h0).1 h1
        obtain ⟨a, cap, rfl, b1, b2, b3⟩ := a3 hver
        have hie := (hS.cells r' row info hrow a2).1
        rcases b3 with ⟨rfl, b4⟩ | b4
        · refine ⟨rfl, rfl, rfl, .pointer (some ⟨info.blk, info.off + (lo + n.toNat) * info.es + 0, none⟩), ?_, .ptr _ _ _ _ row info _ ⟨_, rfl⟩ hrow a2 (by omega) fun _ => rfl⟩
          simp [Instr.indexAt, asIntOf, run_underlying hu, h0, h2, run_size hq, addr_add, hie, hes, Nat.add_mul, Nat.add_assoc]
        · omega
      · simp at h
    · simp at h
  · rename_i len e r' ver i' j k n hu
    split at h
    · rename_i q hq
      simp only [Option.some.injEq] at h; subst h
      have h0 : 0 ≤ n := alld hA (p := 0 ≤ n) (by simp)
      have h1 : n < len := alld hA (p := n < len) (by simp)
      rw [rel_int hi]
      obtain ⟨⟨a, rfl⟩, row, info, a1, a2, a3, a4⟩ := rel_ptr' hx
      refine ⟨rfl, rfl, rfl, .pointer (some (a.add (n.toNat * q.size))), ?_, .ptr _ _ _ _ row info _ ⟨_, rfl⟩ a1 a2 a3 fun e => ?_⟩
      · simp [Instr.indexAt, asIntOf, run_underlying hu, h0, h1, run_size hq, Instr.sureAddr]
      · have := a4 e
        simp only [Value.pointer.injEq, Option.some.injEq] at this
        subst this
        rw [addr_add, Nat.add_assoc]
    · simp at h
  · rename_i len e es xs i' j k n hu
    split at h
    · rename_i q hq
      simp only [Option.some.injEq] at h; subst h
      have h0 : 0 ≤ n := alld hA (p := 0 ≤ n) (by simp)
      have h1 : n < len := alld hA (p := n < len) (by simp)
      rw [rel_int hi]
      have hd := rel_eptr hx
      cases hd with
      | eptr _ _ _ _ b off ho hc hr =>
        refine ⟨rfl, rfl, rfl, .pointer (some ⟨b, off + i' * es + (j + n.toNat * q.size), none⟩), ?_, .data _ _ (.eptr es xs i' _ b off ho hc hr)⟩
        simp [Instr.indexAt, asIntOf, run_underlying hu, h0, h1, run_size hq, Instr.sureAddr, addr_add, Nat.add_assoc]
    · simp at h
  · simp at h

/-- A bound of a slice expression: what the model makes of it. -/
inductive BRel (S : St) : Option AV → Option Value → Prop
  | none : BRel S none none
  | some (a : AV) (v : Value) : Rel S a v → BRel S (some a) (some v)

theorem bound_sound {S : St} {d : Nat} {x : Option AV} {xv : Option Value} {l : Nat} {p : List Bool} (hx : BRel S x xv) (h : bound d x = some (l, p)) (hp : ∀ b ∈ p, b = true) :
    (xv = none ∧ l = d) ∨ ∃ k n, xv = some (.int k n) ∧ 0 ≤ n ∧ l = n.toNat := by
  cases hx with
  | none => simp only [bound, Option.some.injEq, Prod.mk.injEq] at h; exact .inl ⟨rfl, h.1.symm⟩
  | some a v hv =>
    unfold bound at h
    split at h
    · rename_i e; cases e
    · rename_i k n e
      cases e
      simp only [Option.some.injEq, Prod.mk.injEq] at h
      obtain ⟨rfl, rfl⟩ := h
      exact .inr ⟨k, n, by rw [rel_int hv], alld hp (by simp), rfl⟩
    · simp at h

theorem run_bound {w : World} {k : IntKind} {n : Int} {y : Nat} {c : BoundsCode} (h0 : 0 ≤ n) (h1 : n.toNat ≤ y) : (Instr.sliceBound (.int k n) y c).run (P ()) w = .ok n.toNat w := by
  have : n ≤ (y : Int) := by omega
  simp [Instr.sliceBound, asIntOf, h0, this]

/-- The bounds of x[lo:hi] and x[lo:hi:m]. -/
theorem bounds2 {S : St} {isS : Bool} {len cap l h : Nat} {lo hi : Option AV} {lov hiv : Option Value} {p q : List Bool} (hlo : BRel S lo lov) (hhi : BRel S hi hiv)
    (h1 : bound 0 lo = some (l, p)) (h2 : bound len hi = some (h, q)) (hp : ∀ b ∈ p, b = true) (hq : ∀ b ∈ q, b = true) (hlh : l ≤ h) (hc : h ≤ cap) :
    (Instr.sliceBounds isS len cap lov hiv none).run (P ()) S.w = .ok (l, h, cap) S.w := by
  rcases bound_sound hhi h2 hq with ⟨rfl, rfl⟩ | ⟨k, n, rfl, hn, rfl⟩
  · rcases bound_sound hlo h1 hp with ⟨rfl, rfl⟩ | ⟨k', n', rfl, hn', rfl⟩
    · simp [Instr.sliceBounds]
    · simp [Instr.sliceBounds, run_bound (P := P) hn' hlh]
  · rcases bound_sound hlo h1 hp with ⟨rfl, rfl⟩ | ⟨k', n', rfl, hn', rfl⟩
    · simp [Instr.sliceBounds, run_bound (P := P) hn hc]
    · simp [Instr.sliceBounds, run_bound (P := P) hn hc, run_bound (P := P) hn' hlh]

theorem bounds3 {S : St} {isS : Bool} {len cap l h m : Nat} {lo hi : Option AV} {lov hiv : Option Value} {mk : IntKind} {mn : Int} {p q : List Bool} (hlo : BRel S lo lov) (hhi : BRel S hi hiv)
    (h1 : bound 0 lo = some (l, p)) (h2 : bound len hi = some (h, q)) (hp : ∀ b ∈ p, b = true) (hq : ∀ b ∈ q, b = true) (hm0 : 0 ≤ mn) (hm : mn.toNat = m) (hs : hi.isSome = true) (hlh : l ≤ h) (hhm : h ≤ m) (hc : m ≤ cap) :
    (Instr.sliceBounds isS len cap lov hiv (some (.int mk mn))).run (P ()) S.w = .ok (l, h, m) S.w := by
  subst hm
  rcases bound_sound hhi h2 hq with ⟨rfl, rfl⟩ | ⟨k, n, rfl, hn, rfl⟩
  · cases hhi; simp at hs
  · rcases bound_sound hlo h1 hp with ⟨rfl, rfl⟩ | ⟨k', n', rfl, hn', rfl⟩
    · simp [Instr.sliceBounds, run_bound (P := P) hm0 hc, run_bound (P := P) hn hhm]
    · simp [Instr.sliceBounds, run_bound (P := P) hm0 hc, run_bound (P := P) hn hhm, run_bound (P := P) hn' hlh]

theorem okElems.sub {es : Nat} {xs : List AV} (h : okElems es xs) (l m : Nat) : okElems es ((xs.take m).drop l) := by
  intro i x hx
  rw [List.getElem?_drop, List.getElem?_take] at hx
  split at hx
  · exact h _ x hx
  · simp at hx

theorem get_sub {α : Type} {xs : List α} {l m i : Nat} {x : α} (h : ((xs.take m).drop l)[i]? = some x) : xs[l + i]? = some x := by
  rw [List.getElem?_drop, List.getElem?_take] at h
  split at h
  · exact h
  · simp at h

/-- A part of a slice of memory that does not change. -/
theorem vec_sub {S : St} {es : Nat} {xs : List AV} {b off cap l h : Nat} (f : Bool) (cap' : Nat) (ho : okElems es xs)
    (hc : ∀ (i : Nat) x (k : Nat) c, xs[i]? = some x → x.cells[k]? = some c → (∃ cv, S.w.cell? ⟨b, off + i * es + k, none⟩ = some cv) ∧ Imm S b (off + i * es + k))
    (hr : ∀ (i : Nat) x (k : Nat) c cv, xs[i]? = some x → x.cells[k]? = some c → S.w.cell? ⟨b, off + i * es + k, none⟩ = some cv → DRel S c cv)
    (hlh : l ≤ h) (hh : h ≤ xs.length) (hm : l + cap' = cap) (hhc : h ≤ cap) (hf : f = true → l + cap' = h) :
    DRel S (.vec f es ((xs.take h).drop l)) (.slice (if cap = l then some ⟨b, off, none⟩ else some ((⟨b, off, none⟩ : Addr).add (l * es))) (h - l) cap') := by
  have hlen : ((xs.take h).drop l).length = h - l := by simp; omega
  by_cases he : cap = l
  · have e1 : h = l := by omega
    have e2 : cap' = 0 := by omega
    have : (xs.take h).drop l = [] := List.eq_nil_of_length_eq_zero (by omega)
    rw [this, e1, e2, Nat.sub_self]
    exact .vecE f es _ 0 fun _ => rfl
  · rw [if_neg he, addr_add]
    have := DRel.vec (S := S) f es ((xs.take h).drop l) b (off + l * es) cap' (ho.sub l h) (fun e => by rw [hlen]; have := hf e; omega) (by rw [hlen]; omega)
      (fun i x k c hx hk => by
        have := hc (l + i) x k c (get_sub hx) hk
        rw [Nat.add_mul, ← Nat.add_assoc] at this
        exact this)
      (fun i x k c cv hx hk hcv => hr (l + i) x k c cv (get_sub hx) hk (by rw [Nat.add_mul, ← Nat.add_assoc]; exact hcv))
    rw [hlen] at this
    exact this

theorem extract_mk (t : List UInt8) (l h : Nat) : (⟨⟨t⟩⟩ : ByteArray).extract l h = ⟨⟨(t.take h).drop l⟩⟩ := by
  apply ByteArray.ext
  rw [ByteArray.data_extract]
  apply Array.ext'
  simp [List.drop_take]

theorem slice_sound {S : St} (hS : HeapOk S) {T : TypeId} {x : AV} {xv : Value} {lo hi mx : Option AV} {lov hiv mxv : Option Value} {r : SR} (hx : Rel S x xv) (hlo : BRel S lo lov) (hhi : BRel S hi hiv) (hmx : BRel S mx mxv)
    (h : sliceA P S.L T x lo hi mx = some r) (hA : ∀ b ∈ r.asm, b = true) :
    r.L' = none ∧ r.calls = [] ∧ r.eqs = [] ∧ ∃ vv, (Instr.sliceAt T xv lov hiv mxv).run (P ()) S.w = .ok vv S.w ∧ Rel S r.v vv := by
  unfold sliceA at h
  split at h
  · rename_i t hu
    split at h
    · rename_i l p h' q hl hh
      simp only [Option.some.injEq] at h; subst h
      cases hmx
      have hp : ∀ b ∈ p, b = true := fun b hb => hA b (by simp [hb])
      have hq : ∀ b ∈ q, b = true := fun b hb => hA b (by simp [hb])
      have h1 : l ≤ h' := alld hA (by simp)
      have h2 : h' ≤ t.length := alld hA (by simp)
      rw [rel_str hx]
      have hb := bounds2 (P := P) (S := S) (isS := false) (cap := t.length) hlo hhi hl hh hp hq h1 h2
      refine ⟨rfl, rfl, rfl, .string ⟨⟨(t.take h').drop l⟩⟩, ?_, data_str S _⟩
      have hsz : (⟨⟨t⟩⟩ : ByteArray).size = t.length := rfl
      simp [Instr.sliceAt, run_underlying hu, Instr.slice, hsz, hb, extract_mk]
    · simp at h
  · rename_i e hu
    split at h
    · rename_i i l p h' q m u hi' hl hh hm
      simp only [Option.some.injEq] at h; subst h
      have hp : ∀ b ∈ p, b = true := fun b hb => hA b (by simp [hb])
      have hq : ∀ b ∈ q, b = true := fun b hb => hA b (by simp [hb])
      have hu' : ∀ b ∈ u, b = true := fun b hb => hA b (by simp [hb])
      have e1 : l = 0 := by simpa using hA (l == 0) (by simp)
      have e2 : h' = 0 := by simpa using hA (h' == 0) (by simp)
      have e3 : m = 0 := by simpa using hA (m == 0) (by simp)
      have e4 : (mx.isNone || hi.isSome) = true := hA _ (by simp)
      rw [rel_vnil hx]
      refine ⟨rfl, rfl, rfl, .slice none 0 0, ?_, .data _ _ .vnil⟩
      cases hmx with
      | none =>
        have hb := bounds2 (P := P) (S := S) (isS := true) (cap := 0) hlo hhi hl hh hp hq (by omega) (by omega)
        subst e1; subst e2
        simp [Instr.sliceAt, run_underlying hu, Instr.slice, hb, run_size hi']
      | some a v hv =>
        rcases bound_sound (.some a v hv) hm hu' with ⟨h1, _⟩ | ⟨k, n, h1, h2, h3⟩
        · cases h1
        · cases h1
          have hb := bounds3 (P := P) (S := S) (isS := true) (cap := 0) (m := 0) (mk := k) (mn := n) hlo hhi hl hh hp hq h2 (by omega) (by simpa using e4) (by omega) (by omega) (by omega)
          subst e1; subst e2
          simp [Instr.sliceAt, run_underlying hu, Instr.slice, hb, run_size hi']
    · simp at h
  · rename_i e f es xs hu
    split at h
    · rename_i i hi'
      split at h
      · rename_i hes
        split at h
        · rename_i l p h' q hl hh
          have sl : ∀ (a : Option Addr) (cap : Nat), xs.length ≤ cap → (∀ b ∈ p, b = true) → (∀ b ∈ q, b = true) → l ≤ h' → h' ≤ xs.length → mxv = none →
              (Instr.sliceAt T (.slice a xs.length cap) lov hiv mxv).run (P ()) S.w = .ok (.slice (if cap = l then a else a.map (·.add (l * es))) (h' - l) (cap - l)) S.w := by
            intro a cap hcap hp hq h1 h2 hm
            subst hm
            have hb := bounds2 (P := P) (S := S) (isS := true) (cap := cap) hlo hhi hl hh hp hq h1 (by omega)
            simp [Instr.sliceAt, run_underlying hu, Instr.slice, hb, run_size hi', hes]
          split at h
          · simp only [Option.some.injEq] at h; subst h
            cases hmx
            have hp : ∀ b ∈ p, b = true := fun b hb => hA b (by simp [hb])
            have hq : ∀ b ∈ q, b = true := fun b hb => hA b (by simp [hb])
            have h1 : l ≤ h' := alld hA (by simp)
            have h2 : h' ≤ xs.length := alld hA (by simp)
            have hd := rel_vec hx
            cases hd with
            | vecE _ _ a cap hf =>
              have e1 : h' = 0 := by simpa using h2
              have e2 : l = 0 := by omega
              subst e1; subst e2
              refine ⟨rfl, rfl, rfl, _, sl a cap (by simp) hp hq h1 h2 rfl, ?_⟩
              simp only [List.take_nil, List.drop_nil, Nat.sub_zero]
              exact .data _ _ (.vecE _ es _ cap fun e => hf (by simp at e; exact e.1))
            | vec _ _ _ b off cap ho hf hlc hc hr =>
              refine ⟨rfl, rfl, rfl, _, sl _ cap hlc hp hq h1 h2 rfl, .data _ _ ?_⟩
              have := vec_sub (S := S) (cap := cap) (f && hi.isNone) (cap - l) ho hc hr h1 h2 (by omega) (by omega) (fun e => by
                simp only [Bool.and_eq_true, Option.isNone_iff_eq_none] at e
                have e2 := hf e.1
                have : h' = xs.length := by
                  have := e.2; subst this
                  simp only [bound, Option.some.injEq, Prod.mk.injEq] at hh
                  exact hh.1.symm
                omega)
              simpa using this
          · rename_i k m
            simp only [Option.some.injEq] at h; subst h
            have hp : ∀ b ∈ p, b = true := fun b hb => hA b (by simp [hb])
            have hq : ∀ b ∈ q, b = true := fun b hb => hA b (by simp [hb])
            have h1 : l ≤ h' := alld hA (by simp)
            have h2 : h' ≤ xs.length := alld hA (by simp)
            have h3 : m = h' := by simpa using hA (m == h') (by simp)
            have h4 : hi.isSome = true := hA _ (by simp)
            cases hmx with
            | some _ v hv =>
              have ev := rel_int hv; subst ev
              have sl3 : ∀ (a : Option Addr) (cap : Nat), xs.length ≤ cap → (Instr.sliceAt T (.slice a xs.length cap) lov hiv (some (.int k m))).run (P ()) S.w = .ok (.slice (if h' = l then a else a.map (·.add (l * es))) (h' - l) (h' - l)) S.w := by
                intro a cap hcap
                have hb := bounds3 (P := P) (S := S) (isS := true) (cap := cap) (m := h') (mk := k) (mn := m) hlo hhi hl hh hp hq (by omega) (by omega) h4 h1 (Nat.le_refl _) (by omega)
                simp [Instr.sliceAt, run_underlying hu, Instr.slice, hb, run_size hi', hes]
              have hd := rel_vec hx
              cases hd with
              | vecE _ _ a cap hf =>
                have e1 : h' = 0 := by simpa using h2
                have e2 : l = 0 := by omega
                subst e1; subst e2
                refine ⟨rfl, rfl, rfl, _, sl3 a cap (by simp), ?_⟩
                simp only [List.take_nil, List.drop_nil, Nat.sub_zero]
                exact .data _ _ (.vecE _ es _ 0 fun _ => rfl)
              | vec _ _ _ b off cap ho hf hlc hc hr =>
                refine ⟨rfl, rfl, rfl, _, sl3 _ cap hlc, .data _ _ ?_⟩
                have := vec_sub (S := S) (cap := h') true (h' - l) ho hc hr h1 h2 (by omega) (by omega) (fun _ => by omega)
                simpa using this
          · simp at h
        · simp at h
      · simp at h
    · simp at h
  · rename_i e r' ver hu
    split at h
    · rename_i row i hrow hi'
      split at h
      · rename_i hes
        split at h
        · rename_i l p h' q hl hh
          obtain ⟨row', info, a1, a2, a3⟩ := rel_row hx
          rw [hrow] at a1
          simp only [Option.some.injEq] at a1; subst a1
          have hie := (hS.cells r' row info hrow a2).1
          have hic := (hS.cells r' row info hrow a2).2.1
          split at h
          · simp only [Option.some.injEq] at h; subst h
            cases hmx
            have hp : ∀ b ∈ p, b = true := fun b hb => hA b (by simp [hb])
            have hq : ∀ b ∈ q, b = true := fun b hb => hA b (by simp [hb])
            have h1 : l ≤ h' := alld hA (by simp)
            have h2 : h' ≤ row.elems.length := alld hA (by simp)
            have hver : row.ver = ver := by simpa using hA (row.ver == ver) (by simp)
            rw [a3 hver]
            have hb := bounds2 (P := P) (S := S) (isS := true) (cap := info.cap) hlo hhi hl hh hp hq h1 (by omega)
            refine ⟨rfl, rfl, rfl, .slice (some (if info.cap = l then ⟨info.blk, info.off, none⟩ else (⟨info.blk, info.off, none⟩ : Addr).add (l * row.es))) (h' - l) (info.cap - l), ?_,
              .ref _ _ _ _ row info _ ⟨_, _, _, rfl⟩ hrow a2 (by omega) fun _ => ⟨_, _, rfl, by omega, by omega, ?_⟩⟩
            · simp only [Instr.sliceAt, Sem.run_bind, run_underlying hu, Result.andThen_ok, Instr.slice, hb, run_size hi', Sem.run_pure, hes]
              split <;> rfl
            · by_cases e : info.cap = l
              · right; omega
              · left
                rw [if_neg e, addr_add, hie]
                exact ⟨rfl, by omega⟩
          · rename_i k m
            simp only [Option.some.injEq] at h; subst h
            have hp : ∀ b ∈ p, b = true := fun b hb => hA b (by simp [hb])
            have hq : ∀ b ∈ q, b = true := fun b hb => hA b (by simp [hb])
            have h1 : l = h' := by simpa using hA (l == h') (by simp)
            have h2 : h' ≤ row.elems.length := alld hA (by simp)
            have h3 : m = h' := by simpa using hA (m == h') (by simp)
            have h4 : hi.isSome = true := hA _ (by simp)
            have hver : row.ver = ver := by simpa using hA (row.ver == ver) (by simp)
            cases hmx with
            | some _ v hv =>
              have ev := rel_int hv; subst ev
              rw [a3 hver]
              have hb := bounds3 (P := P) (S := S) (isS := true) (cap := info.cap) (m := h') (mk := k) (mn := m) hlo hhi hl hh hp hq (by omega) (by omega) h4 (by omega) (Nat.le_refl _) (by omega)
              subst h1
              refine ⟨rfl, rfl, rfl, .slice (some ⟨info.blk, info.off, none⟩) 0 0, ?_, .data _ _ (.vecE _ _ _ 0 fun _ => rfl)⟩
              simp [Instr.sliceAt, run_underlying hu, Instr.slice, hb, run_size hi']
          · simp at h
        · simp at h
      · simp at h
    · simp at h
  · rename_i e r' ver low len hu
    split at h
    · rename_i row i hrow hi'
      split at h
      · rename_i hes
        split at h
        · rename_i l p h' q hl hh
          obtain ⟨row', info, a1, a2, a3⟩ := rel_ref hx
          rw [hrow] at a1
          simp only [Option.some.injEq] at a1; subst a1
          have hie := (hS.cells r' row info hrow a2).1
          split at h
          · simp only [Option.some.injEq] at h; subst h
            cases hmx
            have hp : ∀ b ∈ p, b = true := fun b hb => hA b (by simp [hb])
            have hq : ∀ b ∈ q, b = true := fun b hb => hA b (by simp [hb])
            have h1 : l ≤ h' := alld hA (by simp)
            have h2 : h' ≤ len := alld hA (by simp)
            have hver : row.ver = ver := by simpa using hA (row.ver == ver) (by simp)
            obtain ⟨a, cap, rfl, b1, b2, b3⟩ := a3 hver
            have hb := bounds2 (P := P) (S := S) (isS := true) (cap := cap) hlo hhi hl hh hp hq h1 (Nat.le_trans h2 b1)
            refine ⟨rfl, rfl, rfl, .slice (some (if cap = l then a else a.add (l * row.es))) (h' - l) (cap - l), ?_,
              .ref _ _ _ _ row info _ ⟨_, _, _, rfl⟩ hrow a2 (Nat.le_of_eq hver.symm) fun _ => ⟨_, _, rfl, Nat.sub_le_sub_right (Nat.le_trans h2 b1) _, ?_, ?_⟩⟩
            · simp only [Instr.sliceAt, Sem.run_bind, run_underlying hu, Result.andThen_ok, Instr.slice, hb, run_size hi', Sem.run_pure, hes]
              split <;> rfl
            · clear hb a3; omega
            · rcases b3 with ⟨rfl, b4⟩ | b4
              · by_cases e : cap = l
                · right; clear hb a3; omega
                · left
                  rw [if_neg e, addr_add, hie, Nat.add_mul, Nat.add_assoc]
                  exact ⟨rfl, by clear hb a3; omega⟩
              · right; clear hb a3; omega
          · rename_i k m
            simp only [Option.some.injEq] at h; subst h
            have hp : ∀ b ∈ p, b = true := fun b hb => hA b (by simp [hb])
            have hq : ∀ b ∈ q, b = true := fun b hb => hA b (by simp [hb])
            have h1 : l = h' := by simpa using hA (l == h') (by simp)
            have h2 : h' ≤ len := alld hA (by simp)
            have h3 : m = h' := by simpa using hA (m == h') (by simp)
            have h4 : hi.isSome = true := hA _ (by simp)
            have hver : row.ver = ver := by simpa using hA (row.ver == ver) (by simp)
            have h5 : 0 ≤ m := by omega
            have h6 : m.toNat = h' := by omega
            cases hmx with
            | some _ v hv =>
              have ev := rel_int hv; subst ev
              obtain ⟨a, cap, rfl, b1, b2, b3⟩ := a3 hver
              have hb := bounds3 (P := P) (S := S) (isS := true) (cap := cap) (m := h') (mk := k) (mn := m) hlo hhi hl hh hp hq h5 h6 h4 (Nat.le_of_eq h1) (Nat.le_refl _) (Nat.le_trans h2 b1)
              subst h1
              refine ⟨rfl, rfl, rfl, .slice (some a) 0 0, ?_, .data _ _ (.vecE _ _ _ 0 fun _ => rfl)⟩
              simp [Instr.sliceAt, run_underlying hu, Instr.slice, hb, run_size hi']
          · simp at h
        · simp at h
      · simp at h
    · simp at h
  · simp at h

theorem len_sound {S : St} {T ty : TypeId} {x : AV} {xv : Value} {r : SR} {ts : Array TypeId} (ht : ts[0]? = some T) (hx : Rel S x xv) (h : lenA P S.L T x = some r) (hA : ∀ b ∈ r.asm, b = true) :
    r.L' = none ∧ r.calls = [] ∧ r.eqs = [] ∧ ∃ vv, (Builtin.len_ ts ty #[xv]).run (P ()) S.w = .ok vv S.w ∧ Rel S r.v vv := by
  unfold lenA at h
  split at h
  · rename_i t hu
    simp only [Option.some.injEq] at h; subst h
    rw [rel_str hx]
    refine ⟨rfl, rfl, rfl, _, ?_, data_int S _ _⟩
    simp [Builtin.len_, ht, run_underlying hu, goInt]; rfl
  · rename_i e hu
    simp only [Option.some.injEq] at h; subst h
    rw [rel_vnil hx]
    exact ⟨rfl, rfl, rfl, _, by simp [Builtin.len_, ht, run_underlying hu, goInt], data_int S _ _⟩
  · rename_i e f es xs hu
    simp only [Option.some.injEq] at h; subst h
    refine ⟨rfl, rfl, rfl, _, ?_, data_int S _ _⟩
    have hd := rel_vec hx
    cases hd <;> simp [Builtin.len_, ht, run_underlying hu, goInt]
  · rename_i e r' ver hu
    split at h
    · rename_i row hrow
      simp only [Option.some.injEq] at h; subst h
      have hver : row.ver = ver := by simpa using hA (row.ver == ver) (by simp)
      obtain ⟨row', info, a1, a2, a3⟩ := rel_row hx
      rw [hrow] at a1
      simp only [Option.some.injEq] at a1; subst a1
      rw [a3 hver]
      exact ⟨rfl, rfl, rfl, _, by simp [Builtin.len_, ht, run_underlying hu, goInt], data_int S _ _⟩
    · simp at h
  · rename_i e r' ver lo len hu
    split at h
    · rename_i row hrow
      simp only [Option.some.injEq] at h; subst h
      have hver : row.ver = ver := by simpa using hA (row.ver == ver) (by simp)
      obtain ⟨row', info, a1, a2, a3⟩ := rel_ref hx
      rw [hrow] at a1
      simp only [Option.some.injEq] at a1; subst a1
      obtain ⟨a, cap, rfl, _⟩ := a3 hver
      exact ⟨rfl, rfl, rfl, _, by simp [Builtin.len_, ht, run_underlying hu, goInt], data_int S _ _⟩
    · simp at h
  · rename_i n e hu
    simp only [Option.some.injEq] at h; subst h
    exact ⟨rfl, rfl, rfl, _, by simp [Builtin.len_, ht, run_underlying hu, goInt], data_int S _ _⟩
  · simp at h

theorem cap_sound {S : St} {T ty : TypeId} {x v : AV} {xv : Value} {ts : Array TypeId} (ht : ts[0]? = some T) (hx : Rel S x xv) (h : capA P T x = some v) :
    ∃ vv, (Builtin.cap_ ts ty #[xv]).run (P ()) S.w = .ok vv S.w ∧ Rel S v vv := by
  unfold capA at h
  split at h
  · rename_i e hu
    simp only [Option.some.injEq] at h; subst h
    rw [rel_vnil hx]
    exact ⟨_, by simp [Builtin.cap_, ht, run_underlying hu, goInt], data_int S _ _⟩
  · rename_i e es xs hu
    simp only [Option.some.injEq] at h; subst h
    refine ⟨_, ?_, data_int S _ _⟩
    have hd := rel_vec hx
    cases hd with
    | vecE _ _ a cap hf => have := hf rfl; subst this; simp [Builtin.cap_, ht, run_underlying hu, goInt]
    | vec _ _ _ b off cap ho hf => have := hf rfl; subst this; simp [Builtin.cap_, ht, run_underlying hu, goInt]
  · simp at h

theorem fold_sound {S : St} {f : Int → Int → Int} {g : Value → Value → Sem Value} (hg : ∀ k x y w, ∀ k', (g (.int k x) (.int k' y)).run (P ()) w = .ok (.int k (f x y)) w) :
    ∀ (l : List AV) (vl : List Value) {x v : AV} {xv : Value}, Rel S x xv → RelL S l vl → foldA f x l = some v → ∃ vv, (vl.foldlM g xv).run (P ()) S.w = .ok vv S.w ∧ Rel S v vv := by
  intro l
  induction l with
  | nil =>
    intro vl x v xv hx hl h
    have : vl = [] := List.eq_nil_of_length_eq_zero hl.1.symm
    subst this
    have : x = v := by simpa [foldA] using h
    subst this
    exact ⟨xv, by simp, hx⟩
  | cons y l ih =>
    intro vl x v xv hx hl h
    cases vl with
    | nil => have := hl.1; simp at this
    | cons yv vl =>
      unfold foldA at h
      split at h
      · rename_i e; cases e
      · rename_i k a k' b r' e
        cases e
        have e1 := rel_int hx
        have e2 := rel_int hl.head
        subst e1; subst e2
        obtain ⟨vv, h1, h2⟩ := ih vl (data_int S k (f a b)) hl.tail h
        exact ⟨vv, by simp [List.foldlM_cons, hg, h1], h2⟩
      · simp at h

theorem min_sound {S : St} {ts : Array TypeId} {ty : TypeId} {x v : AV} {xv : Value} {l : List AV} {vl : List Value} (hx : Rel S x xv) (hl : RelL S l vl) (h : foldA (fun x y => if y < x then y else x) x l = some v) :
    ∃ vv, (Builtin.min_ ts ty ⟨xv :: vl⟩).run (P ()) S.w = .ok vv S.w ∧ Rel S v vv :=
  fold_sound (P := P) (g := Builtin.min2) (fun k x y w k' => by simp [Builtin.min2]) l vl hx hl h
theorem max_sound {S : St} {ts : Array TypeId} {ty : TypeId} {x v : AV} {xv : Value} {l : List AV} {vl : List Value} (hx : Rel S x xv) (hl : RelL S l vl) (h : foldA (fun x y => if y > x then y else x) x l = some v) :
    ∃ vv, (Builtin.max_ ts ty ⟨xv :: vl⟩).run (P ()) S.w = .ok vv S.w ∧ Rel S v vv :=
  fold_sound (P := P) (g := Builtin.max2) (fun k x y w k' => by simp [Builtin.max2]) l vl hx hl h

theorem extract_sound {S : St} {vs : List AV} {tv : Value} {i : Nat} {v : AV} (ht : Rel S (.tup vs) tv) (h : vs[i]? = some v) : ∃ vv, (Instr.extract tv i).run (P ()) S.w = .ok vv S.w ∧ Rel S v vv := by
  obtain ⟨us, rfl, h1, h2⟩ := rel_tup ht
  have hlt : i < us.length := by have := lt_of_get h; omega
  refine ⟨us[i], ?_, h2 i v _ h (List.getElem?_eq_getElem hlt)⟩
  have : (⟨us⟩ : Array Value)[i]? = some us[i] := by simp [hlt]
  simp only [Instr.extract, this]
  rfl
end
end Go.Av
