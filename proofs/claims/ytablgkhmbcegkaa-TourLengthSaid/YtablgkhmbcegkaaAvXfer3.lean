/- A CALL THAT WORKS ON ITS CALLER'S ROWS: what it hands back is put into the caller's memory. No program in sight. -/
import Derived.Test.YtablgkhmbcegkaaAvXfer2
namespace Go.Av
open Go.RowKit

section
variable {S S1 : St} {rs ns : List Nat} {rows old new : List Row}

/-- Where a row of the called function comes to lie. -/
def backOf (n : Nat) (rs ns : List Nat) (i : Nat) : Nat := bif Nat.blt i rs.length then rs.getD i 0 else n + posOf ns i

theorem back_lt {n i : Nat} (h : i < rs.length) : backOf n rs ns i = rs[i] := by
  have : Nat.blt i rs.length = true := by simpa [Nat.blt_eq] using h
  simp [backOf, this, h]
theorem back_ge {n i : Nat} (h : rs.length ≤ i) : backOf n rs ns i = n + posOf ns i := by
  have : Nat.blt i rs.length = false := by
    cases hb : Nat.blt i rs.length with
    | false => rfl
    | true => have := Nat.blt_eq.mp hb; omega
  simp [backOf, this]

def backL (L : Heap) (rs ns : List Nat) (old new : List Row) : Heap := putAt L rs (old.map (renRow (backOf L.length rs ns))) ++ new.map (renRow (backOf L.length rs ns))
def backβ (β β1 : List BI) (rs ns : List Nat) : List BI := putAt β rs (subβ β1 (List.range rs.length)) ++ subβ β1 ns

theorem sub_at {β : List BI} {l : List Nat} {j i : Nat} {info : BI} (h : l[j]? = some i) (hi : β[i]? = some info) : (subβ β l)[j]? = some info := by
  unfold subβ
  obtain ⟨h1, h2⟩ := List.getElem?_eq_some_iff.1 hi
  rw [List.getElem?_map, h]
  simp [h1, h2]

/-- Rows of the called function, behind. -/
theorem back_in (hS : HeapOk S) (hlen : ∀ r ∈ rs, r < S.L.length) (hnd : rs.Nodup) (ho : getRows S1.L (List.range rs.length) = some old) (hn : getRows S1.L ns = some new)
    {i : Nat} {row : Row} {info : BI} (hi : i < rs.length ∨ i ∈ ns) (h1 : S1.L[i]? = some row) (h2 : S1.β[i]? = some info) :
    (backL S.L rs ns old new)[backOf S.L.length rs ns i]? = some (renRow (backOf S.L.length rs ns) row) ∧ (backβ S.β S1.β rs ns)[backOf S.L.length rs ns i]? = some info := by
  obtain ⟨o1, o2⟩ := getRows_spec ho
  obtain ⟨n1, n2⟩ := getRows_spec hn
  by_cases hlt : i < rs.length
  · have hr : (List.range rs.length)[i]? = some i := by simp [hlt]
    obtain ⟨row0, k1, k2⟩ := o2 i i hr
    rw [h1] at k1
    simp only [Option.some.injEq] at k1; subst k1
    rw [back_lt hlt]
    have hm : rs[i] < S.L.length := hlen _ (List.getElem_mem hlt)
    have hm2 : rs[i] < S.β.length := by rw [← hS.len]; exact hm
    unfold backL backβ
    rw [List.getElem?_append_left (by rw [putAt_len]; exact hm), List.getElem?_append_left (by rw [putAt_len]; exact hm2)]
    exact ⟨putAt_at rs _ _ hnd i _ _ (List.getElem?_eq_getElem hlt) (by rw [List.getElem?_map, k2]; rfl) hm, putAt_at rs _ _ hnd i _ _ (List.getElem?_eq_getElem hlt) (sub_at hr h2) hm2⟩
  · have hm : i ∈ ns := hi.resolve_left hlt
    have hp := posOf_get hm
    obtain ⟨row0, k1, k2⟩ := n2 _ i hp
    rw [h1] at k1
    simp only [Option.some.injEq] at k1; subst k1
    rw [back_ge (by omega)]
    unfold backL backβ
    rw [List.getElem?_append_right (by rw [putAt_len]; omega), List.getElem?_append_right (by rw [putAt_len, hS.len]; omega), putAt_len, putAt_len]
    have e1 : S.L.length + posOf ns i - S.L.length = posOf ns i := by omega
    have e2 : S.L.length + posOf ns i - S.β.length = posOf ns i := by have := hS.len; omega
    rw [e1, e2]
    exact ⟨by rw [List.getElem?_map, k2]; rfl, sub_at hp h2⟩

/-- Every row behind is one of the caller's own that were not handed over, or one of the called function's. -/
theorem back_cases (hS : HeapOk S) (hS1 : HeapOk S1) (hnd : rs.Nodup) (hns : ns.Nodup) (hge : ∀ i ∈ ns, rs.length ≤ i) (ho : getRows S1.L (List.range rs.length) = some old) (hn : getRows S1.L ns = some new) (hlen : ∀ r ∈ rs, r < S.L.length) {q : Nat}
    (hq : q < (backL S.L rs ns old new).length) :
    (q < S.L.length ∧ q ∉ rs ∧ (backL S.L rs ns old new)[q]? = S.L[q]? ∧ (backβ S.β S1.β rs ns)[q]? = S.β[q]?) ∨
    ∃ i row info, (i < rs.length ∨ i ∈ ns) ∧ q = backOf S.L.length rs ns i ∧ S1.L[i]? = some row ∧ S1.β[i]? = some info ∧ (backL S.L rs ns old new)[q]? = some (renRow (backOf S.L.length rs ns) row) ∧ (backβ S.β S1.β rs ns)[q]? = some info := by
  obtain ⟨o1, o2⟩ := getRows_spec ho
  obtain ⟨n1, n2⟩ := getRows_spec hn
  have fin : ∀ i row, (i < rs.length ∨ i ∈ ns) → q = backOf S.L.length rs ns i → S1.L[i]? = some row → ∃ i row info, (i < rs.length ∨ i ∈ ns) ∧ q = backOf S.L.length rs ns i ∧ S1.L[i]? = some row ∧ S1.β[i]? = some info ∧ (backL S.L rs ns old new)[q]? = some (renRow (backOf S.L.length rs ns) row) ∧ (backβ S.β S1.β rs ns)[q]? = some info := by
    intro i row hi he h1
    have hlt : i < S1.β.length := by rw [← hS1.len]; exact lt_of_get h1
    obtain ⟨k1, k2⟩ := back_in hS hlen hnd ho hn hi h1 (List.getElem?_eq_getElem hlt)
    exact ⟨i, row, _, hi, he, h1, List.getElem?_eq_getElem hlt, by rw [he]; exact k1, by rw [he]; exact k2⟩
  by_cases hlt : q < S.L.length
  · by_cases hm : q ∈ rs
    · right
      have hp := posOf_get hm
      obtain ⟨h3, h4⟩ := List.getElem?_eq_some_iff.1 hp
      obtain ⟨row, k1, _⟩ := o2 (posOf rs q) (posOf rs q) (by simp [h3])
      exact fin (posOf rs q) row (.inl h3) (by rw [back_lt h3, h4]) k1
    · left
      refine ⟨hlt, hm, ?_, ?_⟩
      · unfold backL
        rw [List.getElem?_append_left (by rw [putAt_len]; exact hlt), putAt_other _ _ _ _ hm]
      · unfold backβ
        rw [List.getElem?_append_left (by rw [putAt_len, ← hS.len]; exact hlt), putAt_other _ _ _ _ hm]
  · right
    have hj : q - S.L.length < ns.length := by
      unfold backL at hq
      rw [List.length_append, putAt_len, List.length_map, n1] at hq
      omega
    obtain ⟨row, k1, _⟩ := n2 (q - S.L.length) ns[q - S.L.length] (List.getElem?_eq_getElem hj)
    have hmem : ns[q - S.L.length] ∈ ns := List.getElem_mem hj
    refine fin ns[q - S.L.length] row (.inr hmem) ?_ k1
    rw [back_ge (hge _ hmem), posOf_at hns (List.getElem?_eq_getElem hj)]
    omega

/-- The way back. -/
theorem back_ok (hS : HeapOk S) (hrows : getRows S.L rs = some rows) (hnd : rs.Nodup) (hcl : ∀ row ∈ rows, ∀ r ∈ rowRefs row, r ∈ rs)
    (hS1 : HeapOk S1) (hE : Ext ⟨S.base, accOf S rs, rows.map (renRow (posOf rs)), subβ S.β rs, S.w⟩ S1)
    (hns : ns.Nodup) (hge : ∀ i ∈ ns, rs.length ≤ i) (ho : getRows S1.L (List.range rs.length) = some old) (hn : getRows S1.L ns = some new)
    (href : ∀ row ∈ old ++ new, ∀ r ∈ rowRefs row, r < rs.length ∨ r ∈ ns) :
    HeapOk ⟨S.base, S.acc, backL S.L rs ns old new, backβ S.β S1.β rs ns, S1.w⟩ ∧ Ext S ⟨S.base, S.acc, backL S.L rs ns old new, backβ S.β S1.β rs ns, S1.w⟩ ∧
    ∀ a v, Rel S1 a v → (∀ r ∈ rowsA a, r < rs.length ∨ r ∈ ns) → Rel ⟨S.base, S.acc, backL S.L rs ns old new, backβ S.β S1.β rs ns, S1.w⟩ (renA (backOf S.L.length rs ns) a) v := by
  obtain ⟨hSc, hic, _⟩ := sub_ok hS hrows hnd hcl
  obtain ⟨g1, g2⟩ := getRows_spec hrows
  obtain ⟨o1, o2⟩ := getRows_spec ho
  obtain ⟨n1, n2⟩ := getRows_spec hn
  have hlen : ∀ r ∈ rs, r < S.L.length := fun r hr => by
    obtain ⟨j, hj⟩ := List.getElem?_of_mem hr
    obtain ⟨row, k1, _⟩ := g2 j r hj
    exact lt_of_get k1
  have hbase : S1.base = S.base := hE.base
  have hacc : S1.acc = accOf S rs := hE.acc
  have hsize : S.w.heap.size ≤ S1.w.heap.size := hE.below.size
  -- the rows that were handed over
  have hsub : ∀ (j : Nat) info, (subβ S.β rs)[j]? = some info → ∃ r, rs[j]? = some r ∧ S.β[r]? = some info := by
    intro j info h
    unfold subβ at h
    rw [List.getElem?_map] at h
    obtain ⟨r, h1, rfl⟩ := Option.map_eq_some_iff.1 h
    have hlt : r < S.β.length := by rw [← hS.len]; exact hlen r (List.mem_of_getElem? h1)
    exact ⟨r, h1, by simp [hlt]⟩
  have hno : ∀ (q : Nat) info, S.β[q]? = some info → q ∉ rs → ∀ (j : Nat) info', (subβ S.β rs)[j]? = some info' → info'.blk ≠ info.blk := by
    intro q info h1 h2 j info' h3 he
    obtain ⟨r, k1, k2⟩ := hsub j info' h3
    have := hS.inj r q info' info k2 h1 he
    subst this
    exact h2 (List.mem_of_getElem? k1)
  have hstay : ∀ (q : Nat) info, S.β[q]? = some info → q ∉ rs → S1.w.heap[info.blk]? = S.w.heap[info.blk]? := by
    intro q info h1 h2
    obtain ⟨b1, b2⟩ := hS.blk q info h1
    exact hE.other info.blk b1 b2 fun j info' h3 => hno q info h1 h2 j info' h3
  have hfresh : ∀ (i : Nat) info', S1.β[i]? = some info' → (∃ (r : Nat) (info : BI), r ∈ rs ∧ S.β[r]? = some info ∧ info.blk = info'.blk) ∨ S.w.heap.size ≤ info'.blk := by
    intro i info' h
    rcases hE.fresh i info' h with ⟨j, info, h1, h2⟩ | h1
    · obtain ⟨r, k1, k2⟩ := hsub j info h1
      exact .inl ⟨r, info, List.mem_of_getElem? k1, k2, h2⟩
    · exact .inr h1
  have hqβ : ∀ (q : Nat) info, (backβ S.β S1.β rs ns)[q]? = some info → q < (backL S.L rs ns old new).length := by
    intro q info h
    have := lt_of_get h
    unfold backβ at this
    unfold backL
    rw [List.length_append, putAt_len] at this ⊢
    simp only [subβ, List.length_map] at this ⊢
    rw [n1, hS.len]; exact this
  have hcases : ∀ (q : Nat), q < (backL S.L rs ns old new).length → _ := fun q hq => back_cases hS hS1 hnd hns hge ho hn hlen hq
  have himm : ∀ b off, Imm S b off → b < S.w.heap.size → Imm ⟨S.base, S.acc, backL S.L rs ns old new, backβ S.β S1.β rs ns, S1.w⟩ b off ∧ S1.w.cell? ⟨b, off, none⟩ = S.w.cell? ⟨b, off, none⟩ := by
    intro b off hi hb
    obtain ⟨i1, i2⟩ := hE.imm b off (hic b off hi) hb
    refine ⟨⟨hi.1, fun q info hq he => ?_⟩, i2⟩
    rcases hcases q (hqβ q info hq) with ⟨c1, c2, c3, c4⟩ | ⟨i, row, info', c1, c2, c3, c4, c5, c6⟩
    · rw [c4] at hq
      obtain ⟨row, r1, r2⟩ := hi.2 q info hq he
      exact ⟨row, c3.trans r1, r2⟩
    · rw [c6] at hq
      simp only [Option.some.injEq] at hq; subst hq
      obtain ⟨row', r1, r2, r3, r4⟩ := i1.2 i info' c4 he
      rw [c3] at r1
      simp only [Option.some.injEq] at r1; subst r1
      obtain ⟨_, _, s3, _, s5⟩ := renRow_spec (backOf S.L.length rs ns) row
      exact ⟨_, c5, by rw [s3]; exact r2, r3, by rw [s5]; exact r4⟩
  have hd : ∀ a v, DRel S1 a v → DRel ⟨S.base, S.acc, backL S.L rs ns old new, backβ S.β S1.β rs ns, S1.w⟩ a v := by
    intro a v h
    refine DRel.shift (S := S1) (S' := ⟨S.base, S.acc, backL S.L rs ns old new, backβ S.β S1.β rs ns, S1.w⟩) rfl (fun b off hi hb => ?_) h
    obtain ⟨h1, h2⟩ := hi
    rw [hacc] at h1
    refine ⟨?_, fun q info hq he => ?_⟩
    · rcases h1 with h1 | ⟨r, info, _, h3, rfl⟩ | h1
      · exact hS.anew b off h1
      · exact hS.acq r info off h3
      · exact h1.1
    · rcases hcases q (hqβ q info hq) with ⟨c1, c2, c3, c4⟩ | ⟨i, row, info', c1, c2, c3, c4, c5, c6⟩
      · rw [c4] at hq
        rcases h1 with h1 | ⟨r, info', h3, h4, h5⟩ | h1
        · have := (hS.blk q info hq).2; omega
        · have := hS.inj r q info' info h4 hq (h5.trans he.symm)
          subst this
          exact absurd h3 c2
        · obtain ⟨row, r1, r2⟩ := h1.2 q info hq he
          exact ⟨row, c3.trans r1, r2⟩
      · rw [c6] at hq
        simp only [Option.some.injEq] at hq; subst hq
        obtain ⟨row', r1, r2, r3, r4⟩ := h2 i info' c4 he
        rw [c3] at r1
        simp only [Option.some.injEq] at r1; subst r1
        obtain ⟨_, _, s3, _, s5⟩ := renRow_spec (backOf S.L.length rs ns) row
        exact ⟨_, c5, by rw [s3]; exact r2, r3, by rw [s5]; exact r4⟩
  have hrow : ∀ (r : Nat) row info, (r < rs.length ∨ r ∈ ns) → S1.L[r]? = some row → S1.β[r]? = some info →
      ∃ row', (backL S.L rs ns old new)[backOf S.L.length rs ns r]? = some row' ∧ (backβ S.β S1.β rs ns)[backOf S.L.length rs ns r]? = some info ∧ row'.ver = row.ver ∧ row'.elems.length = row.elems.length := by
    intro r row info hr h1 h2
    obtain ⟨k1, k2⟩ := back_in hS hlen hnd ho hn hr h1 h2
    obtain ⟨_, s2, _, _, s5⟩ := renRow_spec (backOf S.L.length rs ns) row
    exact ⟨_, k1, k2, s2, s5⟩
  have hex : Ext S ⟨S.base, S.acc, backL S.L rs ns old new, backβ S.β S1.β rs ns, S1.w⟩ := by
    refine ⟨rfl, rfl, himm, fun r row info h1 h2 => ?_, hE.below, fun q info hq => ?_, fun b hb hlt hnb => ?_⟩
    · by_cases hm : r ∈ rs
      · have hp := posOf_get hm
        obtain ⟨p1, p2⟩ := List.getElem?_eq_some_iff.1 hp
        obtain ⟨row0, k1, k2⟩ := g2 _ r hp
        rw [h1] at k1
        simp only [Option.some.injEq] at k1; subst k1
        obtain ⟨_, s2, _, _, s5⟩ := renRow_spec (posOf rs) row
        obtain ⟨row1, info1, e1, e2, e3, e4⟩ := hE.rows (posOf rs r) (renRow (posOf rs) row) info (by show (rows.map _)[posOf rs r]? = _; rw [List.getElem?_map, k2]; rfl) (sub_at hp h2)
        obtain ⟨b1, b2⟩ := back_in hS hlen hnd ho hn (.inl p1) e1 e2
        rw [back_lt p1, p2] at b1 b2
        obtain ⟨_, t2, _, _, t5⟩ := renRow_spec (backOf S.L.length rs ns) row1
        exact ⟨_, info1, b1, b2, by rw [t2, ← s2]; exact e3, fun e => by rw [t5, ← s5]; exact e4 (by rw [s2, ← t2]; exact e)⟩
      · have hq : r < (backL S.L rs ns old new).length := by
          unfold backL; rw [List.length_append, putAt_len]; have := lt_of_get h1; omega
        refine ⟨row, info, ?_, ?_, Nat.le_refl _, fun _ => ⟨rfl, rfl⟩⟩
        · show (backL S.L rs ns old new)[r]? = _
          unfold backL
          rw [List.getElem?_append_left (by rw [putAt_len]; exact lt_of_get h1), putAt_other _ _ _ _ hm]; exact h1
        · show (backβ S.β S1.β rs ns)[r]? = _
          unfold backβ
          rw [List.getElem?_append_left (by rw [putAt_len]; exact lt_of_get h2), putAt_other _ _ _ _ hm]; exact h2
    · rcases hcases q (hqβ q info hq) with ⟨c1, c2, c3, c4⟩ | ⟨i, row, info', c1, c2, c3, c4, c5, c6⟩
      · have hq' : (backβ S.β S1.β rs ns)[q]? = some info := hq
        rw [c4] at hq'
        exact .inl ⟨q, info, hq', rfl⟩
      · have hq' : (backβ S.β S1.β rs ns)[q]? = some info := hq
        rw [c6] at hq'
        simp only [Option.some.injEq] at hq'; subst hq'
        rcases hfresh i info' c4 with ⟨r, inf, _, h3, h4⟩ | h
        · exact .inl ⟨r, inf, h3, h4⟩
        · exact .inr h
    · refine hE.other b hb hlt fun j info h => ?_
      obtain ⟨r, _, h2⟩ := hsub j info h
      exact hnb r info h2
  refine ⟨?_, hex, fun a v h hr => ren_rel hrow hd h hr⟩
  have hboth : ∀ (q : Nat) row' info, (backL S.L rs ns old new)[q]? = some row' → (backβ S.β S1.β rs ns)[q]? = some info →
      (q < S.L.length ∧ q ∉ rs ∧ S.L[q]? = some row' ∧ S.β[q]? = some info) ∨
      ∃ i row, (i < rs.length ∨ i ∈ ns) ∧ q = backOf S.L.length rs ns i ∧ S1.L[i]? = some row ∧ S1.β[i]? = some info ∧ row' = renRow (backOf S.L.length rs ns) row := by
    intro q row' info h1 h2
    rcases hcases q (lt_of_get h1) with ⟨c1, c2, c3, c4⟩ | ⟨i, row, info', c1, c2, c3, c4, c5, c6⟩
    · exact .inl ⟨c1, c2, c3.symm.trans h1, c4.symm.trans h2⟩
    · rw [c5] at h1; rw [c6] at h2
      simp only [Option.some.injEq] at h1 h2; subst h1; subst h2
      exact .inr ⟨i, row, c1, c2, c3, c4, rfl⟩
  have hβc : ∀ (q : Nat) info, (backβ S.β S1.β rs ns)[q]? = some info → (q ∉ rs ∧ S.β[q]? = some info) ∨ ∃ i, (i < rs.length ∨ i ∈ ns) ∧ q = backOf S.L.length rs ns i ∧ S1.β[i]? = some info := by
    intro q info h
    rcases hcases q (hqβ q info h) with ⟨c1, c2, c3, c4⟩ | ⟨i, row, info', c1, c2, c3, c4, c5, c6⟩
    · exact .inl ⟨c2, c4.symm.trans h⟩
    · rw [c6] at h
      simp only [Option.some.injEq] at h; subst h
      exact .inr ⟨i, c1, c2, c4⟩
  have hrefs : ∀ i row, (i < rs.length ∨ i ∈ ns) → S1.L[i]? = some row → ∀ r ∈ rowRefs row, r < rs.length ∨ r ∈ ns := by
    intro i row hi h1
    refine href row ?_
    rcases hi with hi | hi
    · obtain ⟨row0, k1, k2⟩ := o2 i i (by simp [hi])
      rw [h1] at k1
      simp only [Option.some.injEq] at k1; subst k1
      exact List.mem_append_left _ (List.mem_of_getElem? k2)
    · obtain ⟨row0, k1, k2⟩ := n2 _ i (posOf_get hi)
      rw [h1] at k1
      simp only [Option.some.injEq] at k1; subst k1
      exact List.mem_append_right _ (List.mem_of_getElem? k2)
  have hmixed : ∀ (q i : Nat) info info', q ∉ rs → S.β[q]? = some info → S1.β[i]? = some info' → info.blk ≠ info'.blk := by
    intro q i info info' hq h1 h2 he
    rcases hfresh i info' h2 with ⟨r, inf, k1, k2, k3⟩ | k
    · have := hS.inj r q inf info k2 h1 (k3.trans he.symm)
      subst this
      exact hq k1
    · have := (hS.blk q info h1).2; omega
  refine ⟨Nat.le_trans hS.base hsize, ?_, fun q info h => ?_, fun q q' info info' h h' he => ?_, fun q row' info h1 h2 => ?_, fun q row' h1 => ?_, fun q row' info i x k c cv h1 h2 hx hk hcv => ?_, fun q row' info i x k c cv h1 h2 hc hx hk hcv => ?_, fun q info off h => ?_, fun b off h => hS.anew b off (Nat.le_trans hsize h)⟩
  · show (backL S.L rs ns old new).length = (backβ S.β S1.β rs ns).length
    unfold backL backβ subβ
    rw [List.length_append, List.length_append, putAt_len, putAt_len, List.length_map, List.length_map, n1, hS.len]
  · rcases hβc q info h with ⟨_, h1⟩ | ⟨i, _, _, h1⟩
    · exact ⟨(hS.blk q info h1).1, Nat.lt_of_lt_of_le (hS.blk q info h1).2 hsize⟩
    · have := hS1.blk i info h1
      rw [hbase] at this; exact this
  · rcases hβc q info h with ⟨a1, a2⟩ | ⟨i, a1, a2, a3⟩
    · rcases hβc q' info' h' with ⟨b1, b2⟩ | ⟨i', b1, b2, b3⟩
      · exact hS.inj q q' info info' a2 b2 he
      · exact absurd he (hmixed q i' info info' a1 a2 b3)
    · rcases hβc q' info' h' with ⟨b1, b2⟩ | ⟨i', b1, b2, b3⟩
      · exact absurd he.symm (hmixed q' i info' info b1 b2 a3)
      · have := hS1.inj i i' info info' a3 b3 he
        subst this
        rw [a2, b2]
  · rcases hboth q row' info h1 h2 with ⟨_, a2, a3, a4⟩ | ⟨i, row, a1, a2, a3, a4, rfl⟩
    · obtain ⟨b1, b2, cs, T, b3, b4⟩ := hS.cells q row' info a3 a4
      exact ⟨b1, b2, cs, T, (hstay q info a4 a2).trans b3, b4⟩
    · obtain ⟨s1, _, _, _, s5⟩ := renRow_spec (backOf S.L.length rs ns) row
      rw [s1, s5]
      exact hS1.cells i row info a3 a4
  · rcases hcases q (lt_of_get h1) with ⟨c1, c2, c3, c4⟩ | ⟨i, row, info', c1, c2, c3, c4, c5, c6⟩
    · exact hS.elems q row' (c3.symm.trans h1)
    · have h1' : (backL S.L rs ns old new)[q]? = some row' := h1
      rw [c5] at h1'
      simp only [Option.some.injEq] at h1'; subst h1'
      have := hS1.elems i row c3
      unfold renRow
      cases row.clean with
      | true => exact this
      | false => exact ren_ok this
  · rcases hboth q row' info h1 h2 with ⟨_, a2, a3, a4⟩ | ⟨j, row, a1, a2, a3, a4, rfl⟩
    · exact (hS.rel q row' info i x k c cv a3 a4 hx hk (by rw [← cell_of_heap (hstay q info a4 a2)]; exact hcv)).mono hex
    · exact (row_over (S := S1) (S' := ⟨S.base, S.acc, backL S.L rs ns old new, backβ S.β S1.β rs ns, S1.w⟩) (cellv := fun i k => S1.w.cell? ⟨info.blk, info.off + i * info.es + k, none⟩) hrow hd (hrefs j row a1 a3)
        (fun i x k c cv hx hk hcv => hS1.rel j row info i x k c cv a3 a4 hx hk hcv) (fun hc i x k c cv hx hk hcv => hS1.clean j row info i x k c cv a3 a4 hc hx hk hcv)).1 i x k c cv hx hk hcv
  · rcases hboth q row' info h1 h2 with ⟨_, a2, a3, a4⟩ | ⟨j, row, a1, a2, a3, a4, rfl⟩
    · exact (hS.clean q row' info i x k c cv a3 a4 hc hx hk (by rw [← cell_of_heap (hstay q info a4 a2)]; exact hcv)).mono hex
    · exact (row_over (S := S1) (S' := ⟨S.base, S.acc, backL S.L rs ns old new, backβ S.β S1.β rs ns, S1.w⟩) (cellv := fun i k => S1.w.cell? ⟨info.blk, info.off + i * info.es + k, none⟩) hrow hd (hrefs j row a1 a3)
        (fun i x k c cv hx hk hcv => hS1.rel j row info i x k c cv a3 a4 hx hk hcv) (fun hc i x k c cv hx hk hcv => hS1.clean j row info i x k c cv a3 a4 hc hx hk hcv)).2 hc i x k c cv hx hk hcv
  · rcases hβc q info h with ⟨_, h1⟩ | ⟨i, _, _, h1⟩
    · exact hS.acq q info off h1
    · have := hS1.acq i info off h1
      rw [hacc] at this
      rcases this with h2 | ⟨r, inf, _, h3, h4⟩ | h2
      · exact hS.anew _ off h2
      · rw [← h4]; exact hS.acq r inf off h3
      · exact h2.1
end
end Go.Av
