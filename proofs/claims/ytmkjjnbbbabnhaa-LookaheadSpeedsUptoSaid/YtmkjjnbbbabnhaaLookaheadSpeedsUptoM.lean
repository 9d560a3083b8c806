/- 'LookaheadSpeeds' returns true for all parts, where what it reads is not too great: the given statement 'Rows.LookaheadSpeedsUptoSaid', without conditions. -/
import Derived.Test.YtmkjjnbbbabnhaaPart54d437ddc8
import Derived.OpenShut
import Derived.JoinedCond
namespace Go.Proofs.Ytmkjjnbbbabnhaa
open Go.Av Go.RowKit Go.WideShapes Go.ChangeShapes Go.ChangeAt

theorem bulk_one {H : Type} (d : DataW H) : 1 ≤ Rows.uptoBulk d := by
  cases d with
  | lit l => cases l <;> simp [Rows.uptoBulk]
  | _ => simp [Rows.uptoBulk]
theorem bulk_len {H : Type} (l : List (DataW H)) : l.length ≤ Rows.uptoBulkAll l := by
  induction l with
  | nil => simp [Rows.uptoBulkAll]
  | cons x r ih => have := bulk_one x; simp only [Rows.uptoBulkAll, List.length_cons]; omega
theorem top_bulk {H : Type} (d : DataW H) : topLen d ≤ Rows.uptoBulk d := by
  cases d with
  | slice elems spare => have := bulk_len elems; simp only [Rows.uptoBulk, topLen]; omega
  | _ => exact Nat.zero_le _
theorem part_bulk {H : Type} {d : DataW H} {l : List (DataW H)} (h : d ∈ l) : Rows.uptoBulk d ≤ Rows.uptoBulkAll l := by
  induction l with
  | nil => cases h
  | cons x r ih =>
    simp only [Rows.uptoBulkAll]
    rcases List.mem_cons.1 h with e | e
    · subst e; omega
    · have := ih e; omega
theorem upto_len {H : Type} {ds gs : List (DataW H)} (hk : Rows.uptoSmall H (ds ++ gs) = true) {d : DataW H} {j : Nat} (h : ds[j]? = some d) : topLen d ≤ 1048576 := by
  have h1 := of_decide_eq_true hk
  have h2 := part_bulk (List.mem_append_left gs (List.mem_of_getElem? h))
  have h3 := top_bulk d
  omega

set_option maxRecDepth 100000 in
theorem lookaheadSpeeds_lifted (os : Os) (started : os.Started) (H : Type) (enc : TypeId × Value → H) (F : Stop.Interp) :
    ReturnsInHanded {} Try.checked os 3 .any ((Rows.OpenSpec.upto Rows.lookaheadSpeedsSpec).pre6 enc Try.prog Try.f3 Rows.lookaheadSpeedsUptoRow.domain false) (((Rows.OpenSpec.upto Rows.lookaheadSpeedsSpec).at F).post enc Try.prog Try.f3 false true false false) := by
  refine returnsInHanded_of_cond (C := Try.checked) (s := Rows.OpenSpec.upto Rows.lookaheadSpeedsSpec) (k := Rows.uptoSmall) rfl ownGo started (by kernel_rfl) Try.func3
    (OpenSpec.witness (enc := enc) (C := Try.checked) (s := Rows.OpenSpec.upto Rows.lookaheadSpeedsSpec) (k := Rows.uptoSmall) rfl false ⟨#[], #[.slice none 0 0, .int .i64 0], []⟩ 8 (by kernel_rfl) (by kernel_rfl) (by kernel_rfl)
      (x := ([.nil, .lit (.int .i64 0)], [], [])) (by kernel_rfl) rfl (by kernel_rfl)) ?_
  intro W base args ds gs before hval hW _ hk _
  refine law_post2 (M := M1) (P := Try.prog) (n := 5 + 1 + 1 + 1) (tb := 4) rfl (by kernel_rfl) laidOut rfl (by kernel_rfl) Try.underlying4 ?_ ?_ ?_ hval hW
  · rw [Try.params3]
    intro t ht
    simp only [List.mem_cons, List.not_mem_nil, or_false] at ht
    rcases ht with rfl | rfl <;> exact ⟨by kernel_rfl, by kernel_rfl, of_decide_eq_true (by kernel_rfl)⟩
  · rw [Try.params3]
    intro ds hds
    match ds, hds with
    | [d0, d1], _ => rfl
  · rw [Try.params3]
    intro ass hl h _ hlen
    match ass, hl with
    | [a0, a1], _ =>
      obtain ⟨o0, rfl⟩ := parts_ty (h 0 22 a0 rfl rfl)
      obtain ⟨n1, rfl, l1, u1⟩ := ty_int Try.underlying2 (h 1 2 a1 rfl rfl)
      obtain ⟨d, hd, hd2⟩ := hlen 0 22 _ _ _ _ rfl Try.underlying22 rfl
      have hb := upto_len hk hd
      have hc : (o0.length : Int) ≤ 2000000 := by simp only [List.length_map] at hd2; omega
      simp only [List.zip_cons_cons, List.zip_nil_right, List.map_cons, List.map_nil, pack2, pack22]
      exact ev3 _ _ _ hc

theorem lookaheadSpeedsUpto_proved : Rows.LookaheadSpeedsUptoSaid :=
  OpenClaim.holds_of_cond 3 Try.f3 rfl rfl rfl rfl rfl rfl rfl ⟨rfl, rfl, rfl, rfl, rfl⟩ rfl rfl rfl rfl rfl (by kernel_rfl) Try.func3 (by kernel_rfl)
    (of_decide_eq_true (by kernel_rfl)) (by unfold Func.isWrapper; first | (rw [if_pos (by decide +kernel)]; kernel_rfl) | (rw [if_neg (by decide +kernel)]; exact ⟨rfl, rfl⟩))
    (fun os started H enc _ F => lookaheadSpeeds_lifted os started H enc F)
#print axioms lookaheadSpeedsUpto_proved
end Go.Proofs.Ytmkjjnbbbabnhaa
