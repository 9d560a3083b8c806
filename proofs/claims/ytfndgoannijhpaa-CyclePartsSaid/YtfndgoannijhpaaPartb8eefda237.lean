/- PART 7 of the texts of a claim, joined by a program: what each part shows stands at its head. -/
import Derived.Test.YtfndgoannijhpaaParteb736f4db2

/- 'CycleParts': the moves for a list of positions are those of its parts, one after the other. -/
namespace Go.Av
open Go.Proofs

theorem toL_pre (m l : List Mv) (p q : Ps) (rate : Int) : Sp.toL (m ++ l) p q rate = m ++ Sp.toL l p q rate := by
  unfold Sp.toL; split <;> simp
theorem dl_pre (gx gy r rate : Int) (m : List Mv) : ∀ (d : List Int) (l : List Mv), Sp.dl gx gy r rate d (m ++ l) = m ++ Sp.dl gx gy r rate d l
  | [], _ => rfl
  | x :: d, l => by simp only [Sp.dl, toL_pre, dl_pre gx gy r rate m d]
theorem one_pre (code r z q rate ini : Int) (high : Bool) (x y h gx gy : Int) (m l : List Mv) : Sp.oneL code r z q rate ini high x y h gx gy (m ++ l) = m ++ Sp.oneL code r z q rate ini high x y h gx gy l := by
  unfold Sp.oneL
  simp only [toL_pre, dl_pre]
  split <;> simp only [toL_pre]
section
variable {code r z q rate ini : Int} {high : Bool}
theorem run_pre (m : List Mv) : ∀ (gs : List G2) (p : Ps) (l f : List Mv), Sp.run code r z q rate ini high gs p (m ++ l) = some f → ∃ f', f = m ++ f' ∧ Sp.run code r z q rate ini high gs p l = some f'
  | [], p, l, f, h => by simp only [Sp.run, Option.some.injEq] at h; exact ⟨l, h.symm, rfl⟩
  | g :: gs, p, l, f, h => by
    simp only [Sp.run, one_pre] at h
    split at h
    · simp at h
    · rename_i hl
      obtain ⟨f', e, k⟩ := run_pre m gs _ _ f h
      refine ⟨f', e, ?_⟩
      simp only [Sp.run]
      rw [if_neg (by rw [List.length_append] at hl; omega)]; exact k
/-- Where one stands behind positions. -/
def Sp.behind (r ini : Int) (high : Bool) : List G2 → Ps → Ps
  | [], p => p
  | g :: gs, _ => Sp.behind r ini high gs ⟨g.x, g.y, if high = true then ini else r⟩
theorem run_app : ∀ (g1 g2 : List G2) (p : Ps) (l f : List Mv), Sp.run code r z q rate ini high (g1 ++ g2) p l = some f → ∃ f1, Sp.run code r z q rate ini high g1 p l = some f1 ∧ Sp.run code r z q rate ini high g2 (Sp.behind r ini high g1 p) f1 = some f
  | [], g2, p, l, f, h => ⟨l, rfl, h⟩
  | g :: g1, g2, p, l, f, h => by
    simp only [List.cons_append, Sp.run] at h
    split at h
    · simp at h
    · rename_i hl
      obtain ⟨f1, a, b⟩ := run_app g1 g2 _ _ f h
      refine ⟨f1, ?_, b⟩
      simp only [Sp.run]; rw [if_neg hl]; exact a
theorem leads_behind {low : Int} {p0 : Ps} (hv : validE code r z q rate ini = 0) (hlz : low ≤ z) : ∀ (gs : List G2) (p : Ps) (l f : List Mv), low ≤ p.z → Sp.leads low rate p0 l p → Sp.run code r z q rate ini high gs p l = some f → Sp.leads low rate p0 f (Sp.behind r ini high gs p)
  | [], p, l, f, _, h, hf => by simp only [Sp.run, Option.some.injEq] at hf; subst hf; exact h
  | g :: gs, p, l, f, hp, h, hf => by
    obtain ⟨f1, f2, f3, f4, f5, f6, -, -, -⟩ := valid_facts hv
    simp only [Sp.run] at hf
    split at hf
    · simp at hf
    · have he : low ≤ if high = true then ini else r := by split <;> omega
      exact leads_behind hv hlz gs _ _ f he (leads_one hv hlz hp h) hf
theorem endP_last : ∀ (l : List Mv) (p : Ps), 0 < l.length → Sp.endP p l = (l.getD (l.length - 1) default).p
  | [], _, h => by simp at h
  | [m], _, _ => rfl
  | m :: n :: l, p, _ => by
    have := endP_last (n :: l) m.p (by simp)
    simpa [Sp.endP] using this
theorem behind_near (h : ini ≤ 10000000 ∧ -10000000 ≤ r ∧ r ≤ ini) : ∀ (gs : List G2) (p : Ps), (farI p.x || farI p.y || farI p.z || Sp.farG gs) = false → (farI (Sp.behind r ini high gs p).x || farI (Sp.behind r ini high gs p).y || farI (Sp.behind r ini high gs p).z) = false
  | [], p, k => by simp only [Bool.or_eq_false_iff] at k ⊢; exact k.1
  | g :: gs, p, k => by
    refine behind_near h gs _ ?_
    simp only [Bool.or_eq_false_iff, Sp.farG, List.any_cons] at k ⊢
    refine ⟨⟨k.2.1, ?_⟩, k.2.2⟩
    unfold farI
    split <;> simp <;> omega
theorem farG_app (a b : List G2) : Sp.farG (a ++ b) = (Sp.farG a || Sp.farG b) := by unfold Sp.farG; rw [List.any_append]
/-- The moves for a list of positions. -/
theorem parts {p : Ps} {g1 g2 : List G2} (h : (Sp.expand code r z q rate ini high p (g1 ++ g2)).2 = 0) :
    (Sp.expand code r z q rate ini high p g1).2 = 0 ∧ (Sp.expand code r z q rate ini high (Sp.endP p (Sp.expand code r z q rate ini high p g1).1) g2).2 = 0 ∧
    (Sp.expand code r z q rate ini high p (g1 ++ g2)).1 = (Sp.expand code r z q rate ini high p g1).1 ++ (Sp.expand code r z q rate ini high (Sp.endP p (Sp.expand code r z q rate ini high p g1).1) g2).1 := by
  obtain ⟨hv, hf, hr⟩ := expand_ok h
  obtain ⟨f1, a, b⟩ := run_app g1 g2 p [] _ hr
  obtain ⟨f2, e, c⟩ := run_pre f1 g2 (Sp.behind r ini high g1 p) [] _ (by rw [List.append_nil]; exact b)
  rw [farG_app] at hf
  have hf0 := hf
  simp only [Bool.or_eq_false_iff] at hf
  have n1 : (farI p.x || farI p.y || farI p.z || Sp.farG g1) = false := by simp [hf]
  have e1 : Sp.expand code r z q rate ini high p g1 = (f1, 0) := by
    unfold Sp.expand; rw [if_pos hv, if_neg (by rw [n1]; simp), a]
  obtain ⟨v1, v2, v3, v4, v5, v6, -, -, -⟩ := valid_facts hv
  have hb : Sp.endP p f1 = Sp.behind r ini high g1 p := (leads_behind (low := if p.z < z then p.z else z) (p0 := p) hv (by split <;> omega) g1 p [] f1 (by split <;> omega) ⟨trivial, rfl⟩ a).2
  have n2 := behind_near (high := high) (r := r) (ini := ini) (by omega) g1 p n1
  have e2 : Sp.expand code r z q rate ini high (Sp.behind r ini high g1 p) g2 = (f2, 0) := by
    unfold Sp.expand; rw [if_pos hv, if_neg (by rw [n2, hf.2.2]; simp), c]
  rw [e1]
  refine ⟨rfl, ?_, ?_⟩
  · show (Sp.expand code r z q rate ini high (Sp.endP p f1) g2).2 = 0
    rw [hb, e2]
  · show _ = f1 ++ (Sp.expand code r z q rate ini high (Sp.endP p f1) g2).1
    rw [hb, e2, e]
end
theorem expand_len (code r z q rate ini : Int) (high : Bool) (p : Ps) (gs : List G2) : (Sp.expand code r z q rate ini high p gs).1.length ≤ 20000 := by
  by_cases h : (Sp.expand code r z q rate ini high p gs).2 = 0
  · obtain ⟨_, _, hr⟩ := expand_ok h
    exact run_le gs p [] _ (by simp) hr
  · rw [expand_bad h]; simp
theorem ev9 (code r z q rate ini : Int) (high : Bool) (x y h : Int) (fl : Bool) (gs : List G2) (k : Int) (hk : 0 ≤ k ∧ k ≤ 255) : Ev M1 (.pure 9 [cyc code r z q rate ini high, .agg [.int .i64 x, .int .i64 y, .int .i64 h], .agg [.vec fl 2 (gs.map G2.a), .int .u8 k]]) (.bool true) [] := by
  refine call9 (v9 code r z q rate ini high x y h fl gs k _ ⟨fun _ => rfl, fun h20 => ⟨by simp; omega, by omega, fun _ => rfl, fun he => ?_⟩⟩)
  have he := Classical.not_not.1 he
  have hk2 : k.tmod ((gs.length : Int) + 1) = (((k.toNat % (gs.length + 1)) : Nat) : Int) := by
    obtain ⟨m, rfl⟩ : ∃ m : Nat, k = (m : Int) := ⟨k.toNat, by omega⟩
    rw [Int.tmod_eq_emod_of_nonneg (by omega)]; simp
  rw [hk2]
  generalize hK : k.toNat % (gs.length + 1) = K
  have hKl : K ≤ gs.length := by
    have := Nat.mod_lt k.toNat (show 0 < gs.length + 1 by omega); omega
  rw [Int.toNat_natCast, List.drop_zero, List.take_length]
  have hp := parts (p := ⟨x, y, h⟩) (g1 := gs.take K) (g2 := gs.drop K) (by rw [List.take_append_drop]; exact he)
  rw [List.take_append_drop] at hp
  have la := expand_len code r z q rate ini high ⟨x, y, h⟩ (gs.take K)
  have lall := expand_len code r z q rate ini high ⟨x, y, h⟩ gs
  generalize hA : (Sp.expand code r z q rate ini high ⟨x, y, h⟩ (gs.take K)).1 = A at hp la ⊢
  obtain ⟨p1, p2, p3⟩ := hp
  refine ⟨by omega, by omega, by omega, by simp; omega, by simp; omega, by omega, by omega, hKl, fun hl => ?_, fun hl => ?_⟩
  · have hl' : 0 < A.length := by omega
    have hn : ((A.length : Int) - 1).toNat = A.length - 1 := by omega
    rw [endP_last A _ hl'] at p2 p3
    have lb := expand_len code r z q rate ini high (A.getD (A.length - 1) default).p (gs.drop K)
    refine ⟨by omega, by omega, by omega, by simp; omega, by simp; omega, fun _ => ⟨by omega, ?_⟩, fun _ => by omega, ?_⟩
    · rw [hn]; show (Sp.expand code r z q rate ini high (A.getD (A.length - 1) default).p (gs.drop K)).1.length ≤ 400000; omega
    · rw [hn]
      refine congrArg AV.bool ?_
      show (bif bif _ == 0 then (Sp.expand code r z q rate ini high (A.getD (A.length - 1) default).p (gs.drop K)).2 == 0 else false then decide (_ = A ++ (Sp.expand code r z q rate ini high (A.getD (A.length - 1) default).p (gs.drop K)).1) else false) = true
      rw [p1, p2, ← p3]; simp
  · have hn : A = [] := List.eq_nil_of_length_eq_zero (by omega)
    subst hn
    have lb := expand_len code r z q rate ini high ⟨x, y, h⟩ (gs.drop K)
    simp only [Sp.endP, List.nil_append] at p2 p3
    refine ⟨by simp; omega, by simp; omega, fun _ => ⟨by omega, by omega⟩, fun _ => by omega, congrArg AV.bool ?_⟩
    rw [p1, p2, List.nil_append, ← p3]; simp
end Go.Av
