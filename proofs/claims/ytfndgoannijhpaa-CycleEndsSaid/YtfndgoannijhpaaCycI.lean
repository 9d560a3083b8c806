/- 'CycleEnds': where the moves of Expand lead. -/
import Derived.Test.YtfndgoannijhpaaVcH
namespace Go.Av
open Go.Proofs

section
variable (low rate : Int)

/-- A move that is as it is to be, behind a position. -/
def Sp.okMv (p : Ps) (m : Mv) : Prop :=
  ¬m.p = p ∧ low ≤ m.p.z ∧ (m.kind = 2 → m.p.x = p.x ∧ m.p.y = p.y ∧ m.p.z < p.z ∧ m.rate = rate) ∧ (¬m.kind = 2 → m.kind = 1 ∧ m.rate = 0)
def Sp.chain : Ps → List Mv → Prop
  | _, [] => True
  | p, m :: l => Sp.okMv low rate p m ∧ Sp.chain m.p l
def Sp.endP : Ps → List Mv → Ps
  | p, [] => p
  | _, m :: l => Sp.endP m.p l

variable {low rate}
theorem endP_app (m : Mv) : ∀ (l : List Mv) (p : Ps), Sp.endP p (l ++ [m]) = m.p
  | [], _ => rfl
  | a :: l, _ => endP_app m l a.p
theorem chain_app (m : Mv) : ∀ (l : List Mv) (p : Ps), Sp.chain low rate p l → Sp.okMv low rate (Sp.endP p l) m → Sp.chain low rate p (l ++ [m])
  | [], _, _, h => ⟨h, trivial⟩
  | a :: l, _, h, k => ⟨h.1, chain_app m l a.p h.2 k⟩

/-- Where a list of moves leads, and that they are all right. -/
def Sp.leads (low rate : Int) (p0 : Ps) (l : List Mv) (p : Ps) : Prop := Sp.chain low rate p0 l ∧ Sp.endP p0 l = p

theorem leads_rapid {p0 p q : Ps} {l : List Mv} (h : Sp.leads low rate p0 l p) (hq : low ≤ q.z) : Sp.leads low rate p0 (Sp.toL l p q 0) q := by
  unfold Sp.toL
  split
  · rename_i e; subst e; exact h
  · rename_i e
    refine ⟨chain_app _ _ _ h.1 ?_, endP_app _ _ _⟩
    rw [h.2]
    exact ⟨fun k => e k.symm, hq, fun k => by simp at k, fun _ => ⟨by simp, rfl⟩⟩

theorem leads_feed {p0 p q : Ps} {l : List Mv} (hr : 1 ≤ rate) (h : Sp.leads low rate p0 l p) (hq : low ≤ q.z) (hx : q.x = p.x) (hy : q.y = p.y) (hz : q.z < p.z) : Sp.leads low rate p0 (Sp.toL l p q rate) q := by
  unfold Sp.toL
  have hk : (if rate > 0 then (2 : Int) else 1) = 2 := if_pos (by omega)
  rw [hk]
  split
  · rename_i e; subst e; omega
  · rename_i e
    refine ⟨chain_app _ _ _ h.1 ?_, endP_app _ _ _⟩
    rw [h.2]
    exact ⟨fun k => e k.symm, hq, fun _ => ⟨hx, hy, hz, rfl⟩, fun k => absurd rfl k⟩

theorem leads_dl {p0 : Ps} {gx gy r : Int} (hr : 1 ≤ rate) (hlr : low ≤ r) : ∀ (d : List Int) (l : List Mv), (∀ x ∈ d, low ≤ x ∧ x < r) → Sp.leads low rate p0 l ⟨gx, gy, r⟩ → Sp.leads low rate p0 (Sp.dl gx gy r rate d l) ⟨gx, gy, r⟩
  | [], _, _, h => h
  | x :: d, l, hd, h => by
    have hx := hd x (by simp)
    exact leads_dl hr hlr d _ (fun y hy => hd y (by simp [hy])) (leads_rapid (leads_feed hr h hx.1 rfl rfl hx.2) hlr)

theorem leads_one {code r z q ini : Int} {high : Bool} {p0 : Ps} {x y h gx gy : Int} {l : List Mv} (hv : validE code r z q rate ini = 0) (hlz : low ≤ z) (hlh : low ≤ h) (hl : Sp.leads low rate p0 l ⟨x, y, h⟩) :
    Sp.leads low rate p0 (Sp.oneL code r z q rate ini high x y h gx gy l) ⟨gx, gy, if high = true then ini else r⟩ := by
  obtain ⟨f1, f2, f3, f4, f5, f6, -, -, -⟩ := valid_facts hv
  obtain ⟨-, -, g3⟩ := Sp.depths_spec hv
  have ht : low ≤ if r > h then r else h := by split <;> omega
  have h1 := leads_rapid (q := ⟨x, y, if r > h then r else h⟩) hl ht
  have h2 := leads_rapid (q := ⟨gx, gy, if r > h then r else h⟩) h1 ht
  have h3 := leads_rapid (q := ⟨gx, gy, r⟩) h2 (show low ≤ r by omega)
  have h4 := leads_dl f6 (show low ≤ r by omega) (Sp.depths code r z q rate ini) _ (fun d hd => by have := g3 d hd; omega) h3
  unfold Sp.oneL
  cases high with
  | true => exact leads_rapid (q := ⟨gx, gy, ini⟩) h4 (show low ≤ ini by omega)
  | false => exact h4

theorem leads_run {code r z q ini : Int} {high : Bool} {p0 : Ps} (hv : validE code r z q rate ini = 0) (hlz : low ≤ z) : ∀ (gs : List G2) (p : Ps) (l f : List Mv), low ≤ p.z → Sp.leads low rate p0 l p → Sp.run code r z q rate ini high gs p l = some f →
    ∃ e, Sp.leads low rate p0 f e ∧ low ≤ e.z ∧ (gs = [] → e = p) ∧ (gs ≠ [] → e = ⟨(gs.getD (gs.length - 1) default).x, (gs.getD (gs.length - 1) default).y, if high = true then ini else r⟩)
  | [], p, l, f, hp, h, hf => by
    simp only [Sp.run, Option.some.injEq] at hf; subst hf
    exact ⟨p, h, hp, fun _ => rfl, fun h => absurd rfl h⟩
  | g :: gs, p, l, f, hp, h, hf => by
    obtain ⟨f1, f2, f3, f4, f5, f6, -, -, -⟩ := valid_facts hv
    simp only [Sp.run] at hf
    split at hf
    · simp at hf
    · have he : low ≤ if high = true then ini else r := by split <;> omega
      obtain ⟨e, h1, h2, h3, h4⟩ := leads_run hv hlz gs _ _ f he (leads_one hv hlz hp h) hf
      refine ⟨e, h1, h2, fun k => by simp at k, fun _ => ?_⟩
      cases gs with
      | nil => rw [h3 rfl]; rfl
      | cons g' gs => rw [h4 (by simp)]; simp
end

theorem loop4 {code r z q rate ini : Int} {high fl : Bool} {gs : List G2} {ms : List Mv} {x y h : Int} {dq : AV} (hgs : gs.length ≤ 20) (hgn : gs ≠ []) (hms : ms.length ≤ 20000)
    (e : Ps) (he : e = ⟨(gs.getD (gs.length - 1) default).x, (gs.getD (gs.length - 1) default).y, if high = true then ini else r⟩) (hq : AV.bool true = dq) : ∀ (k i : Nat) (px py pz : Int), i + k = ms.length →
    Sp.chain (if h < z then h else z) rate ⟨px, py, pz⟩ (ms.drop i) → Sp.endP ⟨px, py, pz⟩ (ms.drop i) = e → v4a_at code r z q rate ini high fl gs ms x y h px py pz ms.length i (PureQ dq) := by
  intro k
  have hgl : 0 < gs.length := List.length_pos_iff.2 hgn
  induction k with
  | zero =>
    intro i px py pz hi h1 h2
    rw [List.drop_eq_nil_of_le (by omega)] at h2
    simp only [Sp.endP] at h2
    rw [he, Ps.mk.injEq] at h2
    obtain ⟨e1, e2, e3⟩ := h2
    have hn : ((gs.length : Int) - 1).toNat = gs.length - 1 := by omega
    refine v4a _ _ _ _ _ _ _ _ _ _ _ _ _ _ _ _ _ _ dq ⟨fun h => by omega, fun _ => ⟨fun hh => ⟨by omega, by omega, by omega, ?_⟩, fun hh => ⟨by omega, by omega, by omega, ?_⟩⟩⟩
    · rw [hn, ← hq, e1, e2, e3, if_pos hh]; simp
    · rw [hn, ← hq, e1, e2, e3, if_neg hh]; simp
  | succ k ih =>
    intro i px py pz hi h1 h2
    have hlt : i < ms.length := by omega
    rw [drop_getD hlt] at h1 h2
    simp only [Sp.chain, Sp.endP] at h1 h2
    obtain ⟨⟨o1, o2, o3, o4⟩, h1⟩ := h1
    refine v4a _ _ _ _ _ _ _ _ _ _ _ _ _ _ _ _ _ _ dq ⟨fun _ => ⟨by omega, by omega, ?_⟩, fun h => by omega⟩
    rw [Int.toNat_natCast]
    generalize ms.getD i default = m at *
    refine ⟨fun hb => ?_, fun _ => ⟨by omega, ih (i + 1) _ _ _ (by omega) h1 h2⟩⟩
    exfalso
    have o1' : ¬(m.p.x = px ∧ m.p.y = py ∧ m.p.z = pz) := fun k => o1 (by obtain ⟨_, ⟨_, _, _⟩, _⟩ := m; simpa using k)
    rcases hb with (((hb | hb) | hb) | hb)
    · exact o1' hb
    · omega
    · obtain ⟨a, b, c, d⟩ := o3 hb.1
      rcases hb.2 with ((hb | hb) | hb) | hb
      · exact hb a
      · exact hb b
      · exact absurd c (by simp only; omega)
      · exact hb d
    · obtain ⟨a, b⟩ := o4 hb.1
      rcases hb.2 with hb | hb
      · exact hb a
      · exact hb b

theorem run_le {code r z q rate ini : Int} {high : Bool} : ∀ (gs : List G2) (p : Ps) (l f : List Mv), l.length ≤ 20000 → Sp.run code r z q rate ini high gs p l = some f → f.length ≤ 20000
  | [], p, l, f, h, hf => by simp only [Sp.run, Option.some.injEq] at hf; subst hf; exact h
  | g :: gs, p, l, f, h, hf => by
    simp only [Sp.run] at hf
    split at hf
    · simp at hf
    · exact run_le gs _ _ f (by omega) hf

theorem expand_ok {code r z q rate ini : Int} {high : Bool} {p : Ps} {gs : List G2} (h : (Sp.expand code r z q rate ini high p gs).2 = 0) :
    validE code r z q rate ini = 0 ∧ (farI p.x || farI p.y || farI p.z || Sp.farG gs) = false ∧ Sp.run code r z q rate ini high gs p [] = some (Sp.expand code r z q rate ini high p gs).1 := by
  unfold Sp.expand at h ⊢
  split at h
  · rename_i hv
    rw [if_pos hv]
    split at h
    · simp at h
    · rename_i hb
      rw [if_neg hb]
      refine ⟨hv, by simpa using hb, ?_⟩
      split at h
      · rename_i f hf; rw [hf]
      · simp at h
  · rename_i hv; exact absurd h hv

theorem expand_bad {code r z q rate ini : Int} {high : Bool} {p : Ps} {gs : List G2} (h : ¬(Sp.expand code r z q rate ini high p gs).2 = 0) : (Sp.expand code r z q rate ini high p gs).1 = [] := by
  unfold Sp.expand at h ⊢
  split
  · rename_i hv
    rw [if_pos hv] at h
    split
    · rfl
    · rename_i hb
      rw [if_neg hb] at h
      split
      · rename_i f hf; rw [hf] at h; exact absurd rfl h
      · rfl
  · rfl

theorem ev4 (code r z q rate ini : Int) (high fl : Bool) (gs : List G2) (x y h : Int) : Ev M1 (.pure 4 [cyc code r z q rate ini high, .agg [.int .i64 x, .int .i64 y, .int .i64 h], .vec fl 2 (gs.map G2.a)]) (.bool true) [] := by
  refine call4 (v4 code r z q rate ini high fl gs x y h _ ⟨fun _ => rfl, fun hl => ⟨by simp; omega, by omega, fun he => ?_, fun he => ?_⟩⟩)
  · rw [expand_bad he]; rfl
  · obtain ⟨hv, _, hf⟩ := expand_ok (Classical.not_not.1 he)
    have hgn : gs ≠ [] := by rintro rfl; simp at hl
    have hle := run_le gs _ _ _ (by simp) hf
    obtain ⟨e, ⟨h1, h2⟩, -, -, h4⟩ := leads_run (low := if h < z then h else z) (p0 := ⟨x, y, h⟩) hv (by split <;> omega) gs ⟨x, y, h⟩ [] _ (by show _ ≤ h; split <;> omega) ⟨trivial, rfl⟩ hf
    exact loop4 (by omega) hgn hle e (h4 hgn) rfl _ 0 x y h (Nat.zero_add _) (by simpa using h1) (by simpa using h2)
end Go.Av
