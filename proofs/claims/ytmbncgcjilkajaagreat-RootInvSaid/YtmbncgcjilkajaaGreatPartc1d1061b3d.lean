/- PART 5 of the texts of a claim, joined by a program: what each part shows stands at its head. -/
import Derived.Test.YtmbncgcjilkajaaGreatPart6916458c5c

namespace Go.Av
open Go.Proofs
theorem scl_facts1 {D : Nat} (h : 1 <= Sp.cnt D) : 0 < Sp.scl D /\ Sp.scl D < 1000000000 /\ Sp.fits (Sp.cnt D) (D * Sp.scl D) /\ 1000000000 ^ (Sp.cnt D - 1) <= D * Sp.scl D /\ D / 1000000000 ^ (Sp.cnt D - 1) < 1000000000 := by
 have hf := fits_self D
 have ht : D / 1000000000 ^ (Sp.cnt D - 1) < 1000000000 := fits_top (by rw [show Sp.cnt D - 1 + 1 = Sp.cnt D by omega]; exact hf)
 have hnf : ¬Sp.fits (Sp.cnt D - 1) D := fun k => by have := fits_cnt.1 k; omega
 have hge : 1000000000 ^ (Sp.cnt D - 1) <= D := by unfold Sp.fits at hnf; omega
 have ht1 : 0 < D / 1000000000 ^ (Sp.cnt D - 1) := Nat.div_pos hge (Nat.pow_pos (by omega))
 have hlt : D < 1000000000 ^ (Sp.cnt D - 1) * (D / 1000000000 ^ (Sp.cnt D - 1) + 1) := Nat.lt_mul_div_succ D (Nat.pow_pos (by omega))
 have hp : 1000000000 ^ Sp.cnt D = 1000000000 ^ (Sp.cnt D - 1) * 1000000000 := by rw [<- Nat.pow_succ]; congr 1; omega
 have hs1 : 0 < Sp.scl D := Nat.div_pos (by omega) (by omega)
 have hs2 : Sp.scl D * (D / 1000000000 ^ (Sp.cnt D - 1) + 1) <= 1000000000 := Nat.div_mul_le_self _ _
 unfold Sp.fits
 rw [hp]
 generalize D / 1000000000 ^ (Sp.cnt D - 1) = t at ht1 ht hlt hs2
 generalize 1000000000 ^ (Sp.cnt D - 1) = P at hge hlt
 have hs3 : Sp.scl D < 1000000000 := by
  have : Sp.scl D * 2 <= Sp.scl D * (t + 1) := Nat.mul_le_mul_left _ (by omega)
  omega
 generalize Sp.scl D = s at hs1 hs2 hs3
 refine ⟨hs1, hs3, ?_, ?_, ht⟩
 ·have h1 : D * s < P * (t + 1) * s := Nat.mul_lt_mul_of_pos_right hlt hs1
  have h2 : P * (t + 1) * s = P * (s * (t + 1)) := by grind
  have h3 : P * (s * (t + 1)) <= P * 1000000000 := Nat.mul_le_mul_left _ hs2
  omega
 ·have : D * 1 <= D * s := Nat.mul_le_mul_left _ hs1
  omega
theorem top_facts {V : Nat} (hV : V ≠ 0) : 1 <= Sp.cnt V /\ 1 <= V / 1000000000 ^ (Sp.cnt V - 1) /\ V / 1000000000 ^ (Sp.cnt V - 1) < 1000000000 := by
 have hm : 1 <= Sp.cnt V := by
  have := cnt_eq_zero (v := V)
  omega
 have hnf : ¬Sp.fits (Sp.cnt V - 1) V := fun k => by have := fits_cnt.1 k; omega
 have hge : 1000000000 ^ (Sp.cnt V - 1) <= V := by unfold Sp.fits at hnf; omega
 exact ⟨hm, Nat.div_pos hge (Nat.pow_pos (by omega)), fits_top (by rw [show Sp.cnt V - 1 + 1 = Sp.cnt V by omega]; exact fits_self V)⟩
theorem fits_row {V R : Nat} (h : R < V * 1000000000) : Sp.fits (Sp.cnt V + 1) R := by
 have h1 := fits_self V
 unfold Sp.fits at h1 ⊢
 rw [Nat.pow_succ]
 exact Nat.lt_of_lt_of_le h (Nat.mul_le_mul_right _ (Nat.le_of_lt h1))
theorem partsTail {V R2 T : Nat} {t : Int} {G : Nat -> Int -> Prop} (hV : V ≠ 0) (hc : Sp.cnt V <= 400000) (hT : T = V / 1000000000 ^ (Sp.cnt V - 1)) (ht : t = (T : Int)) (hR : R2 < V * 1000000000)
  (hG : ∀ g : Nat, R2 / V <= g -> g < 1000000000 -> G (V * g) (g : Int)) :
   (((↑(Sp.lim R2).length : Int) > (↑(Sp.lim V).length : Int)) -> (0 <= (↑(Sp.lim V).length : Int)) /\
    ((↑(Sp.lim V).length : Int).toNat < (Sp.lim R2).length) /\
    (0 <= (Sp.lim R2).getD (↑(Sp.lim V).length : Int).toNat default /\ (Sp.lim R2).getD (↑(Sp.lim V).length : Int).toNat default <= 18446744073709551615) /\
    (0 <= (Sp.lim R2).getD (↑(Sp.lim V).length : Int).toNat default * 1000000000 /\ (Sp.lim R2).getD (↑(Sp.lim V).length : Int).toNat default * 1000000000 <= 18446744073709551615) /\
    (((↑(Sp.lim R2).length : Int) >= (↑(Sp.lim V).length : Int)) -> (-9223372036854775808 <= (↑(Sp.lim V).length : Int) - 1 /\ (↑(Sp.lim V).length : Int) - 1 <= 9223372036854775807) /\
     (0 <= (↑(Sp.lim V).length : Int) - 1) /\
     (((↑(Sp.lim V).length : Int) - 1).toNat < (Sp.lim R2).length) /\
     (0 <= (Sp.lim R2).getD ((↑(Sp.lim V).length : Int) - 1).toNat default /\ (Sp.lim R2).getD ((↑(Sp.lim V).length : Int) - 1).toNat default <= 18446744073709551615) /\
     (0 <= (Sp.lim R2).getD (↑(Sp.lim V).length : Int).toNat default * 1000000000 + (Sp.lim R2).getD ((↑(Sp.lim V).length : Int) - 1).toNat default /\ (Sp.lim R2).getD (↑(Sp.lim V).length : Int).toNat default * 1000000000 + (Sp.lim R2).getD ((↑(Sp.lim V).length : Int) - 1).toNat default <= 18446744073709551615) /\
     (¬t = 0) /\
     (0 <= ((Sp.lim R2).getD (↑(Sp.lim V).length : Int).toNat default * 1000000000 + (Sp.lim R2).getD ((↑(Sp.lim V).length : Int) - 1).toNat default).tdiv t /\ ((Sp.lim R2).getD (↑(Sp.lim V).length : Int).toNat default * 1000000000 + (Sp.lim R2).getD ((↑(Sp.lim V).length : Int) - 1).toNat default).tdiv t <= 18446744073709551615) /\
     ((((Sp.lim R2).getD (↑(Sp.lim V).length : Int).toNat default * 1000000000 + (Sp.lim R2).getD ((↑(Sp.lim V).length : Int) - 1).toNat default).tdiv t > 999999999) -> (Sp.okB (↑V : Int) /\ Sp.dig 999999999) /\
      G (V * Int.toNat 999999999) (999999999)) /\
     (¬(((Sp.lim R2).getD (↑(Sp.lim V).length : Int).toNat default * 1000000000 + (Sp.lim R2).getD ((↑(Sp.lim V).length : Int) - 1).toNat default).tdiv t > 999999999) -> (0 <= ((Sp.lim R2).getD (↑(Sp.lim V).length : Int).toNat default * 1000000000 + (Sp.lim R2).getD ((↑(Sp.lim V).length : Int) - 1).toNat default).tdiv t /\ ((Sp.lim R2).getD (↑(Sp.lim V).length : Int).toNat default * 1000000000 + (Sp.lim R2).getD ((↑(Sp.lim V).length : Int) - 1).toNat default).tdiv t <= 4294967295) /\
      (Sp.okB (↑V : Int) /\ Sp.dig (((Sp.lim R2).getD (↑(Sp.lim V).length : Int).toNat default * 1000000000 + (Sp.lim R2).getD ((↑(Sp.lim V).length : Int) - 1).toNat default).tdiv t)) /\
      G (V * (((Sp.lim R2).getD (↑(Sp.lim V).length : Int).toNat default * 1000000000 + (Sp.lim R2).getD ((↑(Sp.lim V).length : Int) - 1).toNat default).tdiv t).toNat) (((Sp.lim R2).getD (↑(Sp.lim V).length : Int).toNat default * 1000000000 + (Sp.lim R2).getD ((↑(Sp.lim V).length : Int) - 1).toNat default).tdiv t))) /\
    (¬((↑(Sp.lim R2).length : Int) >= (↑(Sp.lim V).length : Int)) -> (¬t = 0) /\
     (0 <= ((Sp.lim R2).getD (↑(Sp.lim V).length : Int).toNat default * 1000000000).tdiv t /\ ((Sp.lim R2).getD (↑(Sp.lim V).length : Int).toNat default * 1000000000).tdiv t <= 18446744073709551615) /\
     ((((Sp.lim R2).getD (↑(Sp.lim V).length : Int).toNat default * 1000000000).tdiv t > 999999999) -> (Sp.okB (↑V : Int) /\ Sp.dig 999999999) /\
      G (V * Int.toNat 999999999) (999999999)) /\
     (¬(((Sp.lim R2).getD (↑(Sp.lim V).length : Int).toNat default * 1000000000).tdiv t > 999999999) -> (0 <= ((Sp.lim R2).getD (↑(Sp.lim V).length : Int).toNat default * 1000000000).tdiv t /\ ((Sp.lim R2).getD (↑(Sp.lim V).length : Int).toNat default * 1000000000).tdiv t <= 4294967295) /\
      (Sp.okB (↑V : Int) /\ Sp.dig (((Sp.lim R2).getD (↑(Sp.lim V).length : Int).toNat default * 1000000000).tdiv t)) /\
      G (V * (((Sp.lim R2).getD (↑(Sp.lim V).length : Int).toNat default * 1000000000).tdiv t).toNat) (((Sp.lim R2).getD (↑(Sp.lim V).length : Int).toNat default * 1000000000).tdiv t)))) /\
   (¬((↑(Sp.lim R2).length : Int) > (↑(Sp.lim V).length : Int)) -> (((↑(Sp.lim R2).length : Int) >= (↑(Sp.lim V).length : Int)) -> (-9223372036854775808 <= (↑(Sp.lim V).length : Int) - 1 /\ (↑(Sp.lim V).length : Int) - 1 <= 9223372036854775807) /\
     (0 <= (↑(Sp.lim V).length : Int) - 1) /\
     (((↑(Sp.lim V).length : Int) - 1).toNat < (Sp.lim R2).length) /\
     (0 <= (Sp.lim R2).getD ((↑(Sp.lim V).length : Int) - 1).toNat default /\ (Sp.lim R2).getD ((↑(Sp.lim V).length : Int) - 1).toNat default <= 18446744073709551615) /\
     (0 <= 0 + (Sp.lim R2).getD ((↑(Sp.lim V).length : Int) - 1).toNat default /\ 0 + (Sp.lim R2).getD ((↑(Sp.lim V).length : Int) - 1).toNat default <= 18446744073709551615) /\
     (¬t = 0) /\
     (0 <= (0 + (Sp.lim R2).getD ((↑(Sp.lim V).length : Int) - 1).toNat default).tdiv t /\ (0 + (Sp.lim R2).getD ((↑(Sp.lim V).length : Int) - 1).toNat default).tdiv t <= 18446744073709551615) /\
     (((0 + (Sp.lim R2).getD ((↑(Sp.lim V).length : Int) - 1).toNat default).tdiv t > 999999999) -> (Sp.okB (↑V : Int) /\ Sp.dig 999999999) /\
      G (V * Int.toNat 999999999) (999999999)) /\
     (¬((0 + (Sp.lim R2).getD ((↑(Sp.lim V).length : Int) - 1).toNat default).tdiv t > 999999999) -> (0 <= (0 + (Sp.lim R2).getD ((↑(Sp.lim V).length : Int) - 1).toNat default).tdiv t /\ (0 + (Sp.lim R2).getD ((↑(Sp.lim V).length : Int) - 1).toNat default).tdiv t <= 4294967295) /\
      (Sp.okB (↑V : Int) /\ Sp.dig ((0 + (Sp.lim R2).getD ((↑(Sp.lim V).length : Int) - 1).toNat default).tdiv t)) /\
      G (V * ((0 + (Sp.lim R2).getD ((↑(Sp.lim V).length : Int) - 1).toNat default).tdiv t).toNat) ((0 + (Sp.lim R2).getD ((↑(Sp.lim V).length : Int) - 1).toNat default).tdiv t))) /\
    (¬((↑(Sp.lim R2).length : Int) >= (↑(Sp.lim V).length : Int)) -> (¬t = 0) /\
     (0 <= Int.tdiv 0 t /\ Int.tdiv 0 t <= 18446744073709551615) /\
     ((Int.tdiv 0 t > 999999999) -> (Sp.okB (↑V : Int) /\ Sp.dig 999999999) /\
      G (V * Int.toNat 999999999) (999999999)) /\
     (¬(Int.tdiv 0 t > 999999999) -> (0 <= Int.tdiv 0 t /\ Int.tdiv 0 t <= 4294967295) /\
      (Sp.okB (↑V : Int) /\ Sp.dig (Int.tdiv 0 t)) /\
      G (V * (Int.tdiv 0 t).toNat) (Int.tdiv 0 t)))) := by
 obtain ⟨hm, hT1, hTlt⟩ := top_facts hV
 rw [<- hT] at hT1 hTlt
 have hqB : R2 / V < 1000000000 := Nat.div_lt_of_lt_mul hR
 have hfR : Sp.fits (Sp.cnt V + 1) R2 := fits_row hR
 have hcR := fits_cnt.1 hfR
 have hq : R2 / V <= R2 / 1000000000 ^ (Sp.cnt V - 1) / T := by
  rw [Nat.le_div_iff_mul_le hT1, Nat.le_div_iff_mul_le (Nat.pow_pos (by omega))]
  have h1 : T * 1000000000 ^ (Sp.cnt V - 1) <= V := by rw [hT]; exact Nat.div_mul_le_self _ _
  have h2 := Nat.mul_le_mul_left (R2 / V) h1
  have h3 := Nat.div_mul_le_self R2 V
  rw [Nat.mul_assoc]; omega
 have hsp := digit_split R2 (Sp.cnt V - 1)
 rw [show Sp.cnt V - 1 + 1 = Sp.cnt V by omega] at hsp
 have hd1 : R2 / 1000000000 ^ Sp.cnt V < 1000000000 := fits_top hfR
 have hd0 : R2 / 1000000000 ^ (Sp.cnt V - 1) % 1000000000 < 1000000000 := Nat.mod_lt _ (by omega)
 have e0 : ((Sp.cnt V : Int) - 1).toNat = Sp.cnt V - 1 := by omega
 have okV : Sp.okB (V : Int) := by unfold Sp.okB; rw [Int.natAbs_natCast]; exact hc
 subst ht
 have hHb : R2 / 1000000000 ^ (Sp.cnt V - 1) <= 18446744073709551615 := by
  generalize R2 / 1000000000 ^ Sp.cnt V = d1 at hsp hd1
  omega
 have key : ∀ x : Int, x = ((R2 / 1000000000 ^ (Sp.cnt V - 1) : Nat) : Int) -> (¬(T : Int) = 0) /\ (0 <= x.tdiv T /\ x.tdiv T <= 18446744073709551615) /\
   ((x.tdiv T > 999999999) -> (Sp.okB (V : Int) /\ Sp.dig 999999999) /\ G (V * Int.toNat 999999999) 999999999) /\
   (¬(x.tdiv T > 999999999) -> (0 <= x.tdiv T /\ x.tdiv T <= 4294967295) /\ (Sp.okB (V : Int) /\ Sp.dig (x.tdiv T)) /\ G (V * (x.tdiv T).toNat) (x.tdiv T)) := by
  intro x hx
  have e : x.tdiv T = ((R2 / 1000000000 ^ (Sp.cnt V - 1) / T : Nat) : Int) := by rw [hx]; exact (Int.ofNat_tdiv _ _).symm
  have hb : R2 / 1000000000 ^ (Sp.cnt V - 1) / T <= 18446744073709551615 := Nat.le_trans (Nat.div_le_self _ _) hHb
  rw [e, Int.toNat_natCast]
  generalize R2 / 1000000000 ^ (Sp.cnt V - 1) / T = z at hq hb
  refine ⟨by omega, by omega, fun _ => ⟨⟨okV, by unfold Sp.dig; omega⟩, hG 999999999 (by omega) (by omega)⟩, fun h => ⟨by omega, ⟨okV, by unfold Sp.dig; omega⟩, hG z hq (by omega)⟩⟩
 simp only [lim_len, Int.toNat_natCast, e0]
 refine ⟨fun h => ?_, fun h => ⟨fun h2 => ?_, fun h2 => ?_⟩⟩
 ·have g1 : (Sp.lim R2).getD (Sp.cnt V) default = ((R2 / 1000000000 ^ Sp.cnt V % 1000000000 : Nat) : Int) := limN_getD R2 (show Sp.cnt V < Sp.cnt R2 by omega)
  have g0 : (Sp.lim R2).getD (Sp.cnt V - 1) default = ((R2 / 1000000000 ^ (Sp.cnt V - 1) % 1000000000 : Nat) : Int) := limN_getD R2 (show Sp.cnt V - 1 < Sp.cnt R2 by omega)
  rw [g1, g0, Nat.mod_eq_of_lt hd1]
  have hx : ((R2 / 1000000000 ^ Sp.cnt V : Nat) : Int) * 1000000000 + ((R2 / 1000000000 ^ (Sp.cnt V - 1) % 1000000000 : Nat) : Int) = ((R2 / 1000000000 ^ (Sp.cnt V - 1) : Nat) : Int) := by
   generalize R2 / 1000000000 ^ Sp.cnt V = d1 at hsp hd1
   generalize R2 / 1000000000 ^ (Sp.cnt V - 1) = d0 at hsp hd0
   omega
  have kk := key _ hx
  generalize R2 / 1000000000 ^ Sp.cnt V = d1 at hd1 kk
  generalize R2 / 1000000000 ^ (Sp.cnt V - 1) % 1000000000 = d0 at hd0 kk
  exact ⟨by omega, by omega, by omega, by omega, fun _ => ⟨by omega, by omega, by omega, by omega, by omega, kk⟩, fun h3 => absurd h (by omega)⟩
 ·have g0 : (Sp.lim R2).getD (Sp.cnt V - 1) default = ((R2 / 1000000000 ^ (Sp.cnt V - 1) % 1000000000 : Nat) : Int) := limN_getD R2 (show Sp.cnt V - 1 < Sp.cnt R2 by omega)
  have hz : R2 / 1000000000 ^ Sp.cnt V = 0 := fits_div (fits_self R2) (by omega)
  rw [g0]
  have hx : 0 + ((R2 / 1000000000 ^ (Sp.cnt V - 1) % 1000000000 : Nat) : Int) = ((R2 / 1000000000 ^ (Sp.cnt V - 1) : Nat) : Int) := by
   rw [hz] at hsp
   generalize R2 / 1000000000 ^ (Sp.cnt V - 1) = d0 at hsp hd0
   omega
  have kk := key _ hx
  generalize R2 / 1000000000 ^ (Sp.cnt V - 1) % 1000000000 = d0 at hd0 kk
  exact ⟨by omega, by omega, by omega, by omega, by omega, kk⟩
 ·have hz : R2 / 1000000000 ^ (Sp.cnt V - 1) = 0 := fits_div (fits_self R2) (by omega)
  exact key 0 (by rw [hz]; rfl)
theorem rloopG {V U R2 n : Nat} {s t i : Int} {o : List Int} {dq : AV} (hV : V ≠ 0) (hc : Sp.cnt V <= 400000) (hR : R2 < V * 1000000000) (hi : 0 <= i /\ i.toNat < n /\ i.toNat < o.length /\ i <= 9000000)
  (hn : rPartsH_at V U s t (i - 1) n (o.set i.toNat ((R2 / V : Nat) : Int)) (R2 % V) (PureQ dq)) :
  ∀ (k g : Nat), g = R2 / V + k -> g < 1000000000 -> rPartsG_at V U s t i n o R2 (V * g) (g : Int) (PureQ dq) := by
 have hqm := Nat.div_add_mod R2 V
 have hml := Nat.mod_lt R2 (Nat.pos_of_ne_zero hV)
 have hcR : Sp.cnt R2 <= Sp.cnt V + 1 := fits_cnt.1 (fits_row hR)
 generalize R2 / V = q at hn hqm ⊢
 generalize R2 % V = r at hn hqm hml
 have hcp : ∀ g, g < 1000000000 -> Sp.cnt (V * g) <= Sp.cnt V + 1 := fun g hg => fits_cnt.1 (fits_prod (fits_self V) (by unfold Sp.fits; omega))
 intro k
 induction k with
 | zero =>
  intro g hg hlt
  have hg : g = q := by omega
  subst hg
  have e : R2 - V * g = r := by omega
  have hcp := hcp _ hlt
  refine rPartsG _ _ _ _ _ _ _ _ _ _ _ ⟨⟨by unfold Sp.short; omega, by unfold Sp.short; omega⟩, fun h => ?_, fun h => ⟨⟨by unfold Sp.short; omega, by omega⟩, hi.1, hi.2.1, by omega, by omega, by omega, ?_⟩⟩
  ·exfalso
   have : ¬(((V * g : Nat) : Int) - (R2 : Int) > 0) := by omega
   unfold Sp.sgnI at h
   (repeat' split at h) <;> omega
  ·rw [Nat.zero_add, e]; exact hn
 | succ k ih =>
  intro g hg hlt
  have hgt : R2 < V * g := by
   have : V * (q + 1) <= V * g := Nat.mul_le_mul_left _ (by omega)
   rw [Nat.mul_succ] at this; omega
  have hcp := hcp _ hlt
  have hVg : V <= V * g := Nat.le_mul_of_pos_right _ (by omega)
  have e : V * g - V = V * (g - 1) := by
   rw [Nat.mul_sub]; simp
  refine rPartsG _ _ _ _ _ _ _ _ _ _ _ ⟨⟨by unfold Sp.short; omega, by unfold Sp.short; omega⟩, fun h => ⟨by omega, ⟨by unfold Sp.short; omega, hVg⟩, ?_⟩, fun h => ?_⟩
  ·rw [e, show (g : Int) - 1 = ((g - 1 : Nat) : Int) by omega]
   exact ih (g - 1) (by omega) (by omega)
  ·exfalso
   unfold Sp.sgnI at h
   (repeat' split at h) <;> omega
end Go.Av

namespace Go.Av
open Go.Proofs
theorem loopLR {R s n Q : Nat} {o : List Int} (hs : 0 < s /\ s < 1000000000) (ho : o.take n = Sp.limN n Q) (hQ : Sp.fits n Q) (hn : n <= 1000000) (hR : Sp.cnt R <= 1000000) : ∀ (i k : Nat) (l : List Int), i + k = Sp.cnt R -> l.length = Sp.cnt R -> l.drop i = Sp.limN k (R / 1000000000 ^ i / s) ->
  rPartsL_at R s ((R / 1000000000 ^ i % s : Nat) : Int) ((i : Int) - 1) n o l (PureQ (.tup [usA false (Sp.lim Q), usA false (Sp.lim (R / s))]))
 | 0, k, l, hi, hol, hl => by
  have hk : k = Sp.cnt R := by omega
  subst hk
  rw [List.drop_zero] at hl
  simp only [Nat.pow_zero, Nat.div_one] at hl ⊢
  refine rPartsL _ _ _ _ _ _ _ _ ⟨fun h => by omega, fun _ => ?_⟩
  rw [List.drop_zero, ho, hl, limN_len, limN_len, trimL_limN hQ, trimL_limN (fits_le (fits_self R) (Nat.div_le_self _ _))]
  exact ⟨hn, hR, .refl _⟩
 | i + 1, k, l, hi, hol, hl => by
  have gx : (Sp.lim R).getD i default = ((R / 1000000000 ^ i % 1000000000 : Nat) : Int) := limN_getD R (show i < Sp.cnt R by omega)
  have e1 : (((i + 1 : Nat) : Int) - 1) = (i : Nat) := by omega
  have hsp := digit_split R i
  have hx : R / 1000000000 ^ i % 1000000000 < 1000000000 := Nat.mod_lt _ (by omega)
  obtain ⟨b1, b2, b3⟩ := byWord_step (R / 1000000000 ^ (i + 1)) (R / 1000000000 ^ i % 1000000000) s hx hs.1
  have hs' : R / 1000000000 ^ i % 1000000000 + 1000000000 * (R / 1000000000 ^ (i + 1)) = R / 1000000000 ^ i := by omega
  rw [hs'] at b1 b2
  have hr := Nat.mod_lt (R / 1000000000 ^ (i + 1)) hs.1
  rw [e1]
  refine rPartsL _ _ _ _ _ _ _ _ ⟨fun _ => ?_, fun h => by omega⟩
  rw [Int.toNat_natCast, gx, lim_len]
  have c1 : ((R / 1000000000 ^ (i + 1) % s : Nat) : Int) * 1000000000 + ((R / 1000000000 ^ i % 1000000000 : Nat) : Int) = ((R / 1000000000 ^ (i + 1) % s * 1000000000 + R / 1000000000 ^ i % 1000000000 : Nat) : Int) := by omega
  obtain ⟨q0, hq0⟩ : ∃ q0, q0 = (R / 1000000000 ^ (i + 1) % s * 1000000000 + R / 1000000000 ^ i % 1000000000) / s := ⟨_, rfl⟩
  have c2 : (((R / 1000000000 ^ (i + 1) % s * 1000000000 + R / 1000000000 ^ i % 1000000000 : Nat) : Int)).tdiv s = (q0 : Nat) := by rw [hq0]; exact (Int.ofNat_tdiv _ _).symm
  have c3 : (((R / 1000000000 ^ (i + 1) % s * 1000000000 + R / 1000000000 ^ i % 1000000000 : Nat) : Int)).tmod s = ((R / 1000000000 ^ i % s : Nat) : Int) := by rw [b2]; exact (Int.ofNat_tmod _ _).symm
  rw [<- hq0] at b1 b3
  rw [c1, c2, c3]
  have main : rPartsL_at R s ((R / 1000000000 ^ i % s : Nat) : Int) ((i : Int) - 1) n o (l.set i (q0 : Nat)) (PureQ (.tup [usA false (Sp.lim Q), usA false (Sp.lim (R / s))])) := by
   refine loopLR hs ho hQ hn hR i (k + 1) _ (by omega) (by simpa using hol) ?_
   rw [drop_set_self (by omega), hl, limN_succ, b1]
   generalize R / 1000000000 ^ (i + 1) / s = z
   have e2 : (1000000000 * z + q0) % 1000000000 = q0 := by omega
   have e3 : (1000000000 * z + q0) / 1000000000 = z := by omega
   rw [e2, e3]
  have hx' : ((R / 1000000000 ^ i % 1000000000 : Nat) : Int) < 1000000000 := by omega
  have hr' : R / 1000000000 ^ (i + 1) % s < 1000000000 := by omega
  generalize R / 1000000000 ^ (i + 1) % s = X at hr' main ⊢
  generalize R / 1000000000 ^ i % 1000000000 = Y at hx' main ⊢
  exact ⟨by omega, by omega, by omega, by omega, by omega, by omega, by omega, by omega, by omega, by omega, by omega, main⟩
theorem stepH {V U s j n : Nat} {t : Int} {o : List Int} {dq : AV} (hV : V ≠ 0) (hc : Sp.cnt V <= 400000) (hn : n = Sp.cnt U) (hU : n <= 500000) (ht : t = ((V / 1000000000 ^ (Sp.cnt V - 1) : Nat) : Int)) (hj : j < n) (hol : n <= o.length)
  (ih : rPartsH_at V U s t ((j : Int) - 1) n (o.set j ((U / 1000000000 ^ j % 1000000000 + 1000000000 * (U / 1000000000 ^ (j + 1) % V)) / V : Nat)) (U / 1000000000 ^ j % V) (PureQ dq)) :
  (U / 1000000000 ^ (j + 1) % V = 0 -> rPartsAE_at V U s t j n o (PureQ dq) /\ rPartsA0_at V U s t j n o (PureQ dq)) /\
  (∀ c l, Sp.lim (U / 1000000000 ^ (j + 1) % V) = c :: l -> rPartsA_at V U s t j n o c l (PureQ dq)) := by
 subst hn
 have gx : (Sp.lim U).getD j default = ((U / 1000000000 ^ j % 1000000000 : Nat) : Int) := limN_getD U hj
 have hx : U / 1000000000 ^ j % 1000000000 < 1000000000 := Nat.mod_lt _ (by omega)
 have hsp := digit_split U j
 have hs' : U / 1000000000 ^ j % 1000000000 + 1000000000 * (U / 1000000000 ^ (j + 1)) = U / 1000000000 ^ j := by omega
 obtain ⟨b1, b2, b3⟩ := byWord_step (U / 1000000000 ^ (j + 1)) (U / 1000000000 ^ j % 1000000000) V hx (Nat.pos_of_ne_zero hV)
 rw [hs'] at b2
 have hr := Nat.mod_lt (U / 1000000000 ^ (j + 1)) (Nat.pos_of_ne_zero hV)
 rw [b2] at ih
 generalize U / 1000000000 ^ (j + 1) % V = R at hr ih b3 ⊢
 generalize U / 1000000000 ^ j % 1000000000 = x at hx gx ih b3
 have e2 : R * 1000000000 + x = x + 1000000000 * R := by omega
 rw [e2] at ih b3
 have hlu := lim_len U
 have hR2 : x + 1000000000 * R < V * 1000000000 := by omega
 have tl := partsTail (G := fun p g => rPartsG_at V U s t j (Sp.cnt U) o (x + 1000000000 * R) p g (PureQ dq)) (R2 := x + 1000000000 * R) hV hc rfl ht hR2
  (fun g hg hlt => rloopG (i := (j : Int)) hV hc hR2 ⟨by omega, by omega, by omega, by omega⟩ (by rw [Int.toNat_natCast]; exact ih) (g - (x + 1000000000 * R) / V) g (by omega) hlt)
 have one : R = 0 -> Ev M1 (.pure 110 [.vec true 1 [.int .u32 ((Sp.lim U).getD (j : Int).toNat default)]]) (usA false (Sp.lim (x + 1000000000 * R))) [] := by
  intro h0
  have := rtrimN true 1 x ⟨by unfold Sp.short; omega, by unfold Sp.fits; omega⟩
  rw [h0, Int.toNat_natCast, gx]
  rw [limN_one hx] at this
  exact this
 refine ⟨fun h0 => ⟨?_, ?_⟩, fun c l hcl => ?_⟩
 ·exact rPartsAE _ _ _ _ _ _ _ (x + 1000000000 * R) _ ⟨fun _ => ⟨one h0, by omega, by omega, rPartsB _ _ _ _ _ _ _ _ _ tl⟩, fun h => absurd h (by omega)⟩
 ·exact rPartsA0 _ _ _ _ _ _ _ (x + 1000000000 * R) _ ⟨fun _ => ⟨one h0, by omega, by omega, rPartsB _ _ _ _ _ _ _ _ _ tl⟩, fun h => absurd h (by omega)⟩
 ·have hcR : Sp.cnt R <= Sp.cnt V := cnt_mono (Nat.le_of_lt hr)
  have ev := ev110_c false (x : Int) R ⟨by omega, by omega, by omega⟩
  rw [Int.toNat_natCast, hcl, <- gx] at ev
  have hll := lim_len R
  rw [hcl] at hll
  simp only [List.length_cons] at hll
  refine rPartsA _ _ _ _ _ _ _ _ _ (x + 1000000000 * R) _ ⟨fun _ => ⟨?_, by omega, by omega, by omega, rPartsB _ _ _ _ _ _ _ _ _ tl⟩, fun h => absurd h (by omega)⟩
  rw [Int.toNat_natCast]; exact ev
theorem take_drop_set {o : List Int} {j n : Nat} {d : Int} (hj : j < n) (hn : n <= o.length) : ((o.set j d).take n).drop j = d :: (o.take n).drop (j + 1) := by
 rw [List.take_set, drop_set_self (by simp; omega)]
theorem loopHR {V U s n : Nat} {t : Int} (hV : V ≠ 0) (hc : Sp.cnt V <= 400000) (hn : n = Sp.cnt U) (hU : n <= 500000) (ht : t = ((V / 1000000000 ^ (Sp.cnt V - 1) : Nat) : Int)) (hs : 0 < s /\ s < 1000000000) : ∀ (j : Nat) (o : List Int), j <= n -> n <= o.length ->
  (o.take n).drop j = Sp.limN (n - j) (U / 1000000000 ^ j / V) -> rPartsH_at V U s t ((j : Int) - 1) n o (U / 1000000000 ^ j % V) (PureQ (.tup [usA false (Sp.lim (U / V)), usA false (Sp.lim (U % V / s))]))
 | 0, o, hj, hol, ho => by
  simp only [Nat.pow_zero, Nat.div_one, List.drop_zero, Nat.sub_zero] at ho ⊢
  have hm := Nat.mod_lt U (Nat.pos_of_ne_zero hV)
  have hcR : Sp.cnt (U % V) <= Sp.cnt V := cnt_mono (Nat.le_of_lt hm)
  have hfQ : Sp.fits n (U / V) := by rw [hn]; exact fits_le (fits_self U) (Nat.div_le_self _ _)
  refine rPartsH _ _ _ _ _ _ _ _ _ ⟨fun h => by omega, fun _ => ?_⟩
  rw [lim_len, Int.toNat_natCast]
  refine ⟨by omega, by omega, by omega, by omega, ?_⟩
  have := loopLR (R := U % V) (s := s) (o := o) hs ho hfQ (by omega) (by omega) (Sp.cnt (U % V)) 0 (List.replicate (Sp.cnt (U % V)) 0) (by omega) (by simp) (by simp [Sp.limN])
  rw [fits_div (fits_self (U % V)) (Nat.le_refl _), Nat.zero_mod] at this
  exact this
 | j + 1, o, hj, hol, ho => by
  have hx : U / 1000000000 ^ j % 1000000000 < 1000000000 := Nat.mod_lt _ (by omega)
  have hsp := digit_split U j
  have hs' : U / 1000000000 ^ j % 1000000000 + 1000000000 * (U / 1000000000 ^ (j + 1)) = U / 1000000000 ^ j := by omega
  obtain ⟨b1, b2, b3⟩ := byWord_step (U / 1000000000 ^ (j + 1)) (U / 1000000000 ^ j % 1000000000) V hx (Nat.pos_of_ne_zero hV)
  rw [hs'] at b1
  have e2 : U / 1000000000 ^ (j + 1) % V * 1000000000 + U / 1000000000 ^ j % 1000000000 = U / 1000000000 ^ j % 1000000000 + 1000000000 * (U / 1000000000 ^ (j + 1) % V) := by omega
  rw [e2] at b1 b3
  have ih := loopHR hV hc hn hU ht hs j (o.set j ((U / 1000000000 ^ j % 1000000000 + 1000000000 * (U / 1000000000 ^ (j + 1) % V)) / V : Nat)) (by omega) (by simpa using hol) (by
   rw [take_drop_set (by omega) hol, ho, show n - j = (n - (j + 1)) + 1 by omega, limN_succ, b1]
   generalize U / 1000000000 ^ (j + 1) / V = z
   generalize (U / 1000000000 ^ j % 1000000000 + 1000000000 * (U / 1000000000 ^ (j + 1) % V)) / V = q0 at b3
   have e2 : (1000000000 * z + q0) % 1000000000 = q0 := by omega
   have e3 : (1000000000 * z + q0) / 1000000000 = z := by omega
   rw [e2, e3])
  obtain ⟨k1, k2⟩ := stepH (s := s) hV hc hn hU ht (show j < n by omega) hol ih
  rw [show (((j + 1 : Nat) : Int) - 1) = (j : Nat) by omega]
  by_cases h0 : U / 1000000000 ^ (j + 1) % V = 0
  ·have := (k1 h0).1
   unfold rPartsAE_at at this
   unfold rPartsH_at
   rw [h0, lim_zero]; exact this
  ·have hne : Sp.lim (U / 1000000000 ^ (j + 1) % V) ≠ [] := by
    intro e
    have := lim_len (U / 1000000000 ^ (j + 1) % V)
    rw [e] at this
    exact h0 (cnt_eq_zero.1 this.symm)
   obtain ⟨c, l, hcl⟩ := List.exists_cons_of_ne_nil hne
   have := k2 c l hcl
   unfold rPartsA_at at this
   rw [<- hcl] at this
   exact this
end Go.Av

namespace Go.Av
open Go.Proofs
theorem partsN (fa fb : Bool) (A D : Nat) (hD : D ≠ 0) (hA : Sp.cnt A <= 399000) (hd : Sp.cnt D <= 399000) : Ev M1 (.pure 108 [usA fa (Sp.lim A), usA fb (Sp.lim D)]) (.tup [usA false (Sp.lim (A / D)), usA false (Sp.lim (A % D))]) [] := by
 obtain ⟨m1, m2, m3⟩ := top_facts hD
 obtain ⟨s1, s2, s3, s4, s5⟩ := scl_facts1 m1
 refine call108 (rParts _ _ _ _ _ ⟨fun h => ?_, fun h => ?_⟩)
 ·rw [lim_len, lim_len] at h
  have f1 := fits_mono (fits_self A) (show Sp.cnt A <= 2 by omega)
  have hA2 : A < 1000000000000000000 := by unfold Sp.fits at f1; simpa using f1
  have f2 := fits_mono (fits_self D) (show Sp.cnt D <= 2 by omega)
  have hD2 : D < 1000000000000000000 := by unfold Sp.fits at f2; simpa using f2
  have c1 : (A : Int).tdiv D = ((A / D : Nat) : Int) := (Int.ofNat_tdiv _ _).symm
  have c2 : (A : Int).tmod D = ((A % D : Nat) : Int) := (Int.ofNat_tmod _ _).symm
  have d1 := Nat.div_le_self A D
  have d2 := Nat.mod_lt A (Nat.pos_of_ne_zero hD)
  rw [c1, c2, Int.toNat_natCast, Int.toNat_natCast]
  exact ⟨by omega, by omega, le8 (by omega), le8 (by omega), by omega, .refl _⟩
 ·have e0 : ((Sp.cnt D : Int) - 1).toNat = Sp.cnt D - 1 := by omega
  have gD : (Sp.lim D).getD (Sp.cnt D - 1) default = ((D / 1000000000 ^ (Sp.cnt D - 1) : Nat) : Int) := by
   have := limN_getD (n := Sp.cnt D) D (show Sp.cnt D - 1 < Sp.cnt D by omega)
   rw [Nat.mod_eq_of_lt s5] at this
   exact this
  have hs : Int.tdiv 1000000000 ((Sp.lim D).getD (Sp.cnt D - 1) default + 1) = (Sp.scl D : Int) := by
   rw [gD]
   unfold Sp.scl
   generalize D / 1000000000 ^ (Sp.cnt D - 1) = t
   have : ((t : Int) + 1) = ((t + 1 : Nat) : Int) := by omega
   rw [this]
   exact (Int.ofNat_tdiv 1000000000 (t + 1)).symm
  have hV : D * Sp.scl D ≠ 0 := Nat.mul_ne_zero hD (by omega)
  obtain ⟨v1, v2, v3⟩ := top_facts hV
  have hcV : Sp.cnt (D * Sp.scl D) <= Sp.cnt D := fits_cnt.1 s3
  have f1 : Sp.fits 1 (Sp.scl D) := by unfold Sp.fits; omega
  have hcU : Sp.cnt (A * Sp.scl D) <= Sp.cnt A + 1 := fits_cnt.1 (fits_prod (fits_self A) f1)
  have e1 : ((Sp.cnt (D * Sp.scl D) : Int) - 1).toNat = Sp.cnt (D * Sp.scl D) - 1 := by omega
  have gV : (Sp.lim (D * Sp.scl D)).getD (Sp.cnt (D * Sp.scl D) - 1) default = ((D * Sp.scl D / 1000000000 ^ (Sp.cnt (D * Sp.scl D) - 1) : Nat) : Int) := by
   have := limN_getD (n := Sp.cnt (D * Sp.scl D)) (D * Sp.scl D) (show Sp.cnt (D * Sp.scl D) - 1 < Sp.cnt (D * Sp.scl D) by omega)
   rw [Nat.mod_eq_of_lt v3] at this
   exact this
  have okD : Sp.okB (D : Int) := by unfold Sp.okB; rw [Int.natAbs_natCast]; omega
  have okA : Sp.okB (A : Int) := by unfold Sp.okB; rw [Int.natAbs_natCast]; omega
  have dg : Sp.dig (Sp.scl D : Int) := by unfold Sp.dig; omega
  obtain ⟨q1, q2⟩ := div_scale (A := A) (D := D) s1
  simp only [lim_len, e0, hs, Int.toNat_natCast, e1, gV, Nat.sub_zero]
  have go : rPartsA0_at (D * Sp.scl D) (A * Sp.scl D) (Sp.scl D : Int) ((D * Sp.scl D / 1000000000 ^ (Sp.cnt (D * Sp.scl D) - 1) : Nat) : Int) ((Sp.cnt (A * Sp.scl D) : Int) - 1) (Sp.cnt (A * Sp.scl D)) (List.replicate ((Sp.cnt A : Int) + 1).toNat 0) (PureQ (.tup [usA false (Sp.lim (A / D)), usA false (Sp.lim (A % D))])) := by
   have eL : ((Sp.cnt A : Int) + 1).toNat = Sp.cnt A + 1 := by omega
   rw [eL]
   by_cases hz : Sp.cnt (A * Sp.scl D) = 0
   ·have hU := cnt_eq_zero.1 hz
    have hA0 : A = 0 := by
     rcases Nat.mul_eq_zero.1 hU with h | h
     ·exact h
     ·omega
    subst hA0
    rw [hz]
    have l0 : Sp.lim 0 = [] := lim_zero
    have tr := rtrimN false 0 0 ⟨by unfold Sp.short; omega, fits_zero.2 rfl⟩
    rw [l0] at tr
    refine rPartsA0 _ _ _ _ _ _ _ 0 _ ⟨fun h => by omega, fun _ => rPartsL0 _ _ _ _ ⟨by simp [Sp.short], [], tr, ?_⟩⟩
    rw [Nat.zero_div, Nat.zero_mod, l0]
    exact .refl _
   ·obtain ⟨j, hj⟩ : ∃ j, Sp.cnt (A * Sp.scl D) = j + 1 := ⟨Sp.cnt (A * Sp.scl D) - 1, by omega⟩
    have hn : j + 1 = Sp.cnt (A * Sp.scl D) := hj.symm
    have hc1 : Sp.cnt (D * Sp.scl D) <= 400000 := by omega
    have hU5 : j + 1 <= 500000 := by omega
    have hj0 : j <= j + 1 := by omega
    have hj1 : j < j + 1 := by omega
    have hol : j + 1 <= (List.replicate (Sp.cnt A + 1) (0 : Int)).length := by simp; omega
    have hzero : A * Sp.scl D / 1000000000 ^ (j + 1) = 0 := fits_div (fits_self _) (by omega)
    have hx : A * Sp.scl D / 1000000000 ^ j % 1000000000 < 1000000000 := Nat.mod_lt _ (by omega)
    obtain ⟨b1, b2, b3⟩ := byWord_step (A * Sp.scl D / 1000000000 ^ (j + 1)) (A * Sp.scl D / 1000000000 ^ j % 1000000000) (D * Sp.scl D) hx (Nat.pos_of_ne_zero hV)
    have hsp := digit_split (A * Sp.scl D) j
    have hs' : A * Sp.scl D / 1000000000 ^ j % 1000000000 + 1000000000 * (A * Sp.scl D / 1000000000 ^ (j + 1)) = A * Sp.scl D / 1000000000 ^ j := by omega
    have ih := loopHR (V := D * Sp.scl D) (U := A * Sp.scl D) (s := Sp.scl D) hV hc1 hn hU5 rfl ⟨s1, s2⟩ j ((List.replicate (Sp.cnt A + 1) (0 : Int)).set j ((A * Sp.scl D / 1000000000 ^ j % 1000000000 + 1000000000 * (A * Sp.scl D / 1000000000 ^ (j + 1) % (D * Sp.scl D))) / (D * Sp.scl D) : Nat)) hj0 (by simpa using hol) (by
     rw [take_drop_set hj1 hol, show j + 1 - j = 0 + 1 by omega, limN_succ, List.drop_of_length_le (by simp; omega)]
     rw [hs'] at b1
     rw [hzero] at b1 b3 ⊢
     rw [Nat.zero_div, Nat.zero_mod] at b1
     rw [Nat.zero_mod] at b3 ⊢
     rw [b1]
     have e5 : 0 * 1000000000 + A * Sp.scl D / 1000000000 ^ j % 1000000000 = A * Sp.scl D / 1000000000 ^ j % 1000000000 + 1000000000 * 0 := by simp only [Nat.zero_mul, Nat.mul_zero, Nat.zero_add, Nat.add_zero]
     rw [e5] at b3 ⊢
     rw [Nat.mul_zero, Nat.zero_add, Nat.mod_eq_of_lt b3]; rfl)
    obtain ⟨k1, _⟩ := stepH (s := Sp.scl D) hV hc1 hn hU5 rfl hj1 hol ih
    have := (k1 (by rw [hzero, Nat.zero_mod])).2
    rw [q1, q2] at this
    rw [hj, show (((j + 1 : Nat) : Int) - 1) = (j : Nat) by omega]
    exact this
  have hscl : (Sp.scl D : Int) <= 4294967295 := by omega
  have hb1 : D / 1000000000 ^ (Sp.cnt D - 1) < 1000000000 := s5
  rw [gD]
  generalize D / 1000000000 ^ (Sp.cnt D - 1) = T at hb1 ⊢
  generalize D * Sp.scl D / 1000000000 ^ (Sp.cnt (D * Sp.scl D) - 1) = T2 at v3 go ⊢
  exact ⟨by omega, by omega, by omega, by omega, by omega, by omega, by omega, by omega, ⟨okD, dg⟩, by omega, by omega, by omega, by omega, by omega, by omega, by omega, by omega, ⟨okA, dg⟩, by omega, by omega, by rw [List.length_replicate]; omega, by omega, go⟩
theorem ev108 (fa fb : Bool) (A D : Nat) (h : Sp.cnt A <= 399000 /\ Sp.cnt D <= 399000 /\ D ≠ 0) : Ev M1 (.pure 108 [usA fa (Sp.lim A), usA fb (Sp.lim D)]) (.tup [usA false (Sp.lim (A / D)), usA false (Sp.lim (A % D))]) [] := partsN fa fb A D h.2.2 h.1 h.2.1
theorem ev108_a (fa fb : Bool) (v w : Int) (h : Sp.cnt v.natAbs <= 399000 /\ Sp.cnt w.natAbs <= 399000 /\ w ≠ 0) : Ev M1 (.pure 108 [usA fa (Sp.limI v), usA fb (Sp.limI w)]) (.tup [usA false (Sp.lim (v.natAbs / w.natAbs)), usA false (Sp.lim (v.natAbs % w.natAbs))]) [] := partsN fa fb _ _ (by have := h.2.2; omega) h.1 h.2.1
end Go.Av

namespace Go.Av
open Go.Proofs
set_option maxRecDepth 100000
def fi64 : Fi := ⟨54, [.cell 4 24, .cell 5 24, .tmp 6]⟩
def kp64 : List (Nat × List Nat) := [(0, [2, 3, 4, 5]), (1, [2, 3, 4, 5, 14]), (2, [4, 5, 6]), (3, [2, 3, 4, 5, 7, 8]), (4, [2, 3, 4, 5, 8, 9, 10]), (5, [3, 4, 5, 9, 10, 45]), (6, [4, 5, 9, 10]), (7, [4, 5, 6])]
def fi80 : Fi := ⟨54, [.cell 4 24]⟩
def kp80 : List (Nat × List Nat) := [(0, [2, 3, 4]), (1, [4, 5, 6]), (2, [4, 5, 6, 27]), (3, [4, 6, 8]), (4, [4, 5, 6]), (5, [4, 5, 6, 38]), (6, [4]), (7, [4, 9, 10]), (8, [4, 9, 10, 46]), (9, [4, 9, 10]), (10, [4])]
def rDivMod_at (fa fb : Bool) (a b : Int) (Q : AV -> Heap -> Prop) : Prop := Wp M1 (.run fi64 (atC (cd Tryz.f64) []) [(0, .agg [.bool (Sp.isNeg a), .vec fa 1 ((Sp.limI a).map (.int .u32))]), (1, .agg [.bool (Sp.isNeg b), .vec fb 1 ((Sp.limI b).map (.int .u32))])] []) Q
def rGCD_at (fa fb : Bool) (a b : Int) (Q : AV -> Heap -> Prop) : Prop := Wp M1 (.run fi80 (atC (cd Tryz.f80) []) [(0, .agg [.bool (Sp.isNeg a), .vec fa 1 ((Sp.limI a).map (.int .u32))]), (1, .agg [.bool (Sp.isNeg b), .vec fb 1 ((Sp.limI b).map (.int .u32))])] []) Q
def rGCDH_at (fx fy : Bool) (x y : Nat) (Q : AV -> Heap -> Prop) : Prop := Wp M1 (.run fi80 (atC (cd Tryz.f80) [1, 1, 0, 0, 0]) [(4, .ptr 0 0 0 0), (5, .vec fx 1 ((Sp.lim x).map (.int .u32))), (6, .vec fy 1 ((Sp.lim y).map (.int .u32)))] [⟨[.agg [.bool false, .vnil]], 2, 0, false, false⟩]) Q
def rGCDW_at (u v : Int) (Q : AV -> Heap -> Prop) : Prop := Wp M1 (.run fi80 (atC (cd Tryz.f80) [1, 1, 1, 1, 1, 0, 0, 0]) [(4, .ptr 0 0 0 0), (9, .int .u64 u), (10, .int .u64 v)] [⟨[.agg [.bool false, .vnil]], 2, 0, false, false⟩]) Q
theorem call64 {args : List AV} {d : AV} (h : wc M1 fi64 Tryz.f64 args d) : Ev M1 (.pure 64 args) d [] := pcl _ _ (by kernel_rfl) h
theorem call80 {args : List AV} {d : AV} (h : wc M1 fi80 Tryz.f80 args d) : Ev M1 (.pure 80 args) d [] := pcl _ _ (by kernel_rfl) h
noncomputable abbrev zNwE1 (a : Int) (b : Int) := Sp.sg (!Sp.isNeg a == Sp.isNeg b) (a.natAbs / b.natAbs)
noncomputable abbrev zNwE2 (a : Int) (b : Int) := tu [vf (us (Sp.lim (a.natAbs / b.natAbs))), vf (us (Sp.lim (a.natAbs % b.natAbs)))]
theorem rDivMod (fa fb : Bool) (a b : Int)  (dq : AV) (H :
  (((↑(Sp.limI b).length : Int) = 0) -> Weak (tu [ag [vb false, AV.vnil], ag [vb false, AV.vnil], vi 6]) dq) /\
  (¬((↑(Sp.limI b).length : Int) = 0) -> (Sp.cnt a.natAbs <= 399000 /\ Sp.cnt b.natAbs <= 399000 /\ b ≠ 0) /\
   (Sp.short (Sp.cnt (a.natAbs / b.natAbs))) /\
   (Sp.short (Sp.cnt (a.natAbs % b.natAbs))) /\
   ((((↑(Sp.lim (a.natAbs % b.natAbs)).length : Int) > 0) /\ (¬(Sp.isNeg a = Sp.isNeg b))) -> (Sp.inI 1) /\
    (Sp.okB (Sp.sg (!Sp.isNeg a == Sp.isNeg b) (a.natAbs / b.natAbs))) /\
    (Sp.okB (Sp.sg (Sp.isNeg a) (a.natAbs % b.natAbs)) /\ Sp.okB b) /\
    Weak (tu [bigA false (Sp.sg (!Sp.isNeg a == Sp.isNeg b) (a.natAbs / b.natAbs) - 1), bigA false (Sp.sg (Sp.isNeg a) (a.natAbs % b.natAbs) + b), vi 0]) dq) /\
   (¬(((↑(Sp.lim (a.natAbs % b.natAbs)).length : Int) > 0) /\ (¬(Sp.isNeg a = Sp.isNeg b))) -> Weak (tu [bigA false (Sp.sg (!Sp.isNeg a == Sp.isNeg b) (a.natAbs / b.natAbs)), bigA false (Sp.sg (Sp.isNeg a) (a.natAbs % b.natAbs)), vi 0]) dq))) :
 rDivMod_at fa fb a b (PureQ dq) := by
 unfold rDivMod_at
 have w1 : (us (Sp.limI b)).length = (Sp.limI b).length := List.length_map ..
 have i2 : ((↑(us (Sp.limI b)).length : Int) == 0) = true ↔ ((↑(Sp.limI b).length : Int) = 0) := (by (try rw [w1]); all_goals exact i_eq)
 rcases xm ((↑(Sp.limI b).length : Int) = 0) with d3 | d3
 ·have H := H.1 d3
  exact path_rq (G := given kp64 [] []) 1000 [true] (tu [ag [vb false, AV.vnil], ag [vb false, AV.vnil], vi 6]) (by kernel_rfl) (bc rfl (bc (beq_t (i2.2 d3)) (bc rfl (bc rfl b0)))) q0 c0 H
 ·have H := H.2 d3
  obtain ⟨k4, H⟩ := H
  obtain ⟨k5, H⟩ := H
  obtain ⟨k6, H⟩ := H
  refine path_wp (G := given kp64 [(3, 4, .call (zNwE2 a b) none), (4, 6, .call (bigA false (zNwE1 a b)) none), (4, 10, .call (bigA false (Sp.sg (Sp.isNeg a) (a.natAbs % b.natAbs))) none)] []) 10 [false] ⟨(atC (cd Tryz.f64) [1, 1, 1, 0]), [(2, AV.ptr 0 0 0 0), (3, AV.ptr 1 0 0 0), (4, AV.ptr 2 0 0 0), (5, AV.ptr 3 0 0 0), (7, vf (us (Sp.lim (a.natAbs / b.natAbs)))), (8, vf (us (Sp.lim (a.natAbs % b.natAbs))))], [⟨[bigA fa a], 2, 0, false, false⟩, ⟨[bigA fb b], 2, 0, false, false⟩, ⟨[ag [vb false, AV.vnil]], 2, 0, false, false⟩, ⟨[ag [vb false, AV.vnil]], 2, 0, false, false⟩], _, [], _⟩ (by kernel_rfl) (bc rfl (bc (beq_f (fun h => d3 (i2.1 h))) (bc rfl (bc rfl b0)))) q0 (ce (@ev108_a (fa) (fb) (a) (b) k4) c0) (wp_both (G := given kp64 [(3, 4, .call (zNwE2 a b) none), (4, 6, .call (bigA false (zNwE1 a b)) none), (4, 10, .call (bigA false (Sp.sg (Sp.isNeg a) (a.natAbs % b.natAbs))) none)] []) [0, 1, 2, 3, 5, 4] 11 (e1 := [(2, AV.ptr 0 0 0 0), (3, AV.ptr 1 0 0 0), (4, AV.ptr 2 0 0 0), (5, AV.ptr 3 0 0 0), (8, vf (us (Sp.lim (a.natAbs % b.natAbs)))), (9, AV.ptr 4 0 0 0), (10, AV.ptr 5 0 0 0)]) (L1 := [⟨[bigA fa a], 2, 0, false, false⟩, ⟨[bigA fb b], 2, 0, false, false⟩, ⟨[ag [vb false, AV.vnil]], 2, 0, false, false⟩, ⟨[ag [vb false, AV.vnil]], 2, 0, false, false⟩, ⟨[bigA false (zNwE1 a b)], 2, 0, false, false⟩, ⟨[bigA false (Sp.sg (Sp.isNeg a) (a.natAbs % b.natAbs))], 2, 0, false, false⟩]) (a := [true, true, true, true, true]) (q := []) (cs := [⟨true, false, 67, [vb !Sp.isNeg a == Sp.isNeg b, vf (us (Sp.lim (a.natAbs / b.natAbs)))], [], bigA false (zNwE1 a b), []⟩, ⟨true, false, 67, [vb (Sp.isNeg a), vf (us (Sp.lim (a.natAbs % b.natAbs)))], [], bigA false (Sp.sg (Sp.isNeg a) (a.natAbs % b.natAbs)), []⟩]) (by kernel_rfl) (by kernel_rfl) (allB_cons rfl (allB_cons rfl (allB_cons rfl (allB_cons rfl (allB_cons rfl allB_nil))))) allP_nil (allC_cons (fun _ => (@ev67_b (!Sp.isNeg a == Sp.isNeg b) (false) (a.natAbs / b.natAbs) k5)) (allC_cons (fun _ => (@ev67_b (Sp.isNeg a) (false) (a.natAbs % b.natAbs) k6)) allC_nil)) ?_)
  have w7 : (us (Sp.lim (a.natAbs % b.natAbs))).length = (Sp.lim (a.natAbs % b.natAbs)).length := List.length_map ..
  have i8 : (bif decide ((↑(us (Sp.lim (a.natAbs % b.natAbs))).length : Int) > 0) then !Sp.isNeg a == Sp.isNeg b else false) = true ↔ (((↑(Sp.lim (a.natAbs % b.natAbs)).length : Int) > 0) /\ (¬(Sp.isNeg a = Sp.isNeg b))) := (by (try rw [w7]); all_goals exact (i_band i_dec (i_not i_eq)))
  rcases xm (((↑(Sp.lim (a.natAbs % b.natAbs)).length : Int) > 0) /\ (¬(Sp.isNeg a = Sp.isNeg b))) with d9 | d9
  ·have H := H.1 d9
   obtain ⟨k10, H⟩ := H
   obtain ⟨k11, H⟩ := H
   obtain ⟨k12, H⟩ := H
   exact path_rq (G := given kp64 [(6, 1, .call (ag [vb false, vf (us (Sp.limI 1))]) none), (6, 2, .call (bigA false (Sp.sg (!Sp.isNeg a == Sp.isNeg b) (a.natAbs / b.natAbs) - 1)) none), (6, 5, .call (bigA false (Sp.sg (Sp.isNeg a) (a.natAbs % b.natAbs) + b)) none)] [(7, [5003, 4002, 7001, 6000])]) 1000 [true] (asm := [!(decide ((↑(us (Sp.lim (a.natAbs % b.natAbs))).length : Int) > 0) == true && true) || true, !(decide ((↑(us (Sp.lim (a.natAbs % b.natAbs))).length : Int) > 0) == true && true) || true, (bif decide ((↑(us (Sp.lim (a.natAbs % b.natAbs))).length : Int) > 0) then !Sp.isNeg a == Sp.isNeg b else false) == true, true, true, true, true, true, true, true, true, true]) (tu [bigA false (Sp.sg (!Sp.isNeg a == Sp.isNeg b) (a.natAbs / b.natAbs) - 1), bigA false (Sp.sg (Sp.isNeg a) (a.natAbs % b.natAbs) + b), vi 0]) (by kernel_rfl) (bc (Bool.or_true _) (bc (Bool.or_true _) (bc (beq_t (i8.2 d9)) (bc rfl (bc rfl (bc rfl (bc rfl (bc rfl (bc rfl (bc rfl (bc rfl (bc rfl b0)))))))))))) q0 (ce (@ev15 (1) k10) (ce (@ev109_a (false) (zNwE1 a b) k11) (ce (@ev63 (false) (fb) (Sp.sg (Sp.isNeg a) (a.natAbs % b.natAbs)) (b) k12) c0))) H
  ·have H := H.2 d9
   exact path_rq (G := given kp64 [] [(7, [5003, 4002, 7001, 6000])]) 1000 [false] (asm := [!(decide ((↑(us (Sp.lim (a.natAbs % b.natAbs))).length : Int) > 0) == true && true) || true, !(decide ((↑(us (Sp.lim (a.natAbs % b.natAbs))).length : Int) > 0) == true && true) || true, (bif decide ((↑(us (Sp.lim (a.natAbs % b.natAbs))).length : Int) > 0) then !Sp.isNeg a == Sp.isNeg b else false) == false, true, true, true, true]) (tu [bigA false (zNwE1 a b), bigA false (Sp.sg (Sp.isNeg a) (a.natAbs % b.natAbs)), vi 0]) (by kernel_rfl) (bc (Bool.or_true _) (bc (Bool.or_true _) (bc (beq_f (fun h => d9 (i8.1 h))) (bc rfl (bc rfl (bc rfl (bc rfl b0))))))) q0 c0 H
theorem rGCD (fa fb : Bool) (a b : Int)  (dq : AV) (H :
  Wp M1 (.run fi80 (atC (cd Tryz.f80) [1, 1, 0, 0, 0]) [(4, AV.ptr 0 0 0 0), (5, AV.vec fa 1 (us (Sp.limI a))), (6, AV.vec fb 1 (us (Sp.limI b)))] [{ elems := [ag [vb false, AV.vnil]], es := 2, ver := 0, frozen := false, clean := false }]) (PureQ dq)) :
 rGCD_at fa fb a b (PureQ dq) := by
 unfold rGCD_at
 exact path_wp (G := given kp80 [] []) 1000 [] ⟨(atC (cd Tryz.f80) [1, 1, 0, 0, 0]), [(4, AV.ptr 2 0 0 0), (5, AV.vec fa 1 (us (Sp.limI a))), (6, AV.vec fb 1 (us (Sp.limI b)))], [⟨[bigA fa a], 2, 0, false, false⟩, ⟨[bigA fb b], 2, 0, false, false⟩, ⟨[ag [vb false, AV.vnil]], 2, 0, false, false⟩], _, [], _⟩ (by kernel_rfl) (bc rfl (bc rfl b0)) q0 c0 (wp_narrow [2] (by kernel_rfl) H)
theorem rGCDH (fx fy : Bool) (x y : Nat)  (dq : AV) (H :
  ((((↑(Sp.lim y).length : Int) > 0) /\ (((↑(Sp.lim x).length : Int) > 2) \/ ((↑(Sp.lim y).length : Int) > 2))) -> (Sp.cnt x <= 399000 /\ Sp.cnt y <= 399000 /\ y ≠ 0) /\
   rGCDH_at (fy) (false) (y) (x % y) (PureQ dq)) /\
  (¬(((↑(Sp.lim y).length : Int) > 0) /\ (((↑(Sp.lim x).length : Int) > 2) \/ ((↑(Sp.lim y).length : Int) > 2))) -> (((↑(Sp.lim y).length : Int) = 0) -> (Sp.short (Sp.cnt x)) /\
    Weak (bigA false (Sp.sg false x)) dq) /\
   (¬((↑(Sp.lim y).length : Int) = 0) -> (Sp.cnt x <= 2) /\
    (Sp.cnt y <= 2) /\
    rGCDW_at ((↑x : Int)) ((↑y : Int)) (PureQ dq)))) :
 rGCDH_at fx fy x y (PureQ dq) := by
 unfold rGCDH_at
 have w1 : (us (Sp.lim y)).length = (Sp.lim y).length := List.length_map ..
 have w2 : (us (Sp.lim x)).length = (Sp.lim x).length := List.length_map ..
 have i3 : (bif decide ((↑(us (Sp.lim y)).length : Int) > 0) then bif decide ((↑(us (Sp.lim x)).length : Int) > 2) then true else decide ((↑(us (Sp.lim y)).length : Int) > 2) else false) = true ↔ (((↑(Sp.lim y).length : Int) > 0) /\ (((↑(Sp.lim x).length : Int) > 2) \/ ((↑(Sp.lim y).length : Int) > 2))) := (by (try rw [w1]); (try rw [w2]); all_goals exact (i_band i_dec (i_bor i_dec i_dec)))
 rcases xm (((↑(Sp.lim y).length : Int) > 0) /\ (((↑(Sp.lim x).length : Int) > 2) \/ ((↑(Sp.lim y).length : Int) > 2))) with d4 | d4
 ·have H := H.1 d4
  obtain ⟨k5, H⟩ := H
  exact path_wp (G := given kp80 [(3, 2, .call (tu [vf (us (Sp.lim (x / y))), vf (us (Sp.lim (x % y)))]) none)] []) 1000 [true] ⟨(atC (cd Tryz.f80) [1, 1, 0, 0, 0]), [(4, AV.ptr 0 0 0 0), (5, AV.vec fy 1 (us (Sp.lim y))), (6, vf (us (Sp.lim (x % y))))], [⟨[ag [vb false, AV.vnil]], 2, 0, false, false⟩], _, [], _⟩ (by kernel_rfl) (bc (beq_t (i3.2 d4)) b0) q0 (ce (@ev108 (fx) (fy) (x) (y) k5) c0) (H)
 ·have H := H.2 d4
  have i6 : ((↑(us (Sp.lim y)).length : Int) == 0) = true ↔ ((↑(Sp.lim y).length : Int) = 0) := (by (try rw [w1]); all_goals exact i_eq)
  rcases xm ((↑(Sp.lim y).length : Int) = 0) with d7 | d7
  ·have H := H.1 d7
   obtain ⟨k8, H⟩ := H
   exact path_rq (G := given kp80 [(6, 1, .call (bigA false (Sp.sg false x)) none)] []) 1000 [false, true] (bigA false (Sp.sg false x)) (by kernel_rfl) (bc (beq_f (fun h => d4 (i3.1 h))) (bc (beq_t (i6.2 d7)) (bc rfl b0))) q0 (ce (@ev67_b (false) (fx) (x) k8) c0) H
  ·have H := H.2 d7
   obtain ⟨k9, H⟩ := H
   obtain ⟨k10, H⟩ := H
   exact path_wp (G := given kp80 [(7, 1, .call (vw (↑x : Int)) none), (7, 3, .call (vw (↑y : Int)) none)] []) 1000 [false, false] ⟨(atC (cd Tryz.f80) [1, 1, 1, 1, 1, 0, 0, 0]), [(4, AV.ptr 0 0 0 0), (9, vw (↑x : Int)), (10, vw (↑y : Int))], [⟨[ag [vb false, AV.vnil]], 2, 0, false, false⟩], _, [], _⟩ (by kernel_rfl) (bc (beq_f (fun h => d4 (i3.1 h))) (bc (beq_f (fun h => d7 (i6.1 h))) b0)) q0 (ce (@ev113 (fx) (x) k9) (ce (@ev113 (fy) (y) k10) c0)) (H)
theorem rGCDW (u v : Int)  (dq : AV) (H :
  ((v > 0) -> (¬v = 0) /\
   rGCDW_at (v) (u.tmod v) (PureQ dq)) /\
  (¬(v > 0) -> (0 <= u /\ u <= 18446744073709551615) /\
   (Sp.short (Sp.cnt u.toNat)) /\
   Weak (bigA false (Sp.sg false u.toNat)) dq)) :
 rGCDW_at u v (PureQ dq) := by
 unfold rGCDW_at
 rcases xm (v > 0) with d2 | d2
 ·have H := H.1 d2
  obtain ⟨k4, H⟩ := H
  exact path_wp (G := given kp80 [] []) 1000 [true] ⟨(atC (cd Tryz.f80) [1, 1, 1, 1, 1, 0, 0, 0]), [(4, AV.ptr 0 0 0 0), (9, vw v), (10, vw (u.tmod v))], [⟨[ag [vb false, AV.vnil]], 2, 0, false, false⟩], _, [], _⟩ (by kernel_rfl) (bc (beq_t (i_dec.2 d2)) (bc (i_neq.2 k4) b0)) q0 c0 (H)
 ·have H := H.2 d2
  obtain ⟨k5, H⟩ := H
  obtain ⟨k6, H⟩ := H
  exact path_rq (G := given kp80 [(10, 1, .call (vf (us (Sp.lim u.toNat))) none), (10, 2, .call (bigA false (Sp.sg false u.toNat)) none)] []) 1000 [false] (bigA false (Sp.sg false u.toNat)) (by kernel_rfl) (bc (beq_f (fun h => d2 (i_dec.1 h))) (bc rfl b0)) q0 (ce (@ev68 (u) k5) (ce (@ev67_b (false) (false) (u.toNat) k6) c0)) H
end Go.Av

namespace Go.Av
open Go.Proofs
theorem ev64 (fa fb : Bool) (a b : Int) (h : Sp.cnt a.natAbs <= 399000 /\ Sp.cnt b.natAbs <= 399000 /\ b ≠ 0) : Ev M1 (.pure 64 [bigA fa a, bigA fb b]) (.tup [bigA false (Sp.flo a b), bigA false (Sp.flr a b), .int .i64 0]) [] := by
 obtain ⟨ha, hb, h0⟩ := h
 have hl := limI_len b
 have hd0 : b.natAbs ≠ 0 := by omega
 have hm := Nat.mod_lt a.natAbs (Nat.pos_of_ne_zero hd0)
 have heq := sg_div (a := a) h0
 have hc1 := cnt_mono (Nat.le_of_lt hm)
 have hc2 := cnt_mono (Nat.div_le_self a.natAbs b.natAbs)
 have okb : Sp.okB b := by unfold Sp.okB; omega
 have okr : Sp.okB (Sp.sg (Sp.isNeg a) (a.natAbs % b.natAbs)) := by unfold Sp.okB; rw [sg_natAbs]; omega
 have okq : Sp.okB (Sp.sg (!(Sp.isNeg a == Sp.isNeg b)) (a.natAbs / b.natAbs)) := by unfold Sp.okB; rw [sg_natAbs]; omega
 have hra : (Sp.sg (Sp.isNeg a) (a.natAbs % b.natAbs)).natAbs = a.natAbs % b.natAbs := sg_natAbs _ _
 have hrl := lim_len (a.natAbs % b.natAbs)
 have hrc := cnt_eq_zero (v := a.natAbs % b.natAbs)
 have hneg : (Sp.isNeg a = true -> Sp.sg (Sp.isNeg a) (a.natAbs % b.natAbs) <= 0) /\ (¬Sp.isNeg a = true -> 0 <= Sp.sg (Sp.isNeg a) (a.natAbs % b.natAbs)) := by
  unfold Sp.sg
  exact ⟨fun h => by rw [if_pos h]; omega, fun h => by rw [if_neg h]; omega⟩
 refine call64 (rDivMod _ _ _ _ _ ⟨fun h => ?_, fun _ => ⟨⟨ha, hb, h0⟩, by unfold Sp.short; omega, by unfold Sp.short; omega, fun k => ⟨by unfold Sp.inI; omega, okq, ⟨okr, okb⟩, ?_⟩, fun k => ?_⟩⟩)
 ·have := cnt_eq_zero (v := b.natAbs)
  omega
 ·obtain ⟨k1, k2⟩ := k
  have hne : a.natAbs % b.natAbs ≠ 0 := by omega
  generalize Sp.sg (Sp.isNeg a) (a.natAbs % b.natAbs) = r at *
  generalize Sp.sg (!(Sp.isNeg a == Sp.isNeg b)) (a.natAbs / b.natAbs) = q at *
  have hs : (r < 0 /\ 0 < b) \/ (0 < r /\ b < 0) := by
   by_cases ka : Sp.isNeg a = true
   ·have := hneg.1 ka
    have kb : ¬b < 0 := fun x => k2 (by rw [ka, isNeg_iff.2 x])
    exact .inl ⟨by omega, by omega⟩
   ·have := hneg.2 ka
    by_cases kb : b < 0
    ·exact .inr ⟨by omega, kb⟩
    ·exact absurd (by rw [Bool.eq_false_iff.2 ka, isNeg_false kb]) k2
  obtain ⟨e1, e2⟩ := flo_unique (a := a) (b := b) (q := q - 1) (r := r + b) (by grind) (by omega)
  rw [e1, e2]
  exact .refl _
 ·generalize hr : Sp.sg (Sp.isNeg a) (a.natAbs % b.natAbs) = r at *
  generalize Sp.sg (!(Sp.isNeg a == Sp.isNeg b)) (a.natAbs / b.natAbs) = q at *
  have hs : r = 0 \/ (r < 0 /\ b < 0) \/ (0 < r /\ 0 < b) := by
   by_cases hz : a.natAbs % b.natAbs = 0
   ·left; omega
   ·right
    have k : Sp.isNeg a = Sp.isNeg b := Classical.byContradiction fun k2 => k ⟨by omega, k2⟩
    by_cases ka : Sp.isNeg a = true
    ·have := hneg.1 ka
     exact .inl ⟨by omega, isNeg_iff.1 (k ▸ ka)⟩
    ·have := hneg.2 ka
     have : ¬b < 0 := fun x => ka (by rw [k]; exact isNeg_iff.2 x)
     exact .inr ⟨by omega, by omega⟩
  obtain ⟨e1, e2⟩ := flo_unique (a := a) (b := b) (q := q) (r := r) heq (by omega)
  rw [e1, e2]
  exact .refl _
theorem ev64_b (fa : Bool) (a : Int) (h : Sp.cnt a.natAbs <= 399000) : Ev M1 (.pure 64 [bigA fa a, .agg [.bool false, .vec false 1 ((Sp.limI 2).map (.int .u32))]]) (.tup [bigA false (Sp.flo a 2), bigA false (Sp.flr a 2), .int .i64 0]) [] :=
 ev64 fa false a 2 ⟨h, by have := cnt_small (n := (2 : Int).natAbs) (by decide); omega, by decide⟩
theorem gcd_step (x y : Nat) : Nat.gcd y (x % y) = Nat.gcd x y := by rw [Nat.gcd_comm x y, Nat.gcd_rec y x, Nat.gcd_comm]
theorem rgcdW (n : Nat) : ∀ u v : Nat, v <= n -> u <= 18446744073709551615 -> v <= 18446744073709551615 -> rGCDW_at u v (PureQ (bigA false (Nat.gcd u v : Nat))) := by
 have base : ∀ u : Nat, u <= 18446744073709551615 -> rGCDW_at u (0 : Nat) (PureQ (bigA false (Nat.gcd u 0 : Nat))) := by
  intro u hu
  refine rGCDW _ _ _ ⟨fun h => by omega, fun _ => ⟨by omega, by have := cnt_u64 (u := u) hu; rw [Int.toNat_natCast]; unfold Sp.short; omega, ?_⟩⟩
  rw [Int.toNat_natCast, sg_false, Nat.gcd_zero_right]; exact .refl _
 induction n with
 | zero =>
  intro u v hv hu hv2
  have : v = 0 := by omega
  subst this
  exact base u hu
 | succ n ih =>
  intro u v hv hu hv2
  by_cases h0 : v = 0
  ·subst h0; exact base u hu
  ·refine rGCDW _ _ _ ⟨fun h => ⟨by omega, ?_⟩, fun h => absurd h (by omega)⟩
   rw [<- Int.ofNat_tmod]
   have hlt := Nat.mod_lt u (show 0 < v by omega)
   have := ih v (u % v) (by omega) hv2 (by omega)
   rwa [gcd_step] at this
theorem rgcdH (n : Nat) : ∀ (fx fy : Bool) (x y : Nat), y <= n -> Sp.cnt x <= 399000 -> Sp.cnt y <= 399000 -> rGCDH_at fx fy x y (PureQ (bigA false (Nat.gcd x y : Nat))) := by
 have small : ∀ x : Nat, Sp.cnt x <= 2 -> x <= 18446744073709551615 := by
  intro x h
  have f := fits_mono (fits_self x) h
  have : x < 1000000000000000000 := by unfold Sp.fits at f; simpa using f
  omega
 induction n with
 | zero =>
  intro fx fy x y hy hx hcy
  have : y = 0 := by omega
  subst this
  refine rGCDH _ _ _ _ _ ⟨fun h => ?_, fun _ => ⟨fun _ => ⟨by unfold Sp.short; omega, ?_⟩, fun h => ?_⟩⟩
  ·have := h.1
   rw [lim_len, cnt_zero] at this; omega
  ·rw [sg_false, Nat.gcd_zero_right]; exact .refl _
  ·rw [lim_len, cnt_zero] at h; omega
 | succ n ih =>
  intro fx fy x y hy hx hcy
  have hc := cnt_eq_zero (v := y)
  refine rGCDH _ _ _ _ _ ⟨fun h => ?_, fun h => ⟨fun k => ⟨by unfold Sp.short; omega, ?_⟩, fun k => ?_⟩⟩
  ·rw [lim_len, lim_len] at h
   have h0 : y ≠ 0 := fun e => by have := hc.2 e; omega
   have hlt := Nat.mod_lt x (show 0 < y by omega)
   have := ih fy false y (x % y) (by omega) hcy (by have := cnt_mono (Nat.le_of_lt hlt); omega)
   rw [gcd_step] at this
   exact ⟨⟨hx, hcy, h0⟩, this⟩
  ·rw [lim_len] at k
   have : y = 0 := hc.1 (by omega)
   rw [this, sg_false, Nat.gcd_zero_right]; exact .refl _
  ·rw [lim_len, lim_len] at h
   rw [lim_len] at k
   exact ⟨by omega, by omega, rgcdW y x y (Nat.le_refl _) (small x (by omega)) (small y (by omega))⟩
theorem ev80 (fa fb : Bool) (a b : Int) (h : Sp.cnt a.natAbs <= 399000 /\ Sp.cnt b.natAbs <= 399000) : Ev M1 (.pure 80 [bigA fa a, bigA fb b]) (bigA false (Int.gcd a b : Nat)) [] :=
 call80 (rGCD _ _ _ _ _ (rgcdH b.natAbs fa fb a.natAbs b.natAbs (Nat.le_refl _) h.1 h.2))
end Go.Av

namespace Go.Av
open Go.Proofs
theorem cnt_pow (k : Nat) : Sp.cnt (1000000000 ^ k) = k + 1 := by
 have h1 := fits_cnt.1 (fits_pow (show k < k + 1 by omega))
 have h2 : ¬Sp.fits k (1000000000 ^ k) := fun h => Nat.lt_irrefl _ h
 have h3 : ¬Sp.cnt (1000000000 ^ k) <= k := fun h => h2 (fits_cnt.2 h)
 omega
abbrev unitA (k : Nat) : AV := .agg [.bool false, .vec false 1 ((List.replicate k (0 : Int) ++ [1]).map (.int .u32))]
theorem unit_big (k : Nat) : unitA k = bigA false ((1000000000 ^ k : Nat) : Int) := by
 show _ = AV.agg [.bool (Sp.isNeg ((1000000000 ^ k : Nat) : Int)), .vec false 1 ((Sp.limI ((1000000000 ^ k : Nat) : Int)).map (.int .u32))]
 rw [isNeg_nat, limI_natAbs, Int.natAbs_natCast, cnt_pow, limN_unit]
def Sp.okK (k : Nat) : Prop := k <= 390000
theorem okK_cnt {k : Nat} (h : Sp.okK k) : Sp.cnt (((1000000000 ^ k : Nat) : Int)).natAbs <= 399000 := by
 rw [Int.natAbs_natCast, cnt_pow]; unfold Sp.okK at h; omega
theorem okK_okB {k : Nat} (h : Sp.okK k) : Sp.okB ((1000000000 ^ k : Nat) : Int) := by
 have := okK_cnt h
 unfold Sp.okB; omega
def Sp.bk (k : Nat) : Nat := 1000000000 ^ k
theorem unit_bk (k : Nat) : unitA k = bigA false (Sp.bk k : Int) := unit_big k
theorem ev64_c (fa : Bool) (a : Int) (k : Nat) (h : Sp.cnt a.natAbs <= 399000 /\ Sp.okK k) : Ev M1 (.pure 64 [bigA fa a, unitA k]) (.tup [bigA false (Sp.flo a (Sp.bk k : Int)), bigA false (Sp.flr a (Sp.bk k : Int)), .int .i64 0]) [] := by
 rw [unit_bk]
 refine ev64 fa false a _ ⟨h.1, okK_cnt h.2, ?_⟩
 have : 0 < Sp.bk k := Nat.pow_pos (by omega)
 omega
theorem ev63_a (fb : Bool) (b : Int) (k : Nat) (h : Sp.okK k /\ Sp.okB b) : Ev M1 (.pure 63 [unitA k, bigA fb b]) (bigA false ((Sp.bk k : Int) + b)) [] := by
 rw [unit_bk]
 exact ev63 false fb _ b ⟨okK_okB h.1, h.2⟩
theorem ev81_a (fa : Bool) (a : Int) (k : Nat) (h : Sp.okB a /\ Sp.okK k) : Ev M1 (.pure 81 [bigA fa a, unitA k]) (.int .i64 (Sp.sgnI (a - (Sp.bk k : Int)))) [] := by
 rw [unit_bk]
 exact ev81 fa false a _ ⟨h.1, okK_okB h.2⟩
end Go.Av

namespace Go.Av
open Go.Proofs
set_option maxRecDepth 100000
def fi61 : Fi := ⟨52, [.cell 2 24, .tmp 3]⟩
def kp61 : List (Nat × List Nat) := [(0, [1, 2]), (1, [1, 2, 13]), (2, [2, 3]), (3, [1, 2, 18]), (4, [2, 3]), (5, [1, 2, 4]), (6, [1, 2, 4, 5]), (7, [1, 2, 4, 5, 6]), (8, [1, 2, 4, 5, 9]), (9, [1, 2, 4, 5, 9, 49]), (10, [2, 3]), (11, [1, 2, 4, 5])]
def rSqrt_at (fa : Bool) (a : Int) (Q : AV -> Heap -> Prop) : Prop := Wp M1 (.run fi61 (atC (cd Tryz.f61) []) [(0, .agg [.bool (Sp.isNeg a), .vec fa 1 ((Sp.limI a).map (.int .u32))])] []) Q
def rSqrtF_at (fa : Bool) (a : Int) (k : Nat) (Q : AV -> Heap -> Prop) : Prop := Wp M1 (.run fi61 (atC (cd Tryz.f61) [1, 1, 1, 1, 1, 0, 0]) [(1, .ptr 0 0 0 0), (2, .ptr 1 0 0 0), (4, .ptr 2 0 0 0), (5, .ptr 3 0 0 0)] [⟨[.agg [.bool (Sp.isNeg a), .vec fa 1 ((Sp.limI a).map (.int .u32))]], 2, 0, false, false⟩, ⟨[.agg [.bool false, .vnil]], 2, 0, false, false⟩, ⟨[.agg [.bool false, .row 4 1]], 2, 0, false, false⟩, ⟨[.agg [.bool false, .vec false 1 ((Sp.limI 2).map (.int .u32))]], 2, 0, false, false⟩, ⟨(List.replicate k (0 : Int) ++ [1]).map (.int .u32), 1, 1, false, true⟩]) Q
def rSqrtH_at (fa : Bool) (a x : Int) (Q : AV -> Heap -> Prop) : Prop := Wp M1 (.run fi61 (atC (cd Tryz.f61) [1, 1, 1, 1, 1, 0, 0]) [(1, .ptr 0 0 0 0), (2, .ptr 1 0 0 0), (4, .ptr 2 0 0 0), (5, .ptr 3 0 0 0)] [⟨[.agg [.bool (Sp.isNeg a), .vec fa 1 ((Sp.limI a).map (.int .u32))]], 2, 0, false, false⟩, ⟨[.agg [.bool false, .vnil]], 2, 0, false, false⟩, ⟨[.agg [.bool (Sp.isNeg x), .vec false 1 ((Sp.limI x).map (.int .u32))]], 2, 0, false, false⟩, ⟨[.agg [.bool false, .vec false 1 ((Sp.limI 2).map (.int .u32))]], 2, 0, false, false⟩]) Q
theorem call61 {args : List AV} {d : AV} (h : wc M1 fi61 Tryz.f61 args d) : Ev M1 (.pure 61 args) d [] := pcl _ _ (by kernel_rfl) h
theorem rSqrt (fa : Bool) (a : Int)  (dq : AV) (H :
  ((Sp.isNeg a = true) -> Weak (tu [ag [vb false, AV.vnil], vi 7]) dq) /\
  (¬(Sp.isNeg a = true) -> (((↑(Sp.limI a).length : Int) = 0) -> Weak (tu [ag [vb false, AV.vnil], vi 0]) dq) /\
   (¬((↑(Sp.limI a).length : Int) = 0) -> (-9223372036854775808 <= (↑(Sp.limI a).length : Int) + 1 /\ (↑(Sp.limI a).length : Int) + 1 <= 9223372036854775807) /\
    (-9223372036854775808 <= ((↑(Sp.limI a).length : Int) + 1).tdiv 2 /\ ((↑(Sp.limI a).length : Int) + 1).tdiv 2 <= 9223372036854775807) /\
    (0 <= ((↑(Sp.limI a).length : Int) + 1).tdiv 2) /\
    (((↑(Sp.limI a).length : Int) + 1).tdiv 2 * 4 <= 1099511627776) /\
    (((↑(Sp.limI a).length : Int) + 1).tdiv 2 <= 1099511627776) /\
    (((List.replicate (((↑(Sp.limI a).length : Int) + 1).tdiv 2).toNat (0 : Int)).length + 1) * 4 <= 1099511627776) /\
    (Sp.inI 2) /\
    rSqrtF_at (fa) (a) ((((↑(Sp.limI a).length : Int) + 1).tdiv 2).toNat) (PureQ dq)))) :
 rSqrt_at fa a (PureQ dq) := by
 unfold rSqrt_at
 rcases xm (Sp.isNeg a = true) with d2 | d2
 ·have H := H.1 d2
  exact path_rq (G := given kp61 [] []) 1000 [true] (asm := [0 == 0, (Sp.isNeg a) == true, true]) (tu [ag [vb false, AV.vnil], vi 7]) (by kernel_rfl) (bc (beq_self_eq_true _) (bc (beq_t ((i_var _).2 d2)) (bc rfl b0))) q0 c0 H
 ·have H := H.2 d2
  have w3 : (us (Sp.limI a)).length = (Sp.limI a).length := List.length_map ..
  have i4 : ((↑(us (Sp.limI a)).length : Int) == 0) = true ↔ ((↑(Sp.limI a).length : Int) = 0) := (by (try rw [w3]); all_goals exact i_eq)
  rcases xm ((↑(Sp.limI a).length : Int) = 0) with d5 | d5
  ·have H := H.1 d5
   exact path_rq (G := given kp61 [] []) 1000 [false, true] (asm := [0 == 0, (Sp.isNeg a) == false, true, ((↑(us (Sp.limI a)).length : Int) == 0) == true, true]) (tu [ag [vb false, AV.vnil], vi 0]) (by kernel_rfl) (bc (beq_self_eq_true _) (bc (beq_f (fun h => d2 ((i_var _).1 h))) (bc rfl (bc (beq_t (i4.2 d5)) (bc rfl b0))))) q0 c0 H
  ·have H := H.2 d5
   obtain ⟨k6, H⟩ := H
   have w7 : wi ((↑(Sp.limI a).length : Int) + 1) = (↑(Sp.limI a).length : Int) + 1 := wI64 k6
   obtain ⟨k8, H⟩ := H
   have w9 : wi (((↑(Sp.limI a).length : Int) + 1).tdiv 2) = ((↑(Sp.limI a).length : Int) + 1).tdiv 2 := wI64 k8
   have i10 : (decide (0 <= wi ((wi ((↑(us (Sp.limI a)).length : Int) + 1)).tdiv 2))) = true ↔ (0 <= ((↑(Sp.limI a).length : Int) + 1).tdiv 2) := (by (try rw [w3]); (try rw [w7]); (try rw [w9]); all_goals exact i_dec)
   obtain ⟨k11, H⟩ := H
   have i12 : (decide (wi ((wi ((↑(us (Sp.limI a)).length : Int) + 1)).tdiv 2) <= wi ((wi ((↑(us (Sp.limI a)).length : Int) + 1)).tdiv 2))) = true ↔ (((↑(Sp.limI a).length : Int) + 1).tdiv 2 <= ((↑(Sp.limI a).length : Int) + 1).tdiv 2) := (by (try rw [w3]); (try rw [w7]); (try rw [w9]); all_goals exact i_dec)
   have i13 : (decide (wi ((wi ((↑(us (Sp.limI a)).length : Int) + 1)).tdiv 2) * 4 <= 1099511627776)) = true ↔ (((↑(Sp.limI a).length : Int) + 1).tdiv 2 * 4 <= 1099511627776) := (by (try rw [w3]); (try rw [w7]); (try rw [w9]); all_goals exact i_dec)
   obtain ⟨k14, H⟩ := H
   have i15 : (decide (wi ((wi ((↑(us (Sp.limI a)).length : Int) + 1)).tdiv 2) <= 1099511627776)) = true ↔ (((↑(Sp.limI a).length : Int) + 1).tdiv 2 <= 1099511627776) := (by (try rw [w3]); (try rw [w7]); (try rw [w9]); all_goals exact i_dec)
   obtain ⟨k16, H⟩ := H
   have w17 : List.replicate (((↑(Sp.limI a).length : Int) + 1).tdiv 2).toNat (vu 0) = us (List.replicate (((↑(Sp.limI a).length : Int) + 1).tdiv 2).toNat (0 : Int)) := (lm_rep rfl)
   have w18 : (us (List.replicate (((↑(Sp.limI a).length : Int) + 1).tdiv 2).toNat (0 : Int))).length = (List.replicate (((↑(Sp.limI a).length : Int) + 1).tdiv 2).toNat (0 : Int)).length := List.length_map ..
   have i19 : (decide (((List.replicate (wi ((wi ((↑(us (Sp.limI a)).length : Int) + 1)).tdiv 2)).toNat (vu 0)).length + 1) * 4 <= 1099511627776)) = true ↔ (((List.replicate (((↑(Sp.limI a).length : Int) + 1).tdiv 2).toNat (0 : Int)).length + 1) * 4 <= 1099511627776) := (by (try rw [w3]); (try rw [w7]); (try rw [w9]); (try rw [w17]); (try rw [w18]); all_goals exact i_dec)
   obtain ⟨k20, H⟩ := H
   have w21 : us (List.replicate (((↑(Sp.limI a).length : Int) + 1).tdiv 2).toNat (0 : Int)) ++ [vu 1] = us (List.replicate (((↑(Sp.limI a).length : Int) + 1).tdiv 2).toNat (0 : Int) ++ [1]) := (lm_app rfl rfl)
   obtain ⟨k22, H⟩ := H
   exact path_wp (G := given kp61 [(6, 0, .call (ag [vb false, vf (us (Sp.limI 2))]) none)] []) 1000 [false, false] ⟨(atC (cd Tryz.f61) [1, 1, 1, 1, 1, 0, 0]), [(1, AV.ptr 0 0 0 0), (2, AV.ptr 1 0 0 0), (4, AV.ptr 3 0 0 0), (5, AV.ptr 4 0 0 0)], [⟨[bigA fa a], 2, 0, false, false⟩, ⟨[ag [vb false, AV.vnil]], 2, 0, false, false⟩, ⟨List.replicate (wi ((wi ((↑(us (Sp.limI a)).length : Int) + 1)).tdiv 2)).toNat (vu 0) ++ [vu 1], 1, 1, false, true⟩, ⟨[ag [vb false, AV.row 2 1]], 2, 0, false, false⟩, ⟨[ag [vb false, vf (us (Sp.limI 2))]], 2, 0, false, false⟩], [0 == 0, (Sp.isNeg a) == false, true, ((↑(us (Sp.limI a)).length : Int) == 0) == false, true, true, decide (0 <= wi ((wi ((↑(us (Sp.limI a)).length : Int) + 1)).tdiv 2)), decide (wi ((wi ((↑(us (Sp.limI a)).length : Int) + 1)).tdiv 2) <= wi ((wi ((↑(us (Sp.limI a)).length : Int) + 1)).tdiv 2)), decide (wi ((wi ((↑(us (Sp.limI a)).length : Int) + 1)).tdiv 2) * 4 <= 1099511627776), decide (wi ((wi ((↑(us (Sp.limI a)).length : Int) + 1)).tdiv 2) <= 1099511627776), true, decide (((List.replicate (wi ((wi ((↑(us (Sp.limI a)).length : Int) + 1)).tdiv 2)).toNat (vu 0)).length + 1) * 4 <= 1099511627776), true, true], [], _⟩ (by kernel_rfl) (bc (beq_self_eq_true _) (bc (beq_f (fun h => d2 ((i_var _).1 h))) (bc rfl (bc (beq_f (fun h => d5 (i4.1 h))) (bc rfl (bc rfl (bc (i10.2 k11) (bc (i12.2 (by omega)) (bc (i13.2 k14) (bc (i15.2 k16) (bc rfl (bc (i19.2 k20) (bc rfl (bc rfl b0)))))))))))))) q0 (ce (@ev15 (2) k22) c0) (by (try rw [w3]); (try rw [w7]); (try rw [w9]); (try rw [w17]); (try rw [w21]); all_goals exact wp_narrow [0, 1, 3, 4, 2] (by kernel_rfl) H)
noncomputable abbrev zNwF1 (k : Nat) (a : Int) := (↑(Sp.bk k) : Int) + Sp.flo a (↑(Sp.bk k) : Int)
noncomputable abbrev zNwF2 := ag [vb false, vf (us (Sp.limI 2))]
noncomputable abbrev zNwF3 (k : Nat) := ag [vb false, vf (us (List.replicate k (0 : Int) ++ [1]))]
theorem rSqrtF (fa : Bool) (a : Int) (k : Nat)  (dq : AV) (H :
  (Sp.cnt a.natAbs <= 399000 /\ Sp.okK k) /\
  (Sp.okK k /\ Sp.okB (Sp.flo a (↑(Sp.bk k) : Int))) /\
  (Sp.cnt ((↑(Sp.bk k) : Int) + Sp.flo a (↑(Sp.bk k) : Int)).natAbs <= 399000) /\
  (Sp.okB (Sp.flo ((↑(Sp.bk k) : Int) + Sp.flo a (↑(Sp.bk k) : Int)) 2) /\ Sp.okK k) /\
  ((Sp.sgnI (Sp.flo ((↑(Sp.bk k) : Int) + Sp.flo a (↑(Sp.bk k) : Int)) 2 - (↑(Sp.bk k) : Int)) >= 0) -> Weak (tu [ag [vb false, vf (us (List.replicate k (0 : Int) ++ [1]))], vi 0]) dq) /\
  (¬(Sp.sgnI (Sp.flo ((↑(Sp.bk k) : Int) + Sp.flo a (↑(Sp.bk k) : Int)) 2 - (↑(Sp.bk k) : Int)) >= 0) -> rSqrtH_at (fa) (a) (Sp.flo ((↑(Sp.bk k) : Int) + Sp.flo a (↑(Sp.bk k) : Int)) 2) (PureQ dq))) :
 rSqrtF_at fa a k (PureQ dq) := by
 unfold rSqrtF_at
 obtain ⟨k1, H⟩ := H
 obtain ⟨k2, H⟩ := H
 obtain ⟨k3, H⟩ := H
 refine path_wp (G := given kp61 [(7, 2, .call (tu [bigA false (Sp.flo a (↑(Sp.bk k) : Int)), bigA false (Sp.flr a (↑(Sp.bk k) : Int)), vi 0]) none), (8, 2, .call (bigA false (zNwF1 k a)) none), (8, 4, .call (tu [bigA false (Sp.flo (zNwF1 k a) 2), bigA false (Sp.flr (zNwF1 k a) 2), vi 0]) none)] []) 4 [] ⟨(atC (cd Tryz.f61) [1, 1, 1, 1, 1, 0, 0, 0, 1, 0]), [(1, AV.ptr 0 0 0 0), (2, AV.ptr 1 0 0 0), (4, AV.ptr 2 0 0 0), (5, AV.ptr 3 0 0 0), (6, AV.ptr 5 0 0 0)], [⟨[bigA fa a], 2, 0, false, false⟩, ⟨[ag [vb false, AV.vnil]], 2, 0, false, false⟩, ⟨[ag [vb false, AV.row 4 1]], 2, 0, false, false⟩, ⟨[zNwF2], 2, 0, false, false⟩, ⟨us (List.replicate k (0 : Int) ++ [1]), 1, 1, true, true⟩, ⟨[bigA false (Sp.flo a (↑(Sp.bk k) : Int))], 2, 0, false, false⟩, ⟨[bigA false (Sp.flr a (↑(Sp.bk k) : Int))], 2, 0, false, false⟩], _, [], _⟩ (by kernel_rfl) (bc rfl (bc rfl (bc rfl (bc rfl (bc rfl b0))))) q0 (ce (@ev64_c (fa) (a) (k) k1) c0) (wp_both (G := given kp61 [(7, 2, .call (tu [bigA false (Sp.flo a (↑(Sp.bk k) : Int)), bigA false (Sp.flr a (↑(Sp.bk k) : Int)), vi 0]) none), (8, 2, .call (bigA false (zNwF1 k a)) none), (8, 4, .call (tu [bigA false (Sp.flo (zNwF1 k a) 2), bigA false (Sp.flr (zNwF1 k a) 2), vi 0]) none)] []) [0, 1, 2, 3, 4, 5, 6, 8, 7] 9 (e1 := [(1, AV.ptr 0 0 0 0), (2, AV.ptr 1 0 0 0), (4, AV.ptr 2 0 0 0), (5, AV.ptr 3 0 0 0), (9, AV.ptr 7 0 0 0)]) (L1 := [⟨[bigA fa a], 2, 0, false, false⟩, ⟨[ag [vb false, AV.vnil]], 2, 0, false, false⟩, ⟨[ag [vb false, AV.row 4 1]], 2, 0, false, false⟩, ⟨[zNwF2], 2, 0, false, false⟩, ⟨us (List.replicate k (0 : Int) ++ [1]), 1, 1, true, true⟩, ⟨[bigA false (Sp.flo a (↑(Sp.bk k) : Int))], 2, 0, false, false⟩, ⟨[bigA false (Sp.flr a (↑(Sp.bk k) : Int))], 2, 0, false, false⟩, ⟨[bigA false (Sp.flo (zNwF1 k a) 2)], 2, 0, false, false⟩, ⟨[bigA false (Sp.flr (zNwF1 k a) 2)], 2, 0, false, false⟩]) (a := [true, true, true, true, true, true]) (q := []) (cs := [⟨true, false, 63, [(zNwF3 k), bigA false (Sp.flo a (↑(Sp.bk k) : Int))], [], bigA false (zNwF1 k a), []⟩, ⟨true, false, 64, [bigA false (zNwF1 k a), zNwF2], [], tu [bigA false (Sp.flo (zNwF1 k a) 2), bigA false (Sp.flr (zNwF1 k a) 2), vi 0], []⟩]) (by kernel_rfl) (by kernel_rfl) (allB_cons rfl (allB_cons rfl (allB_cons rfl (allB_cons rfl (allB_cons rfl (allB_cons rfl allB_nil)))))) allP_nil (allC_cons (fun _ => (@ev63_a (false) (Sp.flo a (↑(Sp.bk k) : Int)) (k) k2)) (allC_cons (fun _ => (@ev64_b (false) (zNwF1 k a) k3)) allC_nil)) ?_)
 obtain ⟨k4, H⟩ := H
 refine path_wp (G := given kp61 [(9, 2, .call (vi (Sp.sgnI (Sp.flo (zNwF1 k a) 2 - (↑(Sp.bk k) : Int)))) none)] []) 3 [] ⟨(atC (cd Tryz.f61) [1, 1, 1, 1, 1, 0, 0, 0, 1, 1, 0, 1]), [(1, AV.ptr 0 0 0 0), (2, AV.ptr 1 0 0 0), (4, AV.ptr 2 0 0 0), (5, AV.ptr 3 0 0 0), (9, AV.ptr 7 0 0 0), (49, vb (decide (Sp.sgnI (Sp.flo (zNwF1 k a) 2 - (↑(Sp.bk k) : Int)) >= 0)))], [⟨[bigA fa a], 2, 0, false, false⟩, ⟨[ag [vb false, AV.vnil]], 2, 0, false, false⟩, ⟨[ag [vb false, AV.row 4 1]], 2, 0, false, false⟩, ⟨[zNwF2], 2, 0, false, false⟩, ⟨us (List.replicate k (0 : Int) ++ [1]), 1, 1, true, true⟩, ⟨[bigA false (Sp.flo a (↑(Sp.bk k) : Int))], 2, 0, false, false⟩, ⟨[bigA false (Sp.flr a (↑(Sp.bk k) : Int))], 2, 0, false, false⟩, ⟨[bigA false (Sp.flo (zNwF1 k a) 2)], 2, 0, false, false⟩, ⟨[bigA false (Sp.flr (zNwF1 k a) 2)], 2, 0, false, false⟩], _, [], _⟩ (by kernel_rfl) (bc rfl (bc rfl (bc rfl b0))) q0 (ce (@ev81_a (false) (Sp.flo (zNwF1 k a) 2) (k) k4) c0) ?_
 rcases xm (Sp.sgnI (Sp.flo (zNwF1 k a) 2 - (↑(Sp.bk k) : Int)) >= 0) with d6 | d6
 ·have H := H.1 d6
  exact path_ret (G := given kp61 [] []) 1000 [true] (k := ((atC (cd Tryz.f61) [1, 1, 1, 1, 1, 0, 0, 0, 1, 1, 0, 1, 0, 1])).tail) (env' := [(2, AV.ptr 1 0 0 0), (3, vi 0)]) (L' := [⟨[bigA fa a], 2, 0, false, false⟩, ⟨[ag [vb false, AV.row 4 1]], 2, 0, false, false⟩, ⟨[ag [vb false, AV.row 4 1]], 2, 0, false, false⟩, ⟨[zNwF2], 2, 0, false, false⟩, ⟨us (List.replicate k (0 : Int) ++ [1]), 1, 1, true, true⟩, ⟨[bigA false (Sp.flo a (↑(Sp.bk k) : Int))], 2, 0, false, false⟩, ⟨[bigA false (Sp.flr a (↑(Sp.bk k) : Int))], 2, 0, false, false⟩, ⟨[bigA false (Sp.flo (zNwF1 k a) 2)], 2, 0, false, false⟩, ⟨[bigA false (Sp.flr (zNwF1 k a) 2)], 2, 0, false, false⟩]) (asm := [(decide (Sp.sgnI (Sp.flo (zNwF1 k a) 2 - (↑(Sp.bk k) : Int)) >= 0)) == true, true, true]) (eqs := []) (calls := []) (tu [ag [vb false, AV.row 4 1], vi 0]) (by kernel_rfl) (by kernel_rfl) (allB_cons (beq_t (i_dec.2 d6)) (allB_cons rfl (allB_cons rfl allB_nil))) allP_nil allC_nil (pq_weak (d := (tu [(zNwF3 k), vi 0])) (bs := [1 == 1]) (by kernel_rfl) (by kernel_rfl) (allB_cons (beq_self_eq_true _) allB_nil) (by kernel_rfl) H)
 ·have H := H.2 d6
  exact path_wp (G := given kp61 [] []) 1000 [false] ⟨(atC (cd Tryz.f61) [1, 1, 1, 1, 1, 0, 0]), [(1, AV.ptr 0 0 0 0), (2, AV.ptr 1 0 0 0), (4, AV.ptr 2 0 0 0), (5, AV.ptr 3 0 0 0)], [⟨[bigA fa a], 2, 0, false, false⟩, ⟨[ag [vb false, AV.vnil]], 2, 0, false, false⟩, ⟨[bigA false (Sp.flo (zNwF1 k a) 2)], 2, 0, false, false⟩, ⟨[zNwF2], 2, 0, false, false⟩, ⟨us (List.replicate k (0 : Int) ++ [1]), 1, 1, true, true⟩, ⟨[bigA false (Sp.flo a (↑(Sp.bk k) : Int))], 2, 0, false, false⟩, ⟨[bigA false (Sp.flr a (↑(Sp.bk k) : Int))], 2, 0, false, false⟩, ⟨[bigA false (Sp.flo (zNwF1 k a) 2)], 2, 0, false, false⟩, ⟨[bigA false (Sp.flr (zNwF1 k a) 2)], 2, 0, false, false⟩], _, [], _⟩ (by kernel_rfl) (bc (beq_f (fun h => d6 (i_dec.1 h))) (bc rfl (bc rfl b0))) q0 c0 (wp_narrow [0, 1, 2, 3] (by kernel_rfl) H)
noncomputable abbrev zNwF4 := ag [vb false, vf (us (Sp.limI 2))]
theorem rSqrtH (fa : Bool) (a x : Int)  (dq : AV) (H :
  (Sp.cnt a.natAbs <= 399000 /\ Sp.cnt x.natAbs <= 399000 /\ x ≠ 0) /\
  (Sp.okB x /\ Sp.okB (Sp.flo a x)) /\
  (Sp.cnt (x + Sp.flo a x).natAbs <= 399000) /\
  (Sp.okB (Sp.flo (x + Sp.flo a x) 2) /\ Sp.okB x) /\
  ((Sp.sgnI (Sp.flo (x + Sp.flo a x) 2 - x) >= 0) -> Weak (tu [bigA false x, vi 0]) dq) /\
  (¬(Sp.sgnI (Sp.flo (x + Sp.flo a x) 2 - x) >= 0) -> rSqrtH_at (fa) (a) (Sp.flo (x + Sp.flo a x) 2) (PureQ dq))) :
 rSqrtH_at fa a x (PureQ dq) := by
 unfold rSqrtH_at
 obtain ⟨k1, H⟩ := H
 obtain ⟨k2, H⟩ := H
 obtain ⟨k3, H⟩ := H
 refine path_wp (G := given kp61 [(7, 2, .call (tu [bigA false (Sp.flo a x), bigA false (Sp.flr a x), vi 0]) none), (8, 2, .call (bigA false (x + Sp.flo a x)) none), (8, 4, .call (tu [bigA false (Sp.flo (x + Sp.flo a x) 2), bigA false (Sp.flr (x + Sp.flo a x) 2), vi 0]) none)] []) 4 [] ⟨(atC (cd Tryz.f61) [1, 1, 1, 1, 1, 0, 0, 0, 1, 0]), [(1, AV.ptr 0 0 0 0), (2, AV.ptr 1 0 0 0), (4, AV.ptr 2 0 0 0), (5, AV.ptr 3 0 0 0), (6, AV.ptr 4 0 0 0)], [⟨[bigA fa a], 2, 0, false, false⟩, ⟨[ag [vb false, AV.vnil]], 2, 0, false, false⟩, ⟨[bigA false x], 2, 0, false, false⟩, ⟨[zNwF4], 2, 0, false, false⟩, ⟨[bigA false (Sp.flo a x)], 2, 0, false, false⟩, ⟨[bigA false (Sp.flr a x)], 2, 0, false, false⟩], _, [], _⟩ (by kernel_rfl) (bc rfl (bc rfl (bc rfl (bc rfl b0)))) q0 (ce (@ev64 (fa) (false) (a) (x) k1) c0) (wp_both (G := given kp61 [(7, 2, .call (tu [bigA false (Sp.flo a x), bigA false (Sp.flr a x), vi 0]) none), (8, 2, .call (bigA false (x + Sp.flo a x)) none), (8, 4, .call (tu [bigA false (Sp.flo (x + Sp.flo a x) 2), bigA false (Sp.flr (x + Sp.flo a x) 2), vi 0]) none)] []) [0, 1, 2, 3, 4, 5, 7, 6] 9 (e1 := [(1, AV.ptr 0 0 0 0), (2, AV.ptr 1 0 0 0), (4, AV.ptr 2 0 0 0), (5, AV.ptr 3 0 0 0), (9, AV.ptr 6 0 0 0)]) (L1 := [⟨[bigA fa a], 2, 0, false, false⟩, ⟨[ag [vb false, AV.vnil]], 2, 0, false, false⟩, ⟨[bigA false x], 2, 0, false, false⟩, ⟨[zNwF4], 2, 0, false, false⟩, ⟨[bigA false (Sp.flo a x)], 2, 0, false, false⟩, ⟨[bigA false (Sp.flr a x)], 2, 0, false, false⟩, ⟨[bigA false (Sp.flo (x + Sp.flo a x) 2)], 2, 0, false, false⟩, ⟨[bigA false (Sp.flr (x + Sp.flo a x) 2)], 2, 0, false, false⟩]) (a := [true, true, true, true, true]) (q := []) (cs := [⟨true, false, 63, [bigA false x, bigA false (Sp.flo a x)], [], bigA false (x + Sp.flo a x), []⟩, ⟨true, false, 64, [bigA false (x + Sp.flo a x), zNwF4], [], tu [bigA false (Sp.flo (x + Sp.flo a x) 2), bigA false (Sp.flr (x + Sp.flo a x) 2), vi 0], []⟩]) (by kernel_rfl) (by kernel_rfl) (allB_cons rfl (allB_cons rfl (allB_cons rfl (allB_cons rfl (allB_cons rfl allB_nil))))) allP_nil (allC_cons (fun _ => (@ev63 (false) (false) (x) (Sp.flo a x) k2)) (allC_cons (fun _ => (@ev64_b (false) (x + Sp.flo a x) k3)) allC_nil)) ?_)
 obtain ⟨k4, H⟩ := H
 refine path_wp (G := given kp61 [(9, 2, .call (vi (Sp.sgnI (Sp.flo (x + Sp.flo a x) 2 - x))) none)] []) 3 [] ⟨(atC (cd Tryz.f61) [1, 1, 1, 1, 1, 0, 0, 0, 1, 1, 0, 1]), [(1, AV.ptr 0 0 0 0), (2, AV.ptr 1 0 0 0), (4, AV.ptr 2 0 0 0), (5, AV.ptr 3 0 0 0), (9, AV.ptr 6 0 0 0), (49, vb (decide (Sp.sgnI (Sp.flo (x + Sp.flo a x) 2 - x) >= 0)))], [⟨[bigA fa a], 2, 0, false, false⟩, ⟨[ag [vb false, AV.vnil]], 2, 0, false, false⟩, ⟨[bigA false x], 2, 0, false, false⟩, ⟨[zNwF4], 2, 0, false, false⟩, ⟨[bigA false (Sp.flo a x)], 2, 0, false, false⟩, ⟨[bigA false (Sp.flr a x)], 2, 0, false, false⟩, ⟨[bigA false (Sp.flo (x + Sp.flo a x) 2)], 2, 0, false, false⟩, ⟨[bigA false (Sp.flr (x + Sp.flo a x) 2)], 2, 0, false, false⟩], _, [], _⟩ (by kernel_rfl) (bc rfl (bc rfl b0)) q0 (ce (@ev81 (false) (false) (Sp.flo (x + Sp.flo a x) 2) (x) k4) c0) ?_
 rcases xm (Sp.sgnI (Sp.flo (x + Sp.flo a x) 2 - x) >= 0) with d6 | d6
 ·have H := H.1 d6
  exact path_rq (G := given kp61 [] []) 1000 [true] (tu [bigA false x, vi 0]) (by kernel_rfl) (bc (beq_t (i_dec.2 d6)) (bc rfl (bc rfl b0))) q0 c0 H
 ·have H := H.2 d6
  exact path_wp (G := given kp61 [] []) 1000 [false] ⟨(atC (cd Tryz.f61) [1, 1, 1, 1, 1, 0, 0]), [(1, AV.ptr 0 0 0 0), (2, AV.ptr 1 0 0 0), (4, AV.ptr 2 0 0 0), (5, AV.ptr 3 0 0 0)], [⟨[bigA fa a], 2, 0, false, false⟩, ⟨[ag [vb false, AV.vnil]], 2, 0, false, false⟩, ⟨[bigA false (Sp.flo (x + Sp.flo a x) 2)], 2, 0, false, false⟩, ⟨[zNwF4], 2, 0, false, false⟩, ⟨[bigA false (Sp.flo a x)], 2, 0, false, false⟩, ⟨[bigA false (Sp.flr a x)], 2, 0, false, false⟩, ⟨[bigA false (Sp.flo (x + Sp.flo a x) 2)], 2, 0, false, false⟩, ⟨[bigA false (Sp.flr (x + Sp.flo a x) 2)], 2, 0, false, false⟩], _, [], _⟩ (by kernel_rfl) (bc (beq_f (fun h => d6 (i_dec.1 h))) (bc rfl (bc rfl b0))) q0 c0 (wp_narrow [0, 1, 2, 3] (by kernel_rfl) H)
end Go.Av

namespace Go.Av
open Go.Proofs
set_option maxRecDepth 100000
def fi120 : Fi := ⟨2, [.cell 0 24]⟩
def kp120 : List (Nat × List Nat) := [(0, [0]), (1, [0])]
def fi121 : Fi := ⟨16, [.cell 4 24]⟩
def kp121 : List (Nat × List Nat) := [(0, [2, 3, 4]), (1, [4, 5]), (2, [4])]
def vUnit_at  (Q : AV -> Heap -> Prop) : Prop := Wp M1 (.run fi120 (atC (cd Tryz.f120) []) [] []) Q
def vExact_at (fa fb : Bool) (a b : Int) (Q : AV -> Heap -> Prop) : Prop := Wp M1 (.run fi121 (atC (cd Tryz.f121) []) [(0, .agg [.bool (Sp.isNeg a), .vec fa 1 ((Sp.limI a).map (.int .u32))]), (1, .agg [.bool (Sp.isNeg b), .vec fb 1 ((Sp.limI b).map (.int .u32))])] []) Q
theorem call120 {args : List AV} {d : AV} (h : wc M1 fi120 Tryz.f120 args d) : Ev M1 (.pure 120 args) d [] := pcl _ _ (by kernel_rfl) h
theorem call121 {args : List AV} {d : AV} (h : wc M1 fi121 Tryz.f121 args d) : Ev M1 (.pure 121 args) d [] := pcl _ _ (by kernel_rfl) h
theorem vUnit   (dq : AV) (H :
  (Sp.inI 1) /\
  Weak (ag [vb false, vf (us (Sp.limI 1))]) dq) :
 vUnit_at  (PureQ dq) := by
 unfold vUnit_at
 obtain ⟨k1, H⟩ := H
 exact path_rq (G := given kp120 [(1, 0, .call (ag [vb false, vf (us (Sp.limI 1))]) none)] []) 1000 [] (ag [vb false, vf (us (Sp.limI 1))]) (by kernel_rfl) (bc rfl b0) q0 (ce (@ev55 (1) k1) c0) H
theorem vExact (fa fb : Bool) (a b : Int)  (dq : AV) (H :
  (Sp.okB a /\ Sp.okB b /\ b ≠ 0) /\
  Weak (bigA false (Sp.flo a b)) dq) :
 vExact_at fa fb a b (PureQ dq) := by
 unfold vExact_at
 obtain ⟨k1, H⟩ := H
 exact path_rq (G := given kp121 [(1, 2, .call (tu [bigA false (Sp.flo a b), bigA false (Sp.flr a b), vi 0]) none)] []) 1000 [] (bigA false (Sp.flo a b)) (by kernel_rfl) (bc rfl (bc rfl (bc rfl (bc rfl (bc rfl (bc rfl b0)))))) q0 (ce (@ev56 (fa) (fb) (a) (b) k1) c0) H
end Go.Av

namespace Go.Av
open Go.Proofs
theorem ev120 : Ev M1 (.pure 120 []) (.agg [.bool false, .vec false 1 ((Sp.limI 1).map (.int .u32))]) [] :=
 call120 (vUnit _ ⟨by unfold Sp.inI; omega, .refl _⟩)
theorem ev121 (fa fb : Bool) (a b : Int) (h : Sp.okB a /\ Sp.okB b /\ b ≠ 0) : Ev M1 (.pure 121 [bigA fa a, bigA fb b]) (bigA false (Sp.flo a b)) [] :=
 call121 (vExact _ _ _ _ _ ⟨h, .refl _⟩)
theorem ev98_a (fa : Bool) (a : Int) (h : Sp.okB a) : Ev M1 (.pure 98 [bigA fa a, .agg [.bool false, .vec false 1 ((Sp.limI 1).map (.int .u32))]]) (.int .i64 (Sp.sgnI (a - 1))) [] :=
 ev98 fa false a 1 ⟨h, okB_small (by decide)⟩
end Go.Av

namespace Go.Av
open Go.Proofs
set_option maxRecDepth 100000
def fi48 : Fi := ⟨6, [.tmp 2]⟩
def kp48 : List (Nat × List Nat) := [(0, [1]), (1, [2])]
def fi49 : Fi := ⟨16, [.cell 2 24]⟩
def kp49 : List (Nat × List Nat) := [(0, [1, 2]), (1, [2, 3]), (2, [2])]
def fi75 : Fi := ⟨9, [.cell 2 26]⟩
def kp75 : List (Nat × List Nat) := [(0, [1, 2]), (1, [2])]
def fi95 : Fi := ⟨29, [.cell 4 26]⟩
def kp95 : List (Nat × List Nat) := [(0, [2, 3, 4]), (1, [2, 3, 4, 8]), (2, [2, 3, 4]), (3, [2, 3, 4, 5]), (4, [2, 3, 4, 5, 19]), (5, [2, 3, 4]), (6, [4])]
def fi115 : Fi := ⟨6, [.cell 2 26]⟩
def kp115 : List (Nat × List Nat) := [(0, [1, 2]), (1, [2])]
def fi117 : Fi := ⟨22, [.cell 2 24, .tmp 3]⟩
def kp117 : List (Nat × List Nat) := [(0, [1, 2]), (1, [1, 2, 4, 5]), (2, [2, 3])]
def vWhole_at (fa : Bool) (a : Int) (Q : AV -> Heap -> Prop) : Prop := Wp M1 (.run fi115 (atC (cd Tryz.f115) []) [(0, .agg [.bool (Sp.isNeg a), .vec fa 1 ((Sp.limI a).map (.int .u32))])] []) Q
def vReduce_at (fa fb : Bool) (a b : Int) (Q : AV -> Heap -> Prop) : Prop := Wp M1 (.run fi95 (atC (cd Tryz.f95) []) [(0, .agg [.bool (Sp.isNeg a), .vec fa 1 ((Sp.limI a).map (.int .u32))]), (1, .agg [.bool (Sp.isNeg b), .vec fb 1 ((Sp.limI b).map (.int .u32))])] []) Q
def vRSign_at (fa ga : Bool) (p q : Int) (Q : AV -> Heap -> Prop) : Prop := Wp M1 (.run fi48 (atC (cd Tryz.f48) []) [(0, .agg [.bool (Sp.isNeg p), .vec fa 1 ((Sp.limI p).map (.int .u32)), .bool (Sp.isNeg q), .vec ga 1 ((Sp.limI q).map (.int .u32))])] []) Q
def vRNeg_at (fa ga : Bool) (p q : Int) (Q : AV -> Heap -> Prop) : Prop := Wp M1 (.run fi75 (atC (cd Tryz.f75) []) [(0, .agg [.bool (Sp.isNeg p), .vec fa 1 ((Sp.limI p).map (.int .u32)), .bool (Sp.isNeg q), .vec ga 1 ((Sp.limI q).map (.int .u32))])] []) Q
def vRFloor_at (fa ga : Bool) (p q : Int) (Q : AV -> Heap -> Prop) : Prop := Wp M1 (.run fi49 (atC (cd Tryz.f49) []) [(0, .agg [.bool (Sp.isNeg p), .vec fa 1 ((Sp.limI p).map (.int .u32)), .bool (Sp.isNeg q), .vec ga 1 ((Sp.limI q).map (.int .u32))])] []) Q
def vSide_at (fa : Bool) (a : Int) (Q : AV -> Heap -> Prop) : Prop := Wp M1 (.run fi117 (atC (cd Tryz.f117) []) [(0, .agg [.bool (Sp.isNeg a), .vec fa 1 ((Sp.limI a).map (.int .u32))])] []) Q
theorem call48 {args : List AV} {d : AV} (h : wc M1 fi48 Tryz.f48 args d) : Ev M1 (.pure 48 args) d [] := pcl _ _ (by kernel_rfl) h
theorem call49 {args : List AV} {d : AV} (h : wc M1 fi49 Tryz.f49 args d) : Ev M1 (.pure 49 args) d [] := pcl _ _ (by kernel_rfl) h
theorem call75 {args : List AV} {d : AV} (h : wc M1 fi75 Tryz.f75 args d) : Ev M1 (.pure 75 args) d [] := pcl _ _ (by kernel_rfl) h
theorem call95 {args : List AV} {d : AV} (h : wc M1 fi95 Tryz.f95 args d) : Ev M1 (.pure 95 args) d [] := pcl _ _ (by kernel_rfl) h
theorem call115 {args : List AV} {d : AV} (h : wc M1 fi115 Tryz.f115 args d) : Ev M1 (.pure 115 args) d [] := pcl _ _ (by kernel_rfl) h
theorem call117 {args : List AV} {d : AV} (h : wc M1 fi117 Tryz.f117 args d) : Ev M1 (.pure 117 args) d [] := pcl _ _ (by kernel_rfl) h
theorem vWhole (fa : Bool) (a : Int)  (dq : AV) (H :
  Weak (ag [vb (Sp.isNeg a), AV.vec fa 1 (us (Sp.limI a)), vb false, vf (us (Sp.limI 1))]) dq) :
 vWhole_at fa a (PureQ dq) := by
 unfold vWhole_at
 exact path_rq (G := given kp115 [(1, 1, .call (ag [vb false, vf (us (Sp.limI 1))]) none)] []) 1000 [] (ag [vb (Sp.isNeg a), AV.vec fa 1 (us (Sp.limI a)), vb false, vf (us (Sp.limI 1))]) (by kernel_rfl) (bc rfl (bc rfl b0)) q0 (ce (@ev120 ) c0) H
noncomputable abbrev zNvJ1 := ag [vb false, AV.vnil, vb false, AV.vnil]
theorem vReduce (fa fb : Bool) (a b : Int)  (dq : AV) (H :
  ((Sp.sgnI b < 0) -> (Sp.okB a) /\
   (Sp.okB b) /\
   (Sp.okB (-a) /\ Sp.okB (-b)) /\
   (Sp.okB (↑((-a).gcd (-b)) : Int)) /\
   ((¬Sp.sgnI ((↑((-a).gcd (-b)) : Int) - 1) = 0) -> (Sp.okB (-a) /\ Sp.okB (↑((-a).gcd (-b)) : Int) /\ (↑((-a).gcd (-b)) : Int) ≠ 0) /\
    (Sp.okB (-b) /\ Sp.okB (↑((-a).gcd (-b)) : Int) /\ (↑((-a).gcd (-b)) : Int) ≠ 0) /\
    Weak (ag [vb (Sp.isNeg (Sp.flo (-a) (↑((-a).gcd (-b)) : Int))), vf (us (Sp.limI (Sp.flo (-a) (↑((-a).gcd (-b)) : Int)))), vb (Sp.isNeg (Sp.flo (-b) (↑((-a).gcd (-b)) : Int))), vf (us (Sp.limI (Sp.flo (-b) (↑((-a).gcd (-b)) : Int))))]) dq) /\
   (¬(¬Sp.sgnI ((↑((-a).gcd (-b)) : Int) - 1) = 0) -> Weak (ag [vb (Sp.isNeg (-a)), vf (us (Sp.limI (-a))), vb (Sp.isNeg (-b)), vf (us (Sp.limI (-b)))]) dq)) /\
  (¬(Sp.sgnI b < 0) -> (Sp.okB a /\ Sp.okB b) /\
   (Sp.okB (↑(a.gcd b) : Int)) /\
   ((¬Sp.sgnI ((↑(a.gcd b) : Int) - 1) = 0) -> (Sp.okB a /\ Sp.okB (↑(a.gcd b) : Int) /\ (↑(a.gcd b) : Int) ≠ 0) /\
    (Sp.okB b /\ Sp.okB (↑(a.gcd b) : Int) /\ (↑(a.gcd b) : Int) ≠ 0) /\
    Weak (ag [vb (Sp.isNeg (Sp.flo a (↑(a.gcd b) : Int))), vf (us (Sp.limI (Sp.flo a (↑(a.gcd b) : Int)))), vb (Sp.isNeg (Sp.flo b (↑(a.gcd b) : Int))), vf (us (Sp.limI (Sp.flo b (↑(a.gcd b) : Int))))]) dq) /\
   (¬(¬Sp.sgnI ((↑(a.gcd b) : Int) - 1) = 0) -> Weak (ag [vb (Sp.isNeg a), AV.vec fa 1 (us (Sp.limI a)), vb (Sp.isNeg b), AV.vec fb 1 (us (Sp.limI b))]) dq))) :
 vReduce_at fa fb a b (PureQ dq) := by
 unfold vReduce_at
 refine path_wp (G := given kp95 [(1, 1, .call (vi (Sp.sgnI b)) none)] []) 5 [] ⟨(atC (cd Tryz.f95) [1, 0, 1]), [(2, AV.ptr 0 0 0 0), (3, AV.ptr 1 0 0 0), (4, AV.ptr 2 0 0 0), (8, vb (decide (Sp.sgnI b < 0)))], [⟨[bigA fa a], 2, 0, false, false⟩, ⟨[bigA fb b], 2, 0, false, false⟩, ⟨[zNvJ1], 4, 0, false, false⟩], _, [], _⟩ (by kernel_rfl) (bc rfl b0) q0 (ce (@ev94 (fb) (b)) c0) ?_
 rcases xm (Sp.sgnI b < 0) with d2 | d2
 ·have H := H.1 d2
  obtain ⟨k3, H⟩ := H
  obtain ⟨k4, H⟩ := H
  obtain ⟨k5, H⟩ := H
  obtain ⟨k6, H⟩ := H
  refine path_wp (G := given kp95 [(2, 1, .call (bigA false (-a)) none), (2, 3, .call (bigA false (-b)) none), (3, 2, .call (bigA false (↑((-a).gcd (-b)) : Int)) none), (4, 1, .call (ag [vb false, vf (us (Sp.limI 1))]) none), (4, 2, .call (vi (Sp.sgnI ((↑((-a).gcd (-b)) : Int) - 1))) none)] []) 7 [true] ⟨(atC (cd Tryz.f95) [1, 1, 0, 1, 1]), [(2, AV.ptr 0 0 0 0), (3, AV.ptr 1 0 0 0), (4, AV.ptr 2 0 0 0), (5, AV.ptr 3 0 0 0), (19, vb (Sp.sgnI ((↑((-a).gcd (-b)) : Int) - 1) != 0))], [⟨[bigA false (-a)], 2, 0, false, false⟩, ⟨[bigA false (-b)], 2, 0, false, false⟩, ⟨[zNvJ1], 4, 0, false, false⟩, ⟨[bigA false (↑((-a).gcd (-b)) : Int)], 2, 0, false, false⟩], _, [], _⟩ (by kernel_rfl) (bc (beq_t (i_dec.2 d2)) (bc rfl (bc rfl (bc rfl (bc rfl (bc rfl (bc rfl (bc rfl (bc rfl b0))))))))) q0 (ce (@ev53 (fa) (a) k3) (ce (@ev53 (fb) (b) k4) (ce (@ev119 (false) (false) (-a) (-b) k5) (ce (@ev120 ) (ce (@ev98_a (false) ((↑((-a).gcd (-b)) : Int)) k6) c0))))) ?_
  rcases xm (¬Sp.sgnI ((↑((-a).gcd (-b)) : Int) - 1) = 0) with d8 | d8
  ·have H := H.1 d8
   obtain ⟨k9, H⟩ := H
   obtain ⟨k10, H⟩ := H
   exact path_rq (G := given kp95 [(5, 2, .call (bigA false (Sp.flo (-a) (↑((-a).gcd (-b)) : Int))) none), (5, 5, .call (bigA false (Sp.flo (-b) (↑((-a).gcd (-b)) : Int))) none)] []) 1000 [true] (ag [vb (Sp.isNeg (Sp.flo (-a) (↑((-a).gcd (-b)) : Int))), vf (us (Sp.limI (Sp.flo (-a) (↑((-a).gcd (-b)) : Int)))), vb (Sp.isNeg (Sp.flo (-b) (↑((-a).gcd (-b)) : Int))), vf (us (Sp.limI (Sp.flo (-b) (↑((-a).gcd (-b)) : Int))))]) (by kernel_rfl) (bc (beq_t (i_ne.2 d8)) (bc rfl (bc rfl (bc rfl (bc rfl (bc rfl (bc rfl (bc rfl (bc rfl (bc rfl b0)))))))))) q0 (ce (@ev121 (false) (false) (-a) ((↑((-a).gcd (-b)) : Int)) k9) (ce (@ev121 (false) (false) (-b) ((↑((-a).gcd (-b)) : Int)) k10) c0)) H
  ·have H := H.2 d8
   exact path_rq (G := given kp95 [] []) 1000 [false] (ag [vb (Sp.isNeg (-a)), vf (us (Sp.limI (-a))), vb (Sp.isNeg (-b)), vf (us (Sp.limI (-b)))]) (by kernel_rfl) (bc (beq_f (fun h => d8 (i_ne.1 h))) (bc rfl (bc rfl (bc rfl b0)))) q0 c0 H
 ·have H := H.2 d2
  obtain ⟨k11, H⟩ := H
  obtain ⟨k12, H⟩ := H
  refine path_wp (G := given kp95 [(3, 2, .call (bigA false (↑(a.gcd b) : Int)) none), (4, 1, .call (ag [vb false, vf (us (Sp.limI 1))]) none), (4, 2, .call (vi (Sp.sgnI ((↑(a.gcd b) : Int) - 1))) none)] []) 7 [false] ⟨(atC (cd Tryz.f95) [1, 1, 0, 1, 1]), [(2, AV.ptr 0 0 0 0), (3, AV.ptr 1 0 0 0), (4, AV.ptr 2 0 0 0), (5, AV.ptr 3 0 0 0), (19, vb (Sp.sgnI ((↑(a.gcd b) : Int) - 1) != 0))], [⟨[bigA fa a], 2, 0, false, false⟩, ⟨[bigA fb b], 2, 0, false, false⟩, ⟨[zNvJ1], 4, 0, false, false⟩, ⟨[bigA false (↑(a.gcd b) : Int)], 2, 0, false, false⟩], _, [], _⟩ (by kernel_rfl) (bc (beq_f (fun h => d2 (i_dec.1 h))) (bc rfl (bc rfl (bc rfl (bc rfl b0))))) q0 (ce (@ev119 (fa) (fb) (a) (b) k11) (ce (@ev120 ) (ce (@ev98_a (false) ((↑(a.gcd b) : Int)) k12) c0))) ?_
  rcases xm (¬Sp.sgnI ((↑(a.gcd b) : Int) - 1) = 0) with d14 | d14
  ·have H := H.1 d14
   obtain ⟨k15, H⟩ := H
   obtain ⟨k16, H⟩ := H
   exact path_rq (G := given kp95 [(5, 2, .call (bigA false (Sp.flo a (↑(a.gcd b) : Int))) none), (5, 5, .call (bigA false (Sp.flo b (↑(a.gcd b) : Int))) none)] []) 1000 [true] (ag [vb (Sp.isNeg (Sp.flo a (↑(a.gcd b) : Int))), vf (us (Sp.limI (Sp.flo a (↑(a.gcd b) : Int)))), vb (Sp.isNeg (Sp.flo b (↑(a.gcd b) : Int))), vf (us (Sp.limI (Sp.flo b (↑(a.gcd b) : Int))))]) (by kernel_rfl) (bc (beq_t (i_ne.2 d14)) (bc rfl (bc rfl (bc rfl (bc rfl (bc rfl (bc rfl (bc rfl (bc rfl (bc rfl b0)))))))))) q0 (ce (@ev121 (fa) (false) (a) ((↑(a.gcd b) : Int)) k15) (ce (@ev121 (fb) (false) (b) ((↑(a.gcd b) : Int)) k16) c0)) H
  ·have H := H.2 d14
   exact path_rq (G := given kp95 [] []) 1000 [false] (ag [vb (Sp.isNeg a), AV.vec fa 1 (us (Sp.limI a)), vb (Sp.isNeg b), AV.vec fb 1 (us (Sp.limI b))]) (by kernel_rfl) (bc (beq_f (fun h => d14 (i_ne.1 h))) (bc rfl (bc rfl (bc rfl b0)))) q0 c0 H
theorem vRSign (fa ga : Bool) (p q : Int)  (dq : AV) (H :
  vi (Sp.sgnI p) = dq) :
 vRSign_at fa ga p q (PureQ dq) := by
 unfold vRSign_at
 exact path_re (G := given kp48 [(1, 2, .call (vi (Sp.sgnI p)) none)] []) 1000 [] (vi (Sp.sgnI p)) (by kernel_rfl) (bc rfl b0) q0 (ce (@ev94 (fa) (p)) c0) H
theorem vRNeg (fa ga : Bool) (p q : Int)  (dq : AV) (H :
  (Sp.okB p) /\
  Weak (ag [vb (Sp.isNeg (-p)), vf (us (Sp.limI (-p))), vb (Sp.isNeg q), AV.vec ga 1 (us (Sp.limI q))]) dq) :
 vRNeg_at fa ga p q (PureQ dq) := by
 unfold vRNeg_at
 obtain ⟨k1, H⟩ := H
 exact path_rq (G := given kp75 [(1, 2, .call (bigA false (-p)) none)] []) 1000 [] (ag [vb (Sp.isNeg (-p)), vf (us (Sp.limI (-p))), vb (Sp.isNeg q), AV.vec ga 1 (us (Sp.limI q))]) (by kernel_rfl) (bc rfl (bc rfl (bc rfl b0))) q0 (ce (@ev53 (fa) (p) k1) c0) H
theorem vRFloor (fa ga : Bool) (p q : Int)  (dq : AV) (H :
  (Sp.okB p /\ Sp.okB q /\ q ≠ 0) /\
  Weak (bigA false (Sp.flo p q)) dq) :
 vRFloor_at fa ga p q (PureQ dq) := by
 unfold vRFloor_at
 obtain ⟨k1, H⟩ := H
 exact path_rq (G := given kp49 [(1, 4, .call (tu [bigA false (Sp.flo p q), bigA false (Sp.flr p q), vi 0]) none)] []) 1000 [] (bigA false (Sp.flo p q)) (by kernel_rfl) (bc rfl (bc rfl (bc rfl (bc rfl (bc rfl (bc rfl b0)))))) q0 (ce (@ev56 (fa) (ga) (p) (q) k1) c0) H
theorem vSide (fa : Bool) (a : Int)  (dq : AV) (H :
  (Sp.okS a) /\
  ((Sp.sqe a = 0) -> (Sp.okB (Sp.sq a) /\ Sp.okB (Sp.sq a))) /\
  ((Sp.sqe a = 0) -> (Sp.okB (Sp.sq a * Sp.sq a) /\ Sp.okB a)) /\
  Weak (tu [bigA false (Sp.sq a), vb (bif Sp.sqe a == 0 then Sp.sgnI (Sp.sq a * Sp.sq a - a) == 0 else false)]) dq) :
 vSide_at fa a (PureQ dq) := by
 unfold vSide_at
 obtain ⟨k1, H⟩ := H
 obtain ⟨k3, H⟩ := H
 obtain ⟨k5, H⟩ := H
 exact path_rq (G := given kp117 [(1, 1, .call (tu [bigA false (Sp.sq a), vi (Sp.sqe a)]) none), (2, 6, .call (bigA false (Sp.sq a * Sp.sq a)) none), (2, 8, .call (vi (Sp.sgnI (Sp.sq a * Sp.sq a - a))) none)] []) 1000 [] (asm := [true, true, true, !((Sp.sqe a == 0) == true && true) || true, !((Sp.sqe a == 0) == true && true) || true, !((Sp.sqe a == 0) == true && true) || true, true]) (calls := [⟨true, false, 52, [bigA fa a], [], tu [bigA false (Sp.sq a), vi (Sp.sqe a)], []⟩, ⟨(Sp.sqe a == 0) == true && true && true, false, 51, [bigA false (Sp.sq a), bigA false (Sp.sq a)], [], bigA false (Sp.sq a * Sp.sq a), []⟩, ⟨(Sp.sqe a == 0) == true && true && true, false, 98, [bigA false (Sp.sq a * Sp.sq a), bigA fa a], [], vi (Sp.sgnI (Sp.sq a * Sp.sq a - a)), []⟩]) (tu [bigA false (Sp.sq a), vb (bif Sp.sqe a == 0 then Sp.sgnI (Sp.sq a * Sp.sq a - a) == 0 else false)]) (by kernel_rfl) (bc rfl (bc rfl (bc rfl (bc (Bool.or_true _) (bc (Bool.or_true _) (bc (Bool.or_true _) (bc rfl b0))))))) q0 (cc (fun _ => (@ev52 (fa) (a) k1)) (cc (fun hc => ((@ev51 (false) (false) (Sp.sq a) (Sp.sq a) (k3 ((i_at (i_at (i_bt i_eq))).1 hc))) : Ev M1 (Conf.pure 51 [bigA false (Sp.sq a), bigA false (Sp.sq a)]) (bigA false (Sp.sq a * Sp.sq a)) [])) (cc (fun hc => ((@ev98 (false) (fa) (Sp.sq a * Sp.sq a) (a) (k5 ((i_at (i_at (i_bt i_eq))).1 hc))) : Ev M1 (Conf.pure 98 [bigA false (Sp.sq a * Sp.sq a), bigA fa a]) (vi (Sp.sgnI (Sp.sq a * Sp.sq a - a))) [])) c0))) H
end Go.Av

namespace Go.Av
open Go.Proofs
abbrev ratA (f g : Bool) (r : Rat) : AV := .agg [.bool (Sp.isNeg r.num), .vec f 1 ((Sp.limI r.num).map (.int .u32)), .bool (Sp.isNeg (r.den : Int)), .vec g 1 ((Sp.limI (r.den : Int)).map (.int .u32))]
theorem weak_rat (b d f g : Bool) (xs ys : List AV) : Weak (.agg [.bool b, .vec f 1 xs, .bool d, .vec g 1 ys]) (.agg [.bool b, .vec false 1 xs, .bool d, .vec false 1 ys]) := by
 refine .agg _ _ rfl fun i x y hx hy => ?_
 match i with
 | 0 => simp at hx hy; subst hx; subst hy; exact .refl _
 | 1 => simp at hx hy; subst hx; subst hy; exact weak_vec _ _ _
 | 2 => simp at hx hy; subst hx; subst hy; exact .refl _
 | 3 => simp at hx hy; subst hx; subst hy; exact weak_vec _ _ _
 | i + 4 => simp at hx
theorem rat_neg {a b : Int} (h : b < 0) : (Rat.divInt a b).num = (-a) / (((-a).gcd (-b) : Nat) : Int) /\ ((Rat.divInt a b).den : Int) = (-b) / (((-a).gcd (-b) : Nat) : Int) := by
 have e : (-a).gcd (-b) = b.gcd a := by rw [Int.neg_gcd, Int.gcd_neg, Int.gcd_comm]
 rw [e, Rat.num_divInt, Rat.den_divInt, if_neg (by omega), Int.sign_eq_neg_one_of_neg h]
 refine ⟨by rw [Int.neg_mul, Int.one_mul], ?_⟩
 have e2 : ((b.natAbs / b.gcd a : Nat) : Int) = (b.natAbs : Int) / (b.gcd a : Int) := rfl
 rw [e2]
 congr 1; omega
theorem rat_pos {a b : Int} (h : 0 < b) : (Rat.divInt a b).num = a / ((a.gcd b : Nat) : Int) /\ ((Rat.divInt a b).den : Int) = b / ((a.gcd b : Nat) : Int) := by
 have e : a.gcd b = b.gcd a := Int.gcd_comm _ _
 rw [e, Rat.num_divInt, Rat.den_divInt, if_neg (by omega), Int.sign_eq_one_of_pos h]
 refine ⟨by rw [Int.one_mul], ?_⟩
 have e2 : ((b.natAbs / b.gcd a : Nat) : Int) = (b.natAbs : Int) / (b.gcd a : Int) := rfl
 rw [e2]
 congr 1; omega
theorem gcd_okB {a b : Int} (hb : b ≠ 0) (h : Sp.okB b) : Sp.okB ((a.gcd b : Nat) : Int) /\ ((a.gcd b : Nat) : Int) ≠ 0 := by
 have h1 : 0 < a.gcd b := Int.gcd_pos_of_ne_zero_right _ hb
 have h2 : a.gcd b <= b.natAbs := Nat.le_of_dvd (by omega) (Int.gcd_dvd_natAbs_right a b)
 have := cnt_mono h2
 refine ⟨?_, by omega⟩
 unfold Sp.okB at *
 rw [Int.natAbs_natCast]; omega
theorem flo_pos {a : Int} {g : Nat} (h : (g : Int) ≠ 0) : Sp.flo a (g : Int) = a / (g : Int) := by
 unfold Sp.flo
 rw [if_pos (by omega)]
theorem ev95 (fa fb : Bool) (a b : Int) (h : Sp.okB a /\ Sp.okB b /\ b ≠ 0) : Ev M1 (.pure 95 [bigA fa a, bigA fb b]) (ratA false false (Rat.divInt a b)) [] := by
 obtain ⟨ha, hb, h0⟩ := h
 have hna : Sp.okB (-a) := by unfold Sp.okB at *; rwa [Int.natAbs_neg]
 have hnb : Sp.okB (-b) := by unfold Sp.okB at *; rwa [Int.natAbs_neg]
 refine call95 (vReduce _ _ _ _ _ ⟨fun k => ?_, fun k => ?_⟩)
 ·rw [sgnI_lt] at k
  obtain ⟨g1, g2⟩ := gcd_okB (a := -a) (b := -b) (by omega) hnb
  obtain ⟨r1, r2⟩ := rat_neg (a := a) k
  refine ⟨ha, hb, ⟨hna, hnb⟩, g1, fun _ => ⟨⟨hna, g1, g2⟩, ⟨hnb, g1, g2⟩, ?_⟩, fun k2 => ?_⟩
  ·show Weak _ (AV.agg [.bool (Sp.isNeg (Rat.divInt a b).num), .vec false 1 ((Sp.limI (Rat.divInt a b).num).map (.int .u32)), .bool (Sp.isNeg ((Rat.divInt a b).den : Int)), .vec false 1 ((Sp.limI ((Rat.divInt a b).den : Int)).map (.int .u32))])
   rw [r1, r2, flo_pos g2, flo_pos g2]; exact .refl _
  ·have k2 := sgnI_zero.1 (Classical.not_not.1 k2)
   have e : (((-a).gcd (-b) : Nat) : Int) = 1 := by omega
   show Weak _ (AV.agg [.bool (Sp.isNeg (Rat.divInt a b).num), .vec false 1 ((Sp.limI (Rat.divInt a b).num).map (.int .u32)), .bool (Sp.isNeg ((Rat.divInt a b).den : Int)), .vec false 1 ((Sp.limI ((Rat.divInt a b).den : Int)).map (.int .u32))])
   rw [r1, r2, e, Int.ediv_one, Int.ediv_one]; exact weak_rat _ _ _ _ _ _
 ·rw [sgnI_lt] at k
  obtain ⟨g1, g2⟩ := gcd_okB (a := a) (b := b) h0 hb
  obtain ⟨r1, r2⟩ := rat_pos (a := a) (show 0 < b by omega)
  refine ⟨⟨ha, hb⟩, g1, fun _ => ⟨⟨ha, g1, g2⟩, ⟨hb, g1, g2⟩, ?_⟩, fun k2 => ?_⟩
  ·show Weak _ (AV.agg [.bool (Sp.isNeg (Rat.divInt a b).num), .vec false 1 ((Sp.limI (Rat.divInt a b).num).map (.int .u32)), .bool (Sp.isNeg ((Rat.divInt a b).den : Int)), .vec false 1 ((Sp.limI ((Rat.divInt a b).den : Int)).map (.int .u32))])
   rw [r1, r2, flo_pos g2, flo_pos g2]; exact .refl _
  ·have k2 := sgnI_zero.1 (Classical.not_not.1 k2)
   have e : ((a.gcd b : Nat) : Int) = 1 := by omega
   show Weak _ (AV.agg [.bool (Sp.isNeg (Rat.divInt a b).num), .vec false 1 ((Sp.limI (Rat.divInt a b).num).map (.int .u32)), .bool (Sp.isNeg ((Rat.divInt a b).den : Int)), .vec false 1 ((Sp.limI ((Rat.divInt a b).den : Int)).map (.int .u32))])
   rw [r1, r2, e, Int.ediv_one, Int.ediv_one]; exact weak_rat _ _ _ _ _ _
theorem ev48 (fa ga : Bool) (p q : Int) : Ev M1 (.pure 48 [.agg [.bool (Sp.isNeg p), .vec fa 1 ((Sp.limI p).map (.int .u32)), .bool (Sp.isNeg q), .vec ga 1 ((Sp.limI q).map (.int .u32))]]) (.int .i64 (Sp.sgnI p)) [] :=
 call48 (vRSign _ _ _ _ _ rfl)
end Go.Av

namespace Go.Av
open Go.Proofs
theorem ev75 (fa ga : Bool) (r : Rat) (h : Sp.okB r.num) : Ev M1 (.pure 75 [ratA fa ga r]) (ratA false false (-r)) [] := by
 refine call75 (vRNeg _ _ _ _ _ ⟨h, ?_⟩)
 show Weak _ (AV.agg [.bool (Sp.isNeg (-r).num), .vec false 1 ((Sp.limI (-r).num).map (.int .u32)), .bool (Sp.isNeg ((-r).den : Int)), .vec false 1 ((Sp.limI ((-r).den : Int)).map (.int .u32))])
 rw [Rat.neg_num, Rat.neg_den]
 exact weak_rat _ _ _ _ _ _
theorem ev49 (fa ga : Bool) (r : Rat) (h : Sp.okB r.num /\ Sp.okB r.den) : Ev M1 (.pure 49 [ratA fa ga r]) (bigA false (Sp.flo r.num r.den)) [] :=
 call49 (vRFloor _ _ _ _ _ ⟨⟨h.1, h.2, by have := r.den_pos; omega⟩, .refl _⟩)
namespace Sp
noncomputable def isSq (a : Int) : Bool := bif sqe a == 0 then sgnI (sq a * sq a - a) == 0 else false
end Sp
theorem sq_le {a : Int} (h : 0 <= a) : (Sp.sq a).natAbs * (Sp.sq a).natAbs <= a.natAbs /\ (Sp.sq a).natAbs <= a.natAbs := by
 have := isqrt_spec a.natAbs
 unfold Sp.sq
 rw [if_neg (by omega), Int.natAbs_natCast]
 refine ⟨this.1, ?_⟩
 have h1 := this.1
 by_cases hz : Sp.isqrt a.natAbs = 0
 ·omega
 ·have := Nat.le_mul_of_pos_left (Sp.isqrt a.natAbs) (Nat.pos_of_ne_zero hz)
  omega
theorem ev117 (fa : Bool) (a : Int) (h : Sp.okS a) : Ev M1 (.pure 117 [bigA fa a]) (.tup [bigA false (Sp.sq a), .bool (Sp.isSq a)]) [] := by
 have ha : Sp.okB a := by unfold Sp.okS at h; unfold Sp.okB; omega
 have hk : Sp.sqe a = 0 -> 0 <= a := by
  intro k
  unfold Sp.sqe at k
  split at k <;> omega
 refine call117 (vSide _ _ _ ⟨h, fun k => ?_, fun k => ⟨?_, ha⟩, .refl _⟩)
 ·have := cnt_mono (sq_le (hk k)).2
  unfold Sp.okS at h
  unfold Sp.okB
  omega
 ·have := cnt_mono (sq_le (hk k)).1
  unfold Sp.okS at h
  unfold Sp.okB
  rw [Int.natAbs_mul]; omega
theorem ev115 (fa : Bool) (a : Int) : Ev M1 (.pure 115 [bigA fa a]) (ratA false false (a : Rat)) [] := by
 refine call115 (vWhole _ _ _ ?_)
 show Weak _ (AV.agg [.bool (Sp.isNeg (a : Rat).num), .vec false 1 ((Sp.limI (a : Rat).num).map (.int .u32)), .bool (Sp.isNeg ((a : Rat).den : Int)), .vec false 1 ((Sp.limI ((a : Rat).den : Int)).map (.int .u32))])
 rw [Rat.num_intCast, Rat.den_intCast]
 exact weak_rat _ _ _ _ _ _
end Go.Av

namespace Go.Av
open Go.Proofs
set_option maxRecDepth 100000
def fi50 : Fi := ⟨16, [.cell 4 26]⟩
def kp50 : List (Nat × List Nat) := [(0, [2, 3, 4]), (1, [4])]
def fi84 : Fi := ⟨36, [.cell 4 26]⟩
def kp84 : List (Nat × List Nat) := [(0, [2, 3, 4]), (1, [2, 3, 4, 10]), (2, [4]), (3, [4])]
def fi86 : Fi := ⟨21, [.cell 4 26, .tmp 5]⟩
def kp86 : List (Nat × List Nat) := [(0, [2, 3, 4]), (1, [2, 3, 4, 8]), (2, [4, 5]), (3, [4, 5])]
def fi87 : Fi := ⟨6, [.cell 2 26]⟩
def kp87 : List (Nat × List Nat) := [(0, [0, 2]), (1, [2])]
def fi90 : Fi := ⟨26, [.cell 2 26, .tmp 3]⟩
def kp90 : List (Nat × List Nat) := [(0, [1, 2]), (1, [1, 2, 4, 5]), (2, [1, 2, 4, 14]), (3, [2, 4, 6, 7]), (4, [2, 4, 6, 21]), (5, [2, 3]), (6, [2, 3])]
def fi114 : Fi := ⟨25, [.tmp 4]⟩
def kp114 : List (Nat × List Nat) := [(0, [2, 3]), (1, [2, 3, 5]), (2, [2, 3, 5, 12]), (3, [4]), (4, [4])]
def vRAdd_at (fa ga fb gb : Bool) (r s : Rat) (Q : AV -> Heap -> Prop) : Prop := Wp M1 (.run fi84 (atC (cd Tryz.f84) []) [(0, .agg [.bool (Sp.isNeg r.num), .vec fa 1 ((Sp.limI r.num).map (.int .u32)), .bool (Sp.isNeg (r.den : Int)), .vec ga 1 ((Sp.limI (r.den : Int)).map (.int .u32))]), (1, .agg [.bool (Sp.isNeg s.num), .vec fb 1 ((Sp.limI s.num).map (.int .u32)), .bool (Sp.isNeg (s.den : Int)), .vec gb 1 ((Sp.limI (s.den : Int)).map (.int .u32))])] []) Q
def vRMul_at (fa ga fb gb : Bool) (r s : Rat) (Q : AV -> Heap -> Prop) : Prop := Wp M1 (.run fi50 (atC (cd Tryz.f50) []) [(0, .agg [.bool (Sp.isNeg r.num), .vec fa 1 ((Sp.limI r.num).map (.int .u32)), .bool (Sp.isNeg (r.den : Int)), .vec ga 1 ((Sp.limI (r.den : Int)).map (.int .u32))]), (1, .agg [.bool (Sp.isNeg s.num), .vec fb 1 ((Sp.limI s.num).map (.int .u32)), .bool (Sp.isNeg (s.den : Int)), .vec gb 1 ((Sp.limI (s.den : Int)).map (.int .u32))])] []) Q
def vRDiv_at (fa ga fb gb : Bool) (r s : Rat) (Q : AV -> Heap -> Prop) : Prop := Wp M1 (.run fi86 (atC (cd Tryz.f86) []) [(0, .agg [.bool (Sp.isNeg r.num), .vec fa 1 ((Sp.limI r.num).map (.int .u32)), .bool (Sp.isNeg (r.den : Int)), .vec ga 1 ((Sp.limI (r.den : Int)).map (.int .u32))]), (1, .agg [.bool (Sp.isNeg s.num), .vec fb 1 ((Sp.limI s.num).map (.int .u32)), .bool (Sp.isNeg (s.den : Int)), .vec gb 1 ((Sp.limI (s.den : Int)).map (.int .u32))])] []) Q
def vRCmp_at (fa ga fb gb : Bool) (r s : Rat) (Q : AV -> Heap -> Prop) : Prop := Wp M1 (.run fi114 (atC (cd Tryz.f114) []) [(0, .agg [.bool (Sp.isNeg r.num), .vec fa 1 ((Sp.limI r.num).map (.int .u32)), .bool (Sp.isNeg (r.den : Int)), .vec ga 1 ((Sp.limI (r.den : Int)).map (.int .u32))]), (1, .agg [.bool (Sp.isNeg s.num), .vec fb 1 ((Sp.limI s.num).map (.int .u32)), .bool (Sp.isNeg (s.den : Int)), .vec gb 1 ((Sp.limI (s.den : Int)).map (.int .u32))])] []) Q
def vRFrom_at (n : Int) (Q : AV -> Heap -> Prop) : Prop := Wp M1 (.run fi87 (atC (cd Tryz.f87) []) [(0, .int .i64 n)] []) Q
def vRSqrt_at (fa ga : Bool) (r : Rat) (Q : AV -> Heap -> Prop) : Prop := Wp M1 (.run fi90 (atC (cd Tryz.f90) []) [(0, .agg [.bool (Sp.isNeg r.num), .vec fa 1 ((Sp.limI r.num).map (.int .u32)), .bool (Sp.isNeg (r.den : Int)), .vec ga 1 ((Sp.limI (r.den : Int)).map (.int .u32))])] []) Q
theorem call50 {args : List AV} {d : AV} (h : wc M1 fi50 Tryz.f50 args d) : Ev M1 (.pure 50 args) d [] := pcl _ _ (by kernel_rfl) h
theorem call84 {args : List AV} {d : AV} (h : wc M1 fi84 Tryz.f84 args d) : Ev M1 (.pure 84 args) d [] := pcl _ _ (by kernel_rfl) h
theorem call86 {args : List AV} {d : AV} (h : wc M1 fi86 Tryz.f86 args d) : Ev M1 (.pure 86 args) d [] := pcl _ _ (by kernel_rfl) h
theorem call87 {args : List AV} {d : AV} (h : wc M1 fi87 Tryz.f87 args d) : Ev M1 (.pure 87 args) d [] := pcl _ _ (by kernel_rfl) h
theorem call90 {args : List AV} {d : AV} (h : wc M1 fi90 Tryz.f90 args d) : Ev M1 (.pure 90 args) d [] := pcl _ _ (by kernel_rfl) h
theorem call114 {args : List AV} {d : AV} (h : wc M1 fi114 Tryz.f114 args d) : Ev M1 (.pure 114 args) d [] := pcl _ _ (by kernel_rfl) h
theorem vRAdd (fa ga fb gb : Bool) (r s : Rat)  (dq : AV) (H :
  (Sp.okB (↑r.den : Int) /\ Sp.okB (↑s.den : Int)) /\
  ((Sp.sgnI ((↑r.den : Int) - (↑s.den : Int)) = 0) -> (Sp.okB r.num /\ Sp.okB s.num) /\
   (Sp.okB (r.num + s.num) /\ Sp.okB (↑r.den : Int) /\ (↑r.den : Int) ≠ 0) /\
   Weak (ratA false false (Rat.divInt (r.num + s.num) (↑r.den : Int))) dq) /\
  (¬(Sp.sgnI ((↑r.den : Int) - (↑s.den : Int)) = 0) -> (Sp.okB r.num /\ Sp.okB (↑s.den : Int)) /\
   (Sp.okB s.num /\ Sp.okB (↑r.den : Int)) /\
   (Sp.okB (r.num * (↑s.den : Int)) /\ Sp.okB (s.num * (↑r.den : Int))) /\
   (Sp.okB (r.num * (↑s.den : Int) + s.num * (↑r.den : Int)) /\ Sp.okB ((↑r.den : Int) * (↑s.den : Int)) /\ (↑r.den : Int) * (↑s.den : Int) ≠ 0) /\
   Weak (ratA false false (Rat.divInt (r.num * (↑s.den : Int) + s.num * (↑r.den : Int)) ((↑r.den : Int) * (↑s.den : Int)))) dq)) :
 vRAdd_at fa ga fb gb r s (PureQ dq) := by
 unfold vRAdd_at
 obtain ⟨k1, H⟩ := H
 refine path_wp (G := given kp84 [(1, 4, .call (vi (Sp.sgnI ((↑r.den : Int) - (↑s.den : Int)))) none)] []) 5 [] ⟨(atC (cd Tryz.f84) [1, 0, 1]), [(2, AV.ptr 0 0 0 0), (3, AV.ptr 1 0 0 0), (4, AV.ptr 2 0 0 0), (10, vb (Sp.sgnI ((↑r.den : Int) - (↑s.den : Int)) == 0))], [⟨[ratA fa ga r], 4, 0, false, false⟩, ⟨[ratA fb gb s], 4, 0, false, false⟩, ⟨[ag [vb false, AV.vnil, vb false, AV.vnil]], 4, 0, false, false⟩], _, [], _⟩ (by kernel_rfl) (bc rfl (bc rfl b0)) q0 (ce (@ev98 (ga) (gb) ((↑r.den : Int)) ((↑s.den : Int)) k1) c0) ?_
 rcases xm (Sp.sgnI ((↑r.den : Int) - (↑s.den : Int)) = 0) with d3 | d3
 ·have H := H.1 d3
  obtain ⟨k4, H⟩ := H
  obtain ⟨k5, H⟩ := H
  exact path_rq (G := given kp84 [(2, 4, .call (bigA false (r.num + s.num)) none), (2, 7, .call (ratA false false (Rat.divInt (r.num + s.num) (↑r.den : Int))) none)] []) 1000 [true] (ratA false false (Rat.divInt (r.num + s.num) (↑r.den : Int))) (by kernel_rfl) (bc (beq_t (i_eq.2 d3)) (bc rfl (bc rfl (bc rfl (bc rfl b0))))) q0 (ce (@ev54 (fa) (fb) (r.num) (s.num) k4) (ce (@ev95 (false) (ga) (r.num + s.num) ((↑r.den : Int)) k5) c0)) H
 ·have H := H.2 d3
  obtain ⟨k6, H⟩ := H
  obtain ⟨k7, H⟩ := H
  obtain ⟨k8, H⟩ := H
  obtain ⟨k9, H⟩ := H
  exact path_rq (G := given kp84 [(3, 4, .call (bigA false (r.num * (↑s.den : Int))) none), (3, 9, .call (bigA false (s.num * (↑r.den : Int))) none), (3, 10, .call (bigA false (r.num * (↑s.den : Int) + s.num * (↑r.den : Int))) none), (3, 15, .call (bigA false ((↑r.den : Int) * (↑s.den : Int))) none), (3, 16, .call (ratA false false (Rat.divInt (r.num * (↑s.den : Int) + s.num * (↑r.den : Int)) ((↑r.den : Int) * (↑s.den : Int)))) none)] []) 1000 [false] (ratA false false (Rat.divInt (r.num * (↑s.den : Int) + s.num * (↑r.den : Int)) ((↑r.den : Int) * (↑s.den : Int)))) (by kernel_rfl) (bc (beq_f (fun h => d3 (i_eq.1 h))) (bc rfl (bc rfl (bc rfl (bc rfl (bc rfl (bc rfl (bc rfl b0)))))))) q0 (ce (@ev51 (fa) (gb) (r.num) ((↑s.den : Int)) k6) (ce (@ev51 (fb) (ga) (s.num) ((↑r.den : Int)) k7) (ce (@ev54 (false) (false) (r.num * (↑s.den : Int)) (s.num * (↑r.den : Int)) k8) (ce (@ev51 (ga) (gb) ((↑r.den : Int)) ((↑s.den : Int)) k1) (ce (@ev95 (false) (false) (r.num * (↑s.den : Int) + s.num * (↑r.den : Int)) ((↑r.den : Int) * (↑s.den : Int)) k9) c0))))) H
theorem vRMul (fa ga fb gb : Bool) (r s : Rat)  (dq : AV) (H :
  (Sp.okB r.num /\ Sp.okB s.num) /\
  (Sp.okB (↑r.den : Int) /\ Sp.okB (↑s.den : Int)) /\
  (Sp.okB (r.num * s.num) /\ Sp.okB ((↑r.den : Int) * (↑s.den : Int)) /\ (↑r.den : Int) * (↑s.den : Int) ≠ 0) /\
  Weak (ratA false false (Rat.divInt (r.num * s.num) ((↑r.den : Int) * (↑s.den : Int)))) dq) :
 vRMul_at fa ga fb gb r s (PureQ dq) := by
 unfold vRMul_at
 obtain ⟨k1, H⟩ := H
 obtain ⟨k2, H⟩ := H
 obtain ⟨k3, H⟩ := H
 exact path_rq (G := given kp50 [(1, 4, .call (bigA false (r.num * s.num)) none), (1, 9, .call (bigA false ((↑r.den : Int) * (↑s.den : Int))) none), (1, 10, .call (ratA false false (Rat.divInt (r.num * s.num) ((↑r.den : Int) * (↑s.den : Int)))) none)] []) 1000 [] (ratA false false (Rat.divInt (r.num * s.num) ((↑r.den : Int) * (↑s.den : Int)))) (by kernel_rfl) (bc rfl (bc rfl (bc rfl (bc rfl (bc rfl b0))))) q0 (ce (@ev51 (fa) (fb) (r.num) (s.num) k1) (ce (@ev51 (ga) (gb) ((↑r.den : Int)) ((↑s.den : Int)) k2) (ce (@ev95 (false) (false) (r.num * s.num) ((↑r.den : Int) * (↑s.den : Int)) k3) c0))) H
theorem vRDiv (fa ga fb gb : Bool) (r s : Rat)  (dq : AV) (H :
  ((Sp.sgnI s.num = 0) -> Weak (tu [ag [vb false, AV.vnil, vb false, AV.vnil], vi 6]) dq) /\
  (¬(Sp.sgnI s.num = 0) -> (Sp.okB r.num /\ Sp.okB (↑s.den : Int)) /\
   (Sp.okB (↑r.den : Int) /\ Sp.okB s.num) /\
   (Sp.okB (r.num * (↑s.den : Int)) /\ Sp.okB ((↑r.den : Int) * s.num) /\ (↑r.den : Int) * s.num ≠ 0) /\
   Weak (tu [ratA false false (Rat.divInt (r.num * (↑s.den : Int)) ((↑r.den : Int) * s.num)), vi 0]) dq)) :
 vRDiv_at fa ga fb gb r s (PureQ dq) := by
 unfold vRDiv_at
 refine path_wp (G := given kp86 [(1, 1, .call (vi (Sp.sgnI s.num)) none)] []) 5 [] ⟨(atC (cd Tryz.f86) [1, 0, 1]), [(2, AV.ptr 0 0 0 0), (3, AV.ptr 1 0 0 0), (4, AV.ptr 2 0 0 0), (8, vb (Sp.sgnI s.num == 0))], [⟨[ratA fa ga r], 4, 0, false, false⟩, ⟨[ratA fb gb s], 4, 0, false, false⟩, ⟨[ag [vb false, AV.vnil, vb false, AV.vnil]], 4, 0, false, false⟩], _, [], _⟩ (by kernel_rfl) (bc rfl b0) q0 (ce (@ev48 (fb) (gb) (s.num) ((↑s.den : Int))) c0) ?_
 rcases xm (Sp.sgnI s.num = 0) with d2 | d2
 ·have H := H.1 d2
  exact path_rq (G := given kp86 [] []) 1000 [true] (tu [ag [vb false, AV.vnil, vb false, AV.vnil], vi 6]) (by kernel_rfl) (bc (beq_t (i_eq.2 d2)) (bc rfl b0)) q0 c0 H
 ·have H := H.2 d2
  obtain ⟨k3, H⟩ := H
  obtain ⟨k4, H⟩ := H
  obtain ⟨k5, H⟩ := H
  exact path_rq (G := given kp86 [(3, 4, .call (bigA false (r.num * (↑s.den : Int))) none), (3, 9, .call (bigA false ((↑r.den : Int) * s.num)) none), (3, 10, .call (ratA false false (Rat.divInt (r.num * (↑s.den : Int)) ((↑r.den : Int) * s.num))) none)] []) 1000 [false] (tu [ratA false false (Rat.divInt (r.num * (↑s.den : Int)) ((↑r.den : Int) * s.num)), vi 0]) (by kernel_rfl) (bc (beq_f (fun h => d2 (i_eq.1 h))) (bc rfl (bc rfl (bc rfl (bc rfl (bc rfl b0)))))) q0 (ce (@ev51 (fa) (gb) (r.num) ((↑s.den : Int)) k3) (ce (@ev51 (ga) (fb) ((↑r.den : Int)) (s.num) k4) (ce (@ev95 (false) (false) (r.num * (↑s.den : Int)) ((↑r.den : Int) * s.num) k5) c0))) H
theorem vRCmp (fa ga fb gb : Bool) (r s : Rat)  (dq : AV) (H :
  ∃ (n1 : Int),
  (Ev M1 (Conf.pure 127 [vi (Sp.sgnI r.num), vi (Sp.sgnI s.num)]) (vi n1) []) /\
  ((¬n1 = 0) -> vi n1 = dq) /\
  (¬(¬n1 = 0) -> (Sp.okB r.num /\ Sp.okB (↑s.den : Int)) /\
   (Sp.okB s.num /\ Sp.okB (↑r.den : Int)) /\
   (Sp.okB (r.num * (↑s.den : Int)) /\ Sp.okB (s.num * (↑r.den : Int))) /\
   vi (Sp.sgnI (r.num * (↑s.den : Int) - s.num * (↑r.den : Int))) = dq)) :
 vRCmp_at fa ga fb gb r s (PureQ dq) := by
 unfold vRCmp_at
 obtain ⟨n1, H⟩ := H
 obtain ⟨k1, H⟩ := H
 refine path_wp (G := given kp114 [(1, 1, .call (vi (Sp.sgnI r.num)) none), (1, 3, .call (vi (Sp.sgnI s.num)) none), (1, 4, .call (vi n1) none)] []) 7 [] ⟨(atC (cd Tryz.f114) [1, 0, 1, 1]), [(2, AV.ptr 0 0 0 0), (3, AV.ptr 1 0 0 0), (5, vi n1), (12, vb (n1 != 0))], [⟨[ratA fa ga r], 4, 0, false, false⟩, ⟨[ratA fb gb s], 4, 0, false, false⟩], _, [], _⟩ (by kernel_rfl) (bc rfl (bc rfl b0)) q0 (ce (@ev48 (fa) (ga) (r.num) ((↑r.den : Int))) (ce (@ev48 (fb) (gb) (s.num) ((↑s.den : Int))) (ce k1 c0))) ?_
 rcases xm (¬n1 = 0) with d3 | d3
 ·have H := H.1 d3
  exact path_re (G := given kp114 [] []) 1000 [true] (vi n1) (by kernel_rfl) (bc (beq_t (i_ne.2 d3)) b0) q0 c0 H
 ·have H := H.2 d3
  obtain ⟨k4, H⟩ := H
  obtain ⟨k5, H⟩ := H
  obtain ⟨k6, H⟩ := H
  exact path_re (G := given kp114 [(4, 4, .call (bigA false (r.num * (↑s.den : Int))) none), (4, 9, .call (bigA false (s.num * (↑r.den : Int))) none), (4, 10, .call (vi (Sp.sgnI (r.num * (↑s.den : Int) - s.num * (↑r.den : Int)))) none)] []) 1000 [false] (vi (Sp.sgnI (r.num * (↑s.den : Int) - s.num * (↑r.den : Int)))) (by kernel_rfl) (bc (beq_f (fun h => d3 (i_ne.1 h))) (bc rfl (bc rfl (bc rfl (bc rfl b0))))) q0 (ce (@ev51 (fa) (gb) (r.num) ((↑s.den : Int)) k4) (ce (@ev51 (fb) (ga) (s.num) ((↑r.den : Int)) k5) (ce (@ev98 (false) (false) (r.num * (↑s.den : Int)) (s.num * (↑r.den : Int)) k6) c0))) H
theorem vRFrom (n : Int)  (dq : AV) (H :
  (Sp.inI n) /\
  Weak (ratA false false (↑n : Rat)) dq) :
 vRFrom_at n (PureQ dq) := by
 unfold vRFrom_at
 obtain ⟨k1, H⟩ := H
 exact path_rq (G := given kp87 [(1, 1, .call (bigA false n) none), (1, 2, .call (ratA false false (↑n : Rat)) none)] []) 1000 [] (ratA false false (↑n : Rat)) (by kernel_rfl) (bc rfl b0) q0 (ce (@ev55 (n) k1) (ce (@ev115 (false) (n)) c0)) H
noncomputable abbrev zNvK1 := ag [vb false, AV.vnil, vb false, AV.vnil]
theorem vRSqrt (fa ga : Bool) (r : Rat)  (dq : AV) (H :
  (Sp.okS r.num) /\
  ((Sp.isSq r.num = true) -> (Sp.okS (↑r.den : Int)) /\
   ((Sp.isSq (↑r.den : Int) = true) -> Weak (tu [ag [vb (Sp.isNeg (Sp.sq r.num)), vf (us (Sp.limI (Sp.sq r.num))), vb (Sp.isNeg (Sp.sq (↑r.den : Int))), vf (us (Sp.limI (Sp.sq (↑r.den : Int))))], vb true]) dq) /\
   (¬(Sp.isSq (↑r.den : Int) = true) -> Weak (tu [ag [vb false, AV.vnil, vb false, AV.vnil], vb false]) dq)) /\
  (¬(Sp.isSq r.num = true) -> Weak (tu [ag [vb false, AV.vnil, vb false, AV.vnil], vb false]) dq)) :
 vRSqrt_at fa ga r (PureQ dq) := by
 unfold vRSqrt_at
 obtain ⟨k1, H⟩ := H
 refine path_wp (G := given kp90 [(1, 2, .call (tu [bigA false (Sp.sq r.num), vb (Sp.isSq r.num)]) none)] []) 7 [] ⟨(atC (cd Tryz.f90) [1, 0, 1, 1]), [(1, AV.ptr 0 0 0 0), (2, AV.ptr 1 0 0 0), (4, AV.ptr 2 0 0 0), (14, vb (Sp.isSq r.num))], [⟨[ratA fa ga r], 4, 0, false, false⟩, ⟨[zNvK1], 4, 0, false, false⟩, ⟨[bigA false (Sp.sq r.num)], 2, 0, false, false⟩], _, [], _⟩ (by kernel_rfl) (bc rfl (bc rfl b0)) q0 (ce (@ev117 (fa) (r.num) k1) c0) ?_
 rcases xm (Sp.isSq r.num = true) with d3 | d3
 ·have H := H.1 d3
  obtain ⟨k4, H⟩ := H
  refine path_wp (G := given kp90 [(3, 2, .call (tu [bigA false (Sp.sq (↑r.den : Int)), vb (Sp.isSq (↑r.den : Int))]) none)] []) 5 [true] ⟨(atC (cd Tryz.f90) [1, 0, 1, 1, 0, 1, 1]), [(2, AV.ptr 1 0 0 0), (4, AV.ptr 2 0 0 0), (6, AV.ptr 3 0 0 0), (21, vb (Sp.isSq (↑r.den : Int)))], [⟨[ratA fa ga r], 4, 0, false, false⟩, ⟨[zNvK1], 4, 0, false, false⟩, ⟨[bigA false (Sp.sq r.num)], 2, 0, false, false⟩, ⟨[bigA false (Sp.sq (↑r.den : Int))], 2, 0, false, false⟩], [(Sp.isSq r.num) == true, true, true], [], _⟩ (by kernel_rfl) (bc (beq_t ((i_var _).2 d3)) (bc rfl (bc rfl b0))) q0 (ce (@ev117 (ga) ((↑r.den : Int)) k4) c0) ?_
  rcases xm (Sp.isSq (↑r.den : Int) = true) with d6 | d6
  ·have H := H.1 d6
   exact path_rq (G := given kp90 [] []) 1000 [true] (asm := [(Sp.isSq (↑r.den : Int)) == true, true, true, true]) (tu [ag [vb (Sp.isNeg (Sp.sq r.num)), vf (us (Sp.limI (Sp.sq r.num))), vb (Sp.isNeg (Sp.sq (↑r.den : Int))), vf (us (Sp.limI (Sp.sq (↑r.den : Int))))], vb true]) (by kernel_rfl) (bc (beq_t ((i_var _).2 d6)) (bc rfl (bc rfl (bc rfl b0)))) q0 c0 H
  ·have H := H.2 d6
   exact path_rq (G := given kp90 [] []) 1000 [false] (asm := [(Sp.isSq (↑r.den : Int)) == false, true]) (tu [zNvK1, vb false]) (by kernel_rfl) (bc (beq_f (fun h => d6 ((i_var _).1 h))) (bc rfl b0)) q0 c0 H
 ·have H := H.2 d3
  exact path_rq (G := given kp90 [] []) 1000 [false] (asm := [(Sp.isSq r.num) == false, true]) (tu [zNvK1, vb false]) (by kernel_rfl) (bc (beq_f (fun h => d3 ((i_var _).1 h))) (bc rfl b0)) q0 c0 H
end Go.Av

namespace Go.Av
open Go.Proofs
def Sp.okR (r : Rat) : Prop := Sp.cnt r.num.natAbs <= 90000 /\ Sp.cnt r.den <= 90000
theorem okR_B {r : Rat} (h : Sp.okR r) : Sp.okB r.num /\ Sp.okB (r.den : Int) := by
 unfold Sp.okR at h
 unfold Sp.okB
 rw [Int.natAbs_natCast]; omega
theorem cnt_mulI {a b : Int} {n m : Nat} (ha : Sp.cnt a.natAbs <= n) (hb : Sp.cnt b.natAbs <= m) : Sp.cnt (a * b).natAbs <= n + m := by
 rw [Int.natAbs_mul]
 exact fits_cnt.1 (fits_prod (fits_cnt.2 ha) (fits_cnt.2 hb))
theorem cnt_addI {a b : Int} {n : Nat} (ha : Sp.cnt a.natAbs <= n) (hb : Sp.cnt b.natAbs <= n) : Sp.cnt (a + b).natAbs <= n + 1 := by
 have h := fits_cnt.1 (fits_sum (fits_cnt.2 ha) (fits_cnt.2 hb))
 exact Nat.le_trans (cnt_mono (Int.natAbs_add_le a b)) h
theorem cnt_den {r : Rat} {n : Nat} (h : Sp.cnt r.den <= n) : Sp.cnt ((r.den : Int)).natAbs <= n := by rwa [Int.natAbs_natCast]
theorem den_ne (r : Rat) : (r.den : Int) ≠ 0 := by have := r.den_pos; omega
theorem rat_add (r s : Rat) : Rat.divInt (r.num * (s.den : Int) + s.num * (r.den : Int)) ((r.den : Int) * (s.den : Int)) = r + s := by
 rw [<- Rat.divInt_add_divInt _ _ (den_ne r) (den_ne s), Rat.num_divInt_den, Rat.num_divInt_den]
theorem rat_add_same {r s : Rat} (h : (r.den : Int) = (s.den : Int)) : Rat.divInt (r.num + s.num) (r.den : Int) = r + s := by
 rw [<- rat_add, <- h, <- Int.add_mul, Rat.divInt_mul_right (den_ne r)]
theorem rat_mul (r s : Rat) : Rat.divInt (r.num * s.num) ((r.den : Int) * (s.den : Int)) = r * s := by
 rw [<- Rat.divInt_mul_divInt, Rat.num_divInt_den, Rat.num_divInt_den]
theorem rat_div (r s : Rat) : Rat.divInt (r.num * (s.den : Int)) ((r.den : Int) * s.num) = r / s := by
 rw [<- Rat.divInt_mul_divInt, Rat.num_divInt_den, <- Rat.inv_divInt, Rat.num_divInt_den, Rat.div_def]
theorem ev84 (fa ga fb gb : Bool) (r s : Rat) (h : Sp.okR r /\ Sp.okR s) : Ev M1 (.pure 84 [ratA fa ga r, ratA fb gb s]) (ratA false false (r + s)) [] := by
 obtain ⟨hr, hs⟩ := h
 obtain ⟨r1, r2⟩ := okR_B hr
 obtain ⟨s1, s2⟩ := okR_B hs
 obtain ⟨cr1, cr2⟩ := hr
 obtain ⟨cs1, cs2⟩ := hs
 have m1 := cnt_mulI cr1 (cnt_den cs2)
 have m2 := cnt_mulI cs1 (cnt_den cr2)
 have m3 := cnt_mulI (cnt_den cr2) (cnt_den cs2)
 have a1 := cnt_addI m1 m2
 have a2 := cnt_addI cr1 cs1
 refine call84 (vRAdd _ _ _ _ _ _ _ ⟨⟨r2, s2⟩, fun k => ⟨⟨r1, s1⟩, ⟨by unfold Sp.okB; omega, r2, den_ne r⟩, ?_⟩, fun k => ⟨⟨r1, s2⟩, ⟨s1, r2⟩, ⟨by unfold Sp.okB; omega, by unfold Sp.okB; omega⟩, ⟨by unfold Sp.okB; omega, by unfold Sp.okB; omega, Int.mul_ne_zero (den_ne r) (den_ne s)⟩, ?_⟩⟩)
 ·have k := sgnI_zero.1 k
  rw [rat_add_same (by omega)]; exact .refl _
 ·rw [rat_add]; exact .refl _
theorem ev50 (fa ga fb gb : Bool) (r s : Rat) (h : Sp.okR r /\ Sp.okR s) : Ev M1 (.pure 50 [ratA fa ga r, ratA fb gb s]) (ratA false false (r * s)) [] := by
 obtain ⟨hr, hs⟩ := h
 obtain ⟨r1, r2⟩ := okR_B hr
 obtain ⟨s1, s2⟩ := okR_B hs
 obtain ⟨cr1, cr2⟩ := hr
 obtain ⟨cs1, cs2⟩ := hs
 have m1 := cnt_mulI cr1 cs1
 have m3 := cnt_mulI (cnt_den cr2) (cnt_den cs2)
 refine call50 (vRMul _ _ _ _ _ _ _ ⟨⟨r1, s1⟩, ⟨r2, s2⟩, ⟨by unfold Sp.okB; omega, by unfold Sp.okB; omega, Int.mul_ne_zero (den_ne r) (den_ne s)⟩, ?_⟩)
 rw [rat_mul]; exact .refl _
theorem hid_ex (r : Rat) : ∃ s : Rat, s = r := ⟨r, rfl⟩
noncomputable def Sp.hid (r : Rat) : Rat := Classical.choose (hid_ex r)
theorem hid_eq (r : Rat) : Sp.hid r = r := Classical.choose_spec (hid_ex r)
noncomputable def Sp.qi (n : Int) : Rat := Sp.hid n
theorem qi_eq (n : Int) : Sp.qi n = (n : Rat) := hid_eq _
theorem ev87 (n : Int) (h : Sp.inI n) : Ev M1 (.pure 87 [.int .i64 n]) (ratA false false (Sp.qi n)) [] := by
 rw [qi_eq]
 exact call87 (vRFrom _ _ ⟨h, .refl _⟩)
end Go.Av

namespace Go.Av
open Go.Proofs
theorem isSq_iff (a : Int) : Sp.isSq a = true ↔ 0 <= a /\ Sp.sq a * Sp.sq a = a := by
 unfold Sp.isSq Sp.sqe
 by_cases h : a < 0
 ·rw [if_pos h]; simp; omega
 ·rw [if_neg h]
  have := @sgnI_zero (Sp.sq a * Sp.sq a - a)
  simp only [beq_self_eq_true, cond_true, beq_iff_eq, this]
  omega
theorem sq_nonneg (a : Int) : 0 <= Sp.sq a := by
 unfold Sp.sq; split <;> omega
theorem sq_nat (n : Nat) : Sp.sq ((n * n : Nat) : Int) = n := by
 unfold Sp.sq
 rw [if_neg (by omega), Int.natAbs_natCast, isqrt_eq ⟨Nat.le_refl _, Nat.mul_lt_mul'' (Nat.lt_succ_self n) (Nat.lt_succ_self n)⟩]
theorem isSq_nat (n : Nat) : Sp.isSq ((n * n : Nat) : Int) = true := by
 rw [isSq_iff, sq_nat]; omega
namespace Sp
def rsq (r : Rat) : Prop := isSq r.num = true /\ isSq (r.den : Int) = true
noncomputable def rt (r : Rat) : Rat := Rat.divInt (sq r.num) (sq (r.den : Int))
end Sp
theorem dvd_one {g : Nat} (h : g ∣ 1) : g = 1 := Nat.dvd_one.1 h
theorem gcd_sq {r : Rat} (h : Sp.rsq r) : Int.gcd (Sp.sq r.num) (Sp.sq (r.den : Int)) = 1 := by
 obtain ⟨h1, h2⟩ := h
 obtain ⟨_, h1⟩ := (isSq_iff _).1 h1
 obtain ⟨_, h2⟩ := (isSq_iff _).1 h2
 have c : Nat.gcd r.num.natAbs r.den = 1 := r.reduced
 generalize Sp.sq r.num = x at *
 generalize Sp.sq (r.den : Int) = y at *
 have e1 : x.natAbs ∣ r.num.natAbs := by rw [<- h1, Int.natAbs_mul]; exact Nat.dvd_mul_right _ _
 have e2 : y.natAbs ∣ r.den := by
  have : r.den = (r.den : Int).natAbs := rfl
  rw [this, <- h2, Int.natAbs_mul]; exact Nat.dvd_mul_right _ _
 apply Nat.dvd_one.1
 rw [<- c]
 exact Nat.dvd_gcd (Nat.dvd_trans (Nat.gcd_dvd_left _ _) e1) (Nat.dvd_trans (Nat.gcd_dvd_right _ _) e2)
theorem sq_den_pos {r : Rat} (h : Sp.rsq r) : 0 < Sp.sq (r.den : Int) := by
 obtain ⟨_, h2⟩ := (isSq_iff _).1 h.2
 have := sq_nonneg (r.den : Int)
 have hd := r.den_pos
 by_cases e : Sp.sq (r.den : Int) = 0
 ·rw [e] at h2; omega
 ·omega
theorem rt_num {r : Rat} (h : Sp.rsq r) : (Sp.rt r).num = Sp.sq r.num /\ ((Sp.rt r).den : Int) = Sp.sq (r.den : Int) := by
 obtain ⟨e1, e2⟩ := rat_pos (a := Sp.sq r.num) (sq_den_pos h)
 unfold Sp.rt
 rw [e1, e2, gcd_sq h]; simp
theorem mul_self (s : Rat) : (s * s).num = s.num * s.num /\ ((s * s).den : Int) = (s.den : Int) * (s.den : Int) := by
 have hd := s.den_pos
 have c : Nat.gcd s.num.natAbs s.den = 1 := s.reduced
 have g : Int.gcd (s.num * s.num) ((s.den : Int) * (s.den : Int)) = 1 := by
  rw [Int.gcd, Int.natAbs_mul, Int.natAbs_mul, Int.natAbs_natCast]
  exact Nat.Coprime.mul_left (Nat.Coprime.mul_right c c) (Nat.Coprime.mul_right c c)
 obtain ⟨e1, e2⟩ := rat_pos (a := s.num * s.num) (b := (s.den : Int) * (s.den : Int)) (Int.mul_pos (by omega) (by omega))
 rw [rat_mul, g] at e1 e2
 rw [e1, e2]; simp
theorem rsq_of {r s : Rat} (h : s * s = r) : Sp.rsq r := by
 obtain ⟨e1, e2⟩ := mul_self s
 rw [h] at e1 e2
 unfold Sp.rsq
 rw [e1, e2]
 refine ⟨?_, isSq_nat s.den⟩
 rw [<- Int.natAbs_mul_self]
 exact isSq_nat _
end Go.Av

namespace Go.Av
open Go.Proofs
theorem rsqrtH (fa : Bool) (a : Nat) (ha : Sp.cnt a <= 300000) (h0 : a ≠ 0) (n : Nat) : ∀ x : Nat, x <= n -> 0 < x -> a < (x + 1) * (x + 1) -> Sp.fits 300001 x ->
  rSqrtH_at fa a x (PureQ (.tup [bigA false (Sp.isqrt a : Nat), .int .i64 0])) := by
 induction n with
 | zero => intro x h1 h2; omega
 | succ n ih =>
  intro x h1 h2 h3 h4
  have hfa : Sp.fits 300001 a := fits_mono (fits_self a) (by omega)
  have hfq : Sp.fits 300001 (a / x) := fits_le hfa (Nat.div_le_self _ _)
  have hfs : Sp.fits 300002 (x + a / x) := fits_sum h4 hfq
  have hfy : Sp.fits 300002 ((x + a / x) / 2) := fits_le hfs (Nat.div_le_self _ _)
  have e2 : (x : Int) + ((a / x : Nat) : Int) = ((x + a / x : Nat) : Int) := by omega
  refine rSqrtH fa _ _ _ ?_
  rw [flo_nat h2, e2, flo_two]
  have c1 := fits_cnt.1 hfa
  have c2 := fits_cnt.1 h4
  have c3 := fits_cnt.1 hfs
  refine ⟨⟨by rw [Int.natAbs_natCast]; omega, by rw [Int.natAbs_natCast]; omega, by omega⟩, ⟨okB_fits h4 (by omega), okB_fits hfq (by omega)⟩, by rw [Int.natAbs_natCast]; omega, ⟨okB_fits hfy (by omega), okB_fits h4 (by omega)⟩, fun k => ?_, fun k => ?_⟩
  ·have k : ¬(Sp.sgnI (((x + a / x) / 2 : Nat) - (x : Int)) < 0) := by omega
   rw [sgnI_lt] at k
   rw [newton_done h2 h3 (by omega)]
   exact .refl _
  ·have k : Sp.sgnI (((x + a / x) / 2 : Nat) - (x : Int)) < 0 := by omega
   rw [sgnI_lt] at k
   have hn := newton_above (a := a) h2
   refine ih _ (by omega) ?_ hn (fits_le h4 (by omega))
   apply Nat.pos_of_ne_zero
   intro e
   rw [e] at hn
   omega
theorem ev61 (fa : Bool) (v : Int) (h : Sp.okS v) : Ev M1 (.pure 61 [bigA fa v]) (.tup [bigA false (Sp.sq v), .int .i64 (Sp.sqe v)]) [] := by
 have hl := limI_len v
 have e1 : Sp.limI (0 : Int) = [] := lim_zero
 have e2 : Sp.isNeg (0 : Int) = false := rfl
 have w0 : ∀ e : Int, Weak (.tup [.agg [.bool false, .vnil], .int .i64 e]) (.tup [bigA false 0, .int .i64 e]) := by
  intro e
  show Weak _ (.tup [.agg [.bool (Sp.isNeg 0), .vec false 1 ((Sp.limI 0).map (.int .u32))], .int .i64 e])
  rw [e1, e2]
  exact weak_two (weak_bnil false) (.refl _)
 unfold Sp.okS at h
 by_cases hneg : v < 0
 ·unfold Sp.sq Sp.sqe
  rw [if_pos hneg, if_pos hneg]
  exact call61 (rSqrt _ _ _ ⟨fun _ => w0 7, fun k => absurd (isNeg_iff.2 hneg) k⟩)
 ·unfold Sp.sq Sp.sqe
  rw [if_neg hneg, if_neg hneg]
  refine call61 (rSqrt _ _ _ ⟨fun k => absurd (isNeg_iff.1 k) hneg, fun _ => ⟨fun k => ?_, fun k => ?_⟩⟩)
  ·have hz : v.natAbs = 0 := cnt_eq_zero.1 (by omega)
   have : Sp.isqrt v.natAbs = 0 := by rw [hz]; exact isqrt_eq ⟨by omega, by omega⟩
   rw [this]; exact w0 0
  ·have hz : Sp.cnt v.natAbs ≠ 0 := by omega
   have hz' : v.natAbs ≠ 0 := fun e => hz (by rw [e]; exact cnt_zero)
   have ek : (((Sp.limI v).length : Int) + 1).tdiv 2 = (((Sp.cnt v.natAbs + 1) / 2 : Nat) : Int) := by
    rw [hl]
    have : ((Sp.cnt v.natAbs : Nat) : Int) + 1 = ((Sp.cnt v.natAbs + 1 : Nat) : Int) := by omega
    rw [this]
    exact (Int.ofNat_tdiv (Sp.cnt v.natAbs + 1) 2).symm
   rw [ek, Int.toNat_natCast, List.length_replicate]
   generalize hk : (Sp.cnt v.natAbs + 1) / 2 = k
   have hv : ((v.natAbs : Nat) : Int) = v := by omega
   have big : v.natAbs < (1000000000 ^ k + 1) * (1000000000 ^ k + 1) := by
    have h1 := fits_self v.natAbs
    unfold Sp.fits at h1
    have h2 : 1000000000 ^ Sp.cnt v.natAbs <= 1000000000 ^ (k + k) := Nat.pow_le_pow_right (by omega) (by omega)
    rw [Nat.pow_add] at h2
    have h3 := Nat.mul_le_mul (Nat.le_succ (1000000000 ^ k)) (Nat.le_succ (1000000000 ^ k))
    exact Nat.lt_of_lt_of_le h1 (Nat.le_trans h2 h3)
   have hp : 0 < 1000000000 ^ k := Nat.pow_pos (by omega)
   have hf : Sp.fits 300001 (1000000000 ^ k) := fits_pow (by omega)
   refine ⟨by omega, by omega, by omega, by omega, by omega, by omega, by unfold Sp.inI; omega, ?_⟩
   rw [<- hv, Int.natAbs_natCast]
   generalize v.natAbs = a at *
   have hkk : Sp.okK k := by unfold Sp.okK; omega
   have hfa : Sp.fits 300001 a := fits_mono (fits_self a) (by omega)
   have hfq : Sp.fits 300001 (a / 1000000000 ^ k) := fits_le hfa (Nat.div_le_self _ _)
   have hfs : Sp.fits 300002 (1000000000 ^ k + a / 1000000000 ^ k) := fits_sum hf hfq
   have hfy : Sp.fits 300002 ((1000000000 ^ k + a / 1000000000 ^ k) / 2) := fits_le hfs (Nat.div_le_self _ _)
   refine rSqrtF fa _ _ _ ?_
   have hu := unit_bk k
   rw [show (ag [vb false, vf (us (List.replicate k (0 : Int) ++ [1]))]) = bigA false (Sp.bk k : Int) from hu]
   rw [show Sp.bk k = 1000000000 ^ k from rfl]
   generalize 1000000000 ^ k = x at *
   have e2 : (x : Int) + ((a / x : Nat) : Int) = ((x + a / x : Nat) : Int) := by omega
   rw [flo_nat hp, e2, flo_two]
   have c1 := fits_cnt.1 hfa
   have c3 := fits_cnt.1 hfs
   refine ⟨⟨by rw [Int.natAbs_natCast]; omega, hkk⟩, ⟨hkk, okB_fits hfq (by omega)⟩, by rw [Int.natAbs_natCast]; omega, ⟨okB_fits hfy (by omega), hkk⟩, fun k => ?_, fun k => ?_⟩
   ·have k : ¬(Sp.sgnI (((x + a / x) / 2 : Nat) - (x : Int)) < 0) := by omega
    rw [sgnI_lt] at k
    rw [newton_done hp big (by omega)]
    exact .refl _
   ·have k : Sp.sgnI (((x + a / x) / 2 : Nat) - (x : Int)) < 0 := by omega
    rw [sgnI_lt] at k
    have hn := newton_above (a := a) hp
    refine rsqrtH fa a h hz' _ _ (Nat.le_refl _) ?_ hn (fits_le hf (by omega))
    apply Nat.pos_of_ne_zero
    intro e
    rw [e] at hn
    omega
end Go.Av

namespace Go.Av
open Go.Proofs
set_option maxRecDepth 100000
def fi27 : Fi := ⟨6, [.tmp 2]⟩
def kp27 : List (Nat × List Nat) := [(0, [1]), (1, [2])]
def fi66 : Fi := ⟨39, [.cell 4 26]⟩
def kp66 : List (Nat × List Nat) := [(0, [2, 3, 4]), (1, [2, 3, 4, 14]), (2, [2, 3, 4]), (3, [2, 3, 4, 5]), (4, [3, 4, 5, 6]), (5, [4, 6, 9]), (6, [4])]
def fi70 : Fi := ⟨9, [.cell 2 26]⟩
def kp70 : List (Nat × List Nat) := [(0, [1, 2]), (1, [2])]
def fi71 : Fi := ⟨2, [.cell 0 24]⟩
def kp71 : List (Nat × List Nat) := [(0, [0]), (1, [0])]
def fi74 : Fi := ⟨17, [.tmp 4]⟩
def kp74 : List (Nat × List Nat) := [(0, [2, 3]), (1, [4])]
def fi128 : Fi := ⟨21, [.cell 2 24, .tmp 3]⟩
def kp128 : List (Nat × List Nat) := [(0, [1, 2]), (1, [1, 2, 4, 5]), (2, [2, 3])]
def rUnit_at  (Q : AV -> Heap -> Prop) : Prop := Wp M1 (.run fi71 (atC (cd Tryz.f71) []) [] []) Q
def rOf_at (fa fb : Bool) (a b : Int) (Q : AV -> Heap -> Prop) : Prop := Wp M1 (.run fi66 (atC (cd Tryz.f66) []) [(0, .agg [.bool (Sp.isNeg a), .vec fa 1 ((Sp.limI a).map (.int .u32))]), (1, .agg [.bool (Sp.isNeg b), .vec fb 1 ((Sp.limI b).map (.int .u32))])] []) Q
def rRSign_at (fa ga : Bool) (p q : Int) (Q : AV -> Heap -> Prop) : Prop := Wp M1 (.run fi27 (atC (cd Tryz.f27) []) [(0, .agg [.bool (Sp.isNeg p), .vec fa 1 ((Sp.limI p).map (.int .u32)), .bool (Sp.isNeg q), .vec ga 1 ((Sp.limI q).map (.int .u32))])] []) Q
def rRNeg_at (fa ga : Bool) (p q : Int) (Q : AV -> Heap -> Prop) : Prop := Wp M1 (.run fi70 (atC (cd Tryz.f70) []) [(0, .agg [.bool (Sp.isNeg p), .vec fa 1 ((Sp.limI p).map (.int .u32)), .bool (Sp.isNeg q), .vec ga 1 ((Sp.limI q).map (.int .u32))])] []) Q
def rRSame_at (fa ga fb gb : Bool) (p q p2 q2 : Int) (Q : AV -> Heap -> Prop) : Prop := Wp M1 (.run fi74 (atC (cd Tryz.f74) []) [(0, .agg [.bool (Sp.isNeg p), .vec fa 1 ((Sp.limI p).map (.int .u32)), .bool (Sp.isNeg q), .vec ga 1 ((Sp.limI q).map (.int .u32))]), (1, .agg [.bool (Sp.isNeg p2), .vec fb 1 ((Sp.limI p2).map (.int .u32)), .bool (Sp.isNeg q2), .vec gb 1 ((Sp.limI q2).map (.int .u32))])] []) Q
def rPerf_at (fa : Bool) (a : Int) (Q : AV -> Heap -> Prop) : Prop := Wp M1 (.run fi128 (atC (cd Tryz.f128) []) [(0, .agg [.bool (Sp.isNeg a), .vec fa 1 ((Sp.limI a).map (.int .u32))])] []) Q
theorem call27 {args : List AV} {d : AV} (h : wc M1 fi27 Tryz.f27 args d) : Ev M1 (.pure 27 args) d [] := pcl _ _ (by kernel_rfl) h
theorem call66 {args : List AV} {d : AV} (h : wc M1 fi66 Tryz.f66 args d) : Ev M1 (.pure 66 args) d [] := pcl _ _ (by kernel_rfl) h
theorem call70 {args : List AV} {d : AV} (h : wc M1 fi70 Tryz.f70 args d) : Ev M1 (.pure 70 args) d [] := pcl _ _ (by kernel_rfl) h
theorem call71 {args : List AV} {d : AV} (h : wc M1 fi71 Tryz.f71 args d) : Ev M1 (.pure 71 args) d [] := pcl _ _ (by kernel_rfl) h
theorem call74 {args : List AV} {d : AV} (h : wc M1 fi74 Tryz.f74 args d) : Ev M1 (.pure 74 args) d [] := pcl _ _ (by kernel_rfl) h
theorem call128 {args : List AV} {d : AV} (h : wc M1 fi128 Tryz.f128 args d) : Ev M1 (.pure 128 args) d [] := pcl _ _ (by kernel_rfl) h
theorem rUnit   (dq : AV) (H :
  (Sp.inI 1) /\
  Weak (ag [vb false, vf (us (Sp.limI 1))]) dq) :
 rUnit_at  (PureQ dq) := by
 unfold rUnit_at
 obtain ⟨k1, H⟩ := H
 exact path_rq (G := given kp71 [(1, 0, .call (ag [vb false, vf (us (Sp.limI 1))]) none)] []) 1000 [] (ag [vb false, vf (us (Sp.limI 1))]) (by kernel_rfl) (bc rfl b0) q0 (ce (@ev15 (1) k1) c0) H
theorem rOf (fa fb : Bool) (a b : Int)  (dq : AV) (H :
  ((Sp.sgnI b < 0) -> (Sp.ok a) /\
   (Sp.ok b) /\
   (Sp.cnt (-a).natAbs <= 399000 /\ Sp.cnt (-b).natAbs <= 399000) /\
   (Sp.cnt (-a).natAbs <= 399000 /\ Sp.cnt (↑((-a).gcd (-b)) : Int).natAbs <= 399000 /\ (↑((-a).gcd (-b)) : Int) ≠ 0) /\
   (Sp.cnt (-b).natAbs <= 399000 /\ Sp.cnt (↑((-a).gcd (-b)) : Int).natAbs <= 399000 /\ (↑((-a).gcd (-b)) : Int) ≠ 0) /\
   Weak (ag [vb (Sp.isNeg (Sp.flo (-a) (↑((-a).gcd (-b)) : Int))), vf (us (Sp.limI (Sp.flo (-a) (↑((-a).gcd (-b)) : Int)))), vb (Sp.isNeg (Sp.flo (-b) (↑((-a).gcd (-b)) : Int))), vf (us (Sp.limI (Sp.flo (-b) (↑((-a).gcd (-b)) : Int))))]) dq) /\
  (¬(Sp.sgnI b < 0) -> (Sp.cnt a.natAbs <= 399000 /\ Sp.cnt b.natAbs <= 399000) /\
   (Sp.cnt a.natAbs <= 399000 /\ Sp.cnt (↑(a.gcd b) : Int).natAbs <= 399000 /\ (↑(a.gcd b) : Int) ≠ 0) /\
   (Sp.cnt b.natAbs <= 399000 /\ Sp.cnt (↑(a.gcd b) : Int).natAbs <= 399000 /\ (↑(a.gcd b) : Int) ≠ 0) /\
   Weak (ag [vb (Sp.isNeg (Sp.flo a (↑(a.gcd b) : Int))), vf (us (Sp.limI (Sp.flo a (↑(a.gcd b) : Int)))), vb (Sp.isNeg (Sp.flo b (↑(a.gcd b) : Int))), vf (us (Sp.limI (Sp.flo b (↑(a.gcd b) : Int))))]) dq)) :
 rOf_at fa fb a b (PureQ dq) := by
 unfold rOf_at
 refine path_wp (G := given kp66 [(1, 1, .call (vi (Sp.sgnI b)) none)] []) 5 [] ⟨(atC (cd Tryz.f66) [1, 0, 1]), [(2, AV.ptr 0 0 0 0), (3, AV.ptr 1 0 0 0), (4, AV.ptr 2 0 0 0), (14, vb (decide (Sp.sgnI b < 0)))], [⟨[bigA fa a], 2, 0, false, false⟩, ⟨[bigA fb b], 2, 0, false, false⟩, ⟨[ag [vb false, AV.vnil, vb false, AV.vnil]], 4, 0, false, false⟩], _, [], _⟩ (by kernel_rfl) (bc rfl b0) q0 (ce (@ev65 (fb) (b)) c0) ?_
 rcases xm (Sp.sgnI b < 0) with d2 | d2
 ·have H := H.1 d2
  obtain ⟨k3, H⟩ := H
  obtain ⟨k4, H⟩ := H
  obtain ⟨k5, H⟩ := H
  obtain ⟨k6, H⟩ := H
  obtain ⟨k7, H⟩ := H
  exact path_rq (G := given kp66 [(2, 1, .call (bigA false (-a)) none), (2, 3, .call (bigA false (-b)) none), (3, 2, .call (bigA false (↑((-a).gcd (-b)) : Int)) none), (4, 2, .call (tu [bigA false (Sp.flo (-a) (↑((-a).gcd (-b)) : Int)), bigA false (Sp.flr (-a) (↑((-a).gcd (-b)) : Int)), vi 0]) none), (5, 2, .call (tu [bigA false (Sp.flo (-b) (↑((-a).gcd (-b)) : Int)), bigA false (Sp.flr (-b) (↑((-a).gcd (-b)) : Int)), vi 0]) none)] []) 1000 [true] (ag [vb (Sp.isNeg (Sp.flo (-a) (↑((-a).gcd (-b)) : Int))), vf (us (Sp.limI (Sp.flo (-a) (↑((-a).gcd (-b)) : Int)))), vb (Sp.isNeg (Sp.flo (-b) (↑((-a).gcd (-b)) : Int))), vf (us (Sp.limI (Sp.flo (-b) (↑((-a).gcd (-b)) : Int))))]) (by kernel_rfl) (bc (beq_t (i_dec.2 d2)) (bc rfl (bc rfl (bc rfl (bc rfl (bc rfl (bc rfl (bc rfl (bc rfl (bc rfl (bc rfl (bc rfl (bc rfl (bc rfl (bc rfl (bc rfl (bc rfl (bc rfl (bc rfl b0))))))))))))))))))) q0 (ce (@ev62 (fa) (a) k3) (ce (@ev62 (fb) (b) k4) (ce (@ev80 (false) (false) (-a) (-b) k5) (ce (@ev64 (false) (false) (-a) ((↑((-a).gcd (-b)) : Int)) k6) (ce (@ev64 (false) (false) (-b) ((↑((-a).gcd (-b)) : Int)) k7) c0))))) H
 ·have H := H.2 d2
  obtain ⟨k8, H⟩ := H
  obtain ⟨k9, H⟩ := H
  obtain ⟨k10, H⟩ := H
  exact path_rq (G := given kp66 [(3, 2, .call (bigA false (↑(a.gcd b) : Int)) none), (4, 2, .call (tu [bigA false (Sp.flo a (↑(a.gcd b) : Int)), bigA false (Sp.flr a (↑(a.gcd b) : Int)), vi 0]) none), (5, 2, .call (tu [bigA false (Sp.flo b (↑(a.gcd b) : Int)), bigA false (Sp.flr b (↑(a.gcd b) : Int)), vi 0]) none)] []) 1000 [false] (ag [vb (Sp.isNeg (Sp.flo a (↑(a.gcd b) : Int))), vf (us (Sp.limI (Sp.flo a (↑(a.gcd b) : Int)))), vb (Sp.isNeg (Sp.flo b (↑(a.gcd b) : Int))), vf (us (Sp.limI (Sp.flo b (↑(a.gcd b) : Int))))]) (by kernel_rfl) (bc (beq_f (fun h => d2 (i_dec.1 h))) (bc rfl (bc rfl (bc rfl (bc rfl (bc rfl (bc rfl (bc rfl (bc rfl (bc rfl (bc rfl (bc rfl (bc rfl (bc rfl (bc rfl b0))))))))))))))) q0 (ce (@ev80 (fa) (fb) (a) (b) k8) (ce (@ev64 (fa) (false) (a) ((↑(a.gcd b) : Int)) k9) (ce (@ev64 (fb) (false) (b) ((↑(a.gcd b) : Int)) k10) c0))) H
theorem rRSign (fa ga : Bool) (p q : Int)  (dq : AV) (H :
  vi (Sp.sgnI p) = dq) :
 rRSign_at fa ga p q (PureQ dq) := by
 unfold rRSign_at
 exact path_re (G := given kp27 [(1, 2, .call (vi (Sp.sgnI p)) none)] []) 1000 [] (vi (Sp.sgnI p)) (by kernel_rfl) (bc rfl b0) q0 (ce (@ev65 (fa) (p)) c0) H
theorem rRNeg (fa ga : Bool) (p q : Int)  (dq : AV) (H :
  (Sp.ok p) /\
  Weak (ag [vb (Sp.isNeg (-p)), vf (us (Sp.limI (-p))), vb (Sp.isNeg q), AV.vec ga 1 (us (Sp.limI q))]) dq) :
 rRNeg_at fa ga p q (PureQ dq) := by
 unfold rRNeg_at
 obtain ⟨k1, H⟩ := H
 exact path_rq (G := given kp70 [(1, 2, .call (bigA false (-p)) none)] []) 1000 [] (ag [vb (Sp.isNeg (-p)), vf (us (Sp.limI (-p))), vb (Sp.isNeg q), AV.vec ga 1 (us (Sp.limI q))]) (by kernel_rfl) (bc rfl (bc rfl (bc rfl b0))) q0 (ce (@ev62 (fa) (p) k1) c0) H
theorem rRSame (fa ga fb gb : Bool) (p q p2 q2 : Int)  (dq : AV) (H :
  (Sp.ok p /\ Sp.ok p2) /\
  ((p = p2) -> (Sp.ok q /\ Sp.ok q2)) /\
  vb (bif decide (p = p2) then decide (q = q2) else false) = dq) :
 rRSame_at fa ga fb gb p q p2 q2 (PureQ dq) := by
 unfold rRSame_at
 obtain ⟨k1, H⟩ := H
 obtain ⟨k3, H⟩ := H
 exact path_re (G := given kp74 [(1, 4, .call (vb (decide (p = p2))) none), (1, 10, .call (vb (decide (q = q2))) none)] []) 1000 [] (asm := [true, true, !(decide (p = p2) == true && true) || true, !(decide (p = p2) == true && true) || true]) (calls := [⟨true, false, 12, [bigA fa p, bigA fb p2], [], vb (decide (p = p2)), []⟩, ⟨decide (p = p2) == true && true && true, false, 12, [bigA ga q, bigA gb q2], [], vb (decide (q = q2)), []⟩]) (vb (bif decide (p = p2) then decide (q = q2) else false)) (by kernel_rfl) (bc rfl (bc rfl (bc (Bool.or_true _) (bc (Bool.or_true _) b0)))) q0 (cc (fun _ => (@ev12 (fa) (fb) (p) (p2) k1)) (cc (fun hc => ((@ev12 (ga) (gb) (q) (q2) (k3 ((i_at (i_at (i_bt i_dec))).1 hc))) : Ev M1 (Conf.pure 12 [bigA ga q, bigA gb q2]) (vb (decide (q = q2))) [])) c0)) H
theorem rPerf (fa : Bool) (a : Int)  (dq : AV) (H :
  (Sp.okS a) /\
  ((Sp.sqe a = 0) -> (Sp.okB (Sp.sq a) /\ Sp.okB (Sp.sq a))) /\
  ((Sp.sqe a = 0) -> (Sp.ok (Sp.sq a * Sp.sq a) /\ Sp.ok a)) /\
  Weak (tu [bigA false (Sp.sq a), vb (bif Sp.sqe a == 0 then decide (Sp.sq a * Sp.sq a = a) else false)]) dq) :
 rPerf_at fa a (PureQ dq) := by
 unfold rPerf_at
 obtain ⟨k1, H⟩ := H
 obtain ⟨k3, H⟩ := H
 obtain ⟨k5, H⟩ := H
 exact path_rq (G := given kp128 [(1, 1, .call (tu [bigA false (Sp.sq a), vi (Sp.sqe a)]) none), (2, 6, .call (bigA false (Sp.sq a * Sp.sq a)) none), (2, 8, .call (vb (decide (Sp.sq a * Sp.sq a = a))) none)] []) 1000 [] (asm := [true, true, true, !((Sp.sqe a == 0) == true && true) || true, !((Sp.sqe a == 0) == true && true) || true, !((Sp.sqe a == 0) == true && true) || true, true]) (calls := [⟨true, false, 61, [bigA fa a], [], tu [bigA false (Sp.sq a), vi (Sp.sqe a)], []⟩, ⟨(Sp.sqe a == 0) == true && true && true, false, 60, [bigA false (Sp.sq a), bigA false (Sp.sq a)], [], bigA false (Sp.sq a * Sp.sq a), []⟩, ⟨(Sp.sqe a == 0) == true && true && true, false, 12, [bigA false (Sp.sq a * Sp.sq a), bigA fa a], [], vb (decide (Sp.sq a * Sp.sq a = a)), []⟩]) (tu [bigA false (Sp.sq a), vb (bif Sp.sqe a == 0 then decide (Sp.sq a * Sp.sq a = a) else false)]) (by kernel_rfl) (bc rfl (bc rfl (bc rfl (bc (Bool.or_true _) (bc (Bool.or_true _) (bc (Bool.or_true _) (bc rfl b0))))))) q0 (cc (fun _ => (@ev61 (fa) (a) k1)) (cc (fun hc => ((@ev60 (false) (false) (Sp.sq a) (Sp.sq a) (k3 ((i_at (i_at (i_bt i_eq))).1 hc))) : Ev M1 (Conf.pure 60 [bigA false (Sp.sq a), bigA false (Sp.sq a)]) (bigA false (Sp.sq a * Sp.sq a)) [])) (cc (fun hc => ((@ev12 (false) (fa) (Sp.sq a * Sp.sq a) (a) (k5 ((i_at (i_at (i_bt i_eq))).1 hc))) : Ev M1 (Conf.pure 12 [bigA false (Sp.sq a * Sp.sq a), bigA fa a]) (vb (decide (Sp.sq a * Sp.sq a = a))) [])) c0))) H
end Go.Av

namespace Go.Av
open Go.Proofs
set_option maxRecDepth 100000
def fi130 : Fi := ⟨6, [.tmp 2]⟩
def kp130 : List (Nat × List Nat) := [(0, [0]), (1, [2])]
def vIsNaN_at (x : Int) (Q : AV -> Heap -> Prop) : Prop := Wp M1 (.run fi130 (atC (cd Tryz.f130) []) [(0, .int .i64 x)] []) Q
theorem call130 {args : List AV} {d : AV} (h : wc M1 fi130 Tryz.f130 args d) : Ev M1 (.pure 130 args) d [] := pcl _ _ (by kernel_rfl) h
theorem vIsNaN (x : Int)  (dq : AV) (H :
  (vb (x != x)) = dq) :
 vIsNaN_at x (PureQ dq) := by
 unfold vIsNaN_at
 exact path_re (G := given kp130 [] []) 1000 [] (vb (x != x)) (by kernel_rfl) b0 q0 c0 H
end Go.Av

namespace Go.Av
open Go.Proofs
theorem ev130 (x : Int) : Ev M1 (.pure 130 [.int .i64 x]) (.bool false) [] :=
 call130 (vIsNaN _ _ (by simp))
theorem ev86 (fa ga fb gb : Bool) (r s : Rat) (h : Sp.okR r /\ Sp.okR s /\ s.num ≠ 0) : Ev M1 (.pure 86 [ratA fa ga r, ratA fb gb s]) (.tup [ratA false false (r / s), .int .i64 0]) [] := by
 obtain ⟨hr, hs, h0⟩ := h
 obtain ⟨r1, r2⟩ := okR_B hr
 obtain ⟨s1, s2⟩ := okR_B hs
 obtain ⟨cr1, cr2⟩ := hr
 obtain ⟨cs1, cs2⟩ := hs
 have m1 := cnt_mulI cr1 (cnt_den cs2)
 have m3 := cnt_mulI (cnt_den cr2) cs1
 refine call86 (vRDiv _ _ _ _ _ _ _ ⟨fun k => absurd (sgnI_zero.1 k) h0, fun _ => ⟨⟨r1, s2⟩, ⟨r2, s1⟩, ⟨by unfold Sp.okB; omega, by unfold Sp.okB; omega, Int.mul_ne_zero (den_ne r) h0⟩, ?_⟩⟩)
 rw [rat_div]; exact .refl _
end Go.Av

namespace Go.Av
open Go.Proofs
set_option maxRecDepth 100000
def fi111 : Fi := ⟨9, [.cell 4 26]⟩
def kp111 : List (Nat × List Nat) := [(0, [2, 3, 4]), (1, [4])]
def fi127 : Fi := ⟨20, [.tmp 4]⟩
def kp127 : List (Nat × List Nat) := [(0, [0, 1]), (1, [0, 1, 5]), (2, [0, 1, 5, 6]), (3, [0, 1, 6, 11]), (4, [12]), (5, [4]), (6, [4]), (7, [0, 1, 13]), (8, [4]), (9, [0, 1, 16]), (10, [4]), (11, [19]), (12, [4]), (13, [4])]
def vCmpInt_at (x y : Int) (Q : AV -> Heap -> Prop) : Prop := Wp M1 (.run fi127 (atC (cd Tryz.f127) []) [(0, .int .i64 x), (1, .int .i64 y)] []) Q
def vRSub_at (fa ga fb gb : Bool) (r s : Rat) (Q : AV -> Heap -> Prop) : Prop := Wp M1 (.run fi111 (atC (cd Tryz.f111) []) [(0, .agg [.bool (Sp.isNeg r.num), .vec fa 1 ((Sp.limI r.num).map (.int .u32)), .bool (Sp.isNeg (r.den : Int)), .vec ga 1 ((Sp.limI (r.den : Int)).map (.int .u32))]), (1, .agg [.bool (Sp.isNeg s.num), .vec fb 1 ((Sp.limI s.num).map (.int .u32)), .bool (Sp.isNeg (s.den : Int)), .vec gb 1 ((Sp.limI (s.den : Int)).map (.int .u32))])] []) Q
theorem call111 {args : List AV} {d : AV} (h : wc M1 fi111 Tryz.f111 args d) : Ev M1 (.pure 111 args) d [] := pcl _ _ (by kernel_rfl) h
theorem call127 {args : List AV} {d : AV} (h : wc M1 fi127 Tryz.f127 args d) : Ev M1 (.pure 127 args) d [] := pcl _ _ (by kernel_rfl) h
theorem vCmpInt (x y : Int)  (dq : AV) (H :
  ((x < y) -> vi (-1) = dq) /\
  (¬(x < y) -> ((x > y) -> vi 1 = dq) /\
   (¬(x > y) -> vi 0 = dq))) :
 vCmpInt_at x y (PureQ dq) := by
 unfold vCmpInt_at
 refine path_wp (G := given kp127 [(1, 1, .call (vb false) none), (2, 1, .call (vb false) none)] []) 19 [false, false] ⟨(atC (cd Tryz.f127) [1, 1, 1, 1, 1, 0, 1]), [(0, vi x), (1, vi y), (16, vb (decide (x < y)))], [], _, [], _⟩ (by kernel_rfl) (bc rfl (bc rfl b0)) q0 (ce (@ev130 (x)) (ce (@ev130 (y)) c0)) ?_
 rcases xm (x < y) with d2 | d2
 ·have H := H.1 d2
  exact path_re (G := given kp127 [] []) 1000 [true] (vi (-1)) (by kernel_rfl) (bc (beq_t (i_dec.2 d2)) b0) q0 c0 H
 ·have H := H.2 d2
  rcases xm (x > y) with d4 | d4
  ·have H := H.1 d4
   exact path_re (G := given kp127 [] []) 1000 [false, true] (vi 1) (by kernel_rfl) (bc (beq_f (fun h => d2 (i_dec.1 h))) (bc (beq_t (i_dec.2 d4)) b0)) q0 c0 H
  ·have H := H.2 d4
   exact path_re (G := given kp127 [] []) 1000 [false, false] (vi 0) (by kernel_rfl) (bc (beq_f (fun h => d2 (i_dec.1 h))) (bc (beq_f (fun h => d4 (i_dec.1 h))) b0)) q0 c0 H
theorem vRSub (fa ga fb gb : Bool) (r s : Rat)  (dq : AV) (H :
  (Sp.okB s.num) /\
  (Sp.okR r /\ Sp.okR (-s)) /\
  Weak (ratA false false (r + -s)) dq) :
 vRSub_at fa ga fb gb r s (PureQ dq) := by
 unfold vRSub_at
 obtain ⟨k1, H⟩ := H
 obtain ⟨k2, H⟩ := H
 exact path_rq (G := given kp111 [(1, 2, .call (ratA false false (-s)) none), (1, 3, .call (ratA false false (r + -s)) none)] []) 1000 [] (ratA false false (r + -s)) (by kernel_rfl) (bc rfl (bc rfl (bc rfl b0))) q0 (ce (@ev75 (fb) (gb) (s) k1) (ce (@ev84 (fa) (ga) (false) (false) (r) (-s) k2) c0)) H
end Go.Av

namespace Go.Av
open Go.Proofs
theorem ev127 (x y : Int) : Ev M1 (.pure 127 [.int .i64 x, .int .i64 y]) (.int .i64 (Sp.sgnI (x - y))) [] := by
 refine call127 (vCmpInt _ _ _ ⟨fun h => ?_, fun h => ⟨fun k => ?_, fun k => ?_⟩⟩)
 ·unfold Sp.sgnI; rw [if_pos (by omega)]
 ·unfold Sp.sgnI; rw [if_neg (by omega), if_pos (by omega)]
 ·unfold Sp.sgnI; rw [if_neg (by omega), if_neg (by omega)]
theorem okR_neg {s : Rat} (h : Sp.okR s) : Sp.okR (-s) := by
 unfold Sp.okR at *
 rw [Rat.neg_num, Rat.neg_den, Int.natAbs_neg]; exact h
theorem ev111 (fa ga fb gb : Bool) (r s : Rat) (h : Sp.okR r /\ Sp.okR s) : Ev M1 (.pure 111 [ratA fa ga r, ratA fb gb s]) (ratA false false (r - s)) [] := by
 refine call111 (vRSub _ _ _ _ _ _ _ ⟨(okR_B h.2).1, ⟨h.1, okR_neg h.2⟩, ?_⟩)
 rw [<- Rat.sub_eq_add_neg]; exact .refl _
theorem sgn_mul (a : Int) {d : Int} (h : 0 < d) : (a < 0 -> a * d < 0) /\ (a = 0 -> a * d = 0) /\ (0 < a -> 0 < a * d) :=
 ⟨fun k => Int.mul_neg_of_neg_of_pos k h, fun k => by rw [k, Int.zero_mul], fun k => Int.mul_pos k h⟩
theorem ev114 (fa ga fb gb : Bool) (r s : Rat) (h : Sp.okR r /\ Sp.okR s) : Ev M1 (.pure 114 [ratA fa ga r, ratA fb gb s]) (.int .i64 (Sp.sgnI (r.num * (s.den : Int) - s.num * (r.den : Int)))) [] := by
 obtain ⟨hr, hs⟩ := h
 obtain ⟨r1, r2⟩ := okR_B hr
 obtain ⟨s1, s2⟩ := okR_B hs
 obtain ⟨cr1, cr2⟩ := hr
 obtain ⟨cs1, cs2⟩ := hs
 have m1 := cnt_mulI cr1 (cnt_den cs2)
 have m2 := cnt_mulI cs1 (cnt_den cr2)
 refine call114 (vRCmp _ _ _ _ _ _ _ ⟨_, ev127 _ _, fun k => ?_, fun _ => ⟨⟨r1, s2⟩, ⟨s1, r2⟩, ⟨by unfold Sp.okB; omega, by unfold Sp.okB; omega⟩, rfl⟩⟩)
 obtain ⟨a1, a2, a3⟩ := sgn_mul r.num (d := (s.den : Int)) (by have := s.den_pos; omega)
 obtain ⟨b1, b2, b3⟩ := sgn_mul s.num (d := (r.den : Int)) (by have := r.den_pos; omega)
 congr 1
 generalize r.num * (s.den : Int) = A at a1 a2 a3 ⊢
 generalize s.num * (r.den : Int) = B at b1 b2 b3 ⊢
 unfold Sp.sgnI at k ⊢
 (repeat' split at k) <;> (repeat' split) <;> omega
end Go.Av

namespace Go.Av
open Go.Proofs
abbrev fracA (f g : Bool) (p q : Int) : AV := .agg [.bool (Sp.isNeg p), .vec f 1 ((Sp.limI p).map (.int .u32)), .bool (Sp.isNeg q), .vec g 1 ((Sp.limI q).map (.int .u32))]
abbrev noR : AV := .agg [.bool false, .vec false 1 [], .bool false, .vec false 1 []]
theorem weak_nr : Weak (.agg [.bool false, .vnil, .bool false, .vnil]) noR := by
 have w : Weak .vnil (.vec false 1 []) := by
  have := weak_bnil false
  cases this with
  | agg xs ys hl h => exact h 1 _ _ rfl rfl
 refine .agg _ _ rfl fun i x y hx hy => ?_
 match i with
 | 0 => simp at hx hy; subst hx; subst hy; exact .refl _
 | 1 => simp at hx hy; subst hx; subst hy; exact w
 | 2 => simp at hx hy; subst hx; subst hy; exact .refl _
 | 3 => simp at hx hy; subst hx; subst hy; exact w
 | i + 4 => simp at hx
theorem okR_S {r : Rat} (h : Sp.okR r) : Sp.okS r.num /\ Sp.okS (r.den : Int) := by
 unfold Sp.okR at h
 unfold Sp.okS
 rw [Int.natAbs_natCast]; omega
theorem ev90_y (fa ga : Bool) (r : Rat) (h : Sp.okR r) (k : Sp.rsq r) : Ev M1 (.pure 90 [ratA fa ga r]) (.tup [ratA false false (Sp.rt r), .bool true]) [] := by
 obtain ⟨h1, h2⟩ := okR_S h
 obtain ⟨e1, e2⟩ := rt_num k
 refine call90 (vRSqrt _ _ _ _ ⟨h1, fun _ => ⟨h2, fun _ => ?_, fun x => absurd k.2 x⟩, fun x => absurd k.1 x⟩)
 show Weak _ (AV.tup [AV.agg [.bool (Sp.isNeg (Sp.rt r).num), .vec false 1 ((Sp.limI (Sp.rt r).num).map (.int .u32)), .bool (Sp.isNeg ((Sp.rt r).den : Int)), .vec false 1 ((Sp.limI ((Sp.rt r).den : Int)).map (.int .u32))], .bool true])
 rw [e1, e2]; exact .refl _
theorem ev90_n (fa ga : Bool) (r : Rat) (h : Sp.okR r) (k : ¬(Sp.rsq r)) : Ev M1 (.pure 90 [ratA fa ga r]) (.tup [noR, .bool false]) [] := by
 obtain ⟨h1, h2⟩ := okR_S h
 exact call90 (vRSqrt _ _ _ _ ⟨h1, fun x => ⟨h2, fun y => absurd ⟨x, y⟩ k, fun _ => weak_two weak_nr (.refl _)⟩, fun _ => weak_two weak_nr (.refl _)⟩)
theorem val_big {s : Bool} {a : List Int} (hx : ∀ x ∈ a, 0 <= x) (h : Sp.val s a = true) : ∃ v : Int, Sp.isNeg v = s /\ Sp.limI v = a := by
 unfold Sp.val at h
 rw [Bool.and_eq_true, List.all_eq_true] at h
 obtain ⟨h1, h2⟩ := h
 have ha : ∀ x ∈ a, 0 <= x /\ x < 1000000000 := fun x hm => ⟨hx x hm, by simpa using h1 x hm⟩
 obtain ⟨e, f⟩ := limN_val a ha
 by_cases hl : 0 < a.length
 ·rw [show decide (0 < a.length) = true from decide_eq_true hl, cond_true] at h2
  have hn : ¬Sp.fits (a.length - 1) (valL a) := by
   intro hf
   have hz := fits_top0.1 hf
   have hg := limN_getD (n := a.length) (valL a) (show a.length - 1 < a.length by omega)
   rw [<- e, hz] at hg
   rw [hg] at h2
   simp at h2
  have el := lim_of f (.inr hn)
  rw [<- e] at el
  refine ⟨Sp.sg s (valL a), ?_, by rw [sg_limI]; exact el.symm⟩
  rw [sg_neg]
  have : valL a ≠ 0 := by
   intro hz
   apply hn
   rw [hz]
   exact fits_top0.2 (Nat.zero_div _)
  cases s <;> simp [this]
 ·have : a = [] := List.eq_nil_of_length_eq_zero (by omega)
  subst this
  have hs : s = false := by simpa using h2
  subst hs
  exact ⟨0, rfl, lim_zero⟩
theorem big_inj {v w : Int} (h : Sp.limI v = Sp.limI w) (hs : Sp.isNeg v = Sp.isNeg w) : v = w := by
 have e : v.natAbs = w.natAbs := by
  have a := val_limN _ _ (fits_self v.natAbs)
  have b := val_limN _ _ (fits_self w.natAbs)
  rw [<- a, <- b]
  exact congrArg valL h
 have a := @isNeg_iff v
 have b := @isNeg_iff w
 rw [hs] at a
 have c := a.symm.trans b
 omega
def Sp.valR (s : Bool) (a : List Int) (t : Bool) (b : List Int) : Prop := ∃ r : Rat, Sp.isNeg r.num = s /\ Sp.limI r.num = a /\ Sp.isNeg (r.den : Int) = t /\ Sp.limI (r.den : Int) = b
theorem valR_pq (p q : Int) : Sp.valR (Sp.isNeg p) (Sp.limI p) (Sp.isNeg q) (Sp.limI q) ↔ 0 < q /\ Int.gcd p q = 1 := by
 constructor
 ·rintro ⟨r, h1, h2, h3, h4⟩
  have e1 := big_inj h2 h1
  have e2 := big_inj h4 h3
  subst e1; subst e2
  have := r.den_pos
  exact ⟨by omega, r.reduced⟩
 ·rintro ⟨h1, h2⟩
  obtain ⟨e1, e2⟩ := rat_pos (a := p) h1
  rw [h2] at e1 e2
  refine ⟨Rat.divInt p q, ?_⟩
  rw [e1, e2]; simp
theorem valR_val {s t : Bool} {a b : List Int} (h : Sp.valR s a t b) : Sp.val s a = true /\ Sp.val t b = true := by
 obtain ⟨r, rfl, rfl, rfl, rfl⟩ := h
 exact ⟨val_true _, val_true _⟩
theorem valR_rat (r : Rat) : Sp.valR (Sp.isNeg r.num) (Sp.limI r.num) (Sp.isNeg (r.den : Int)) (Sp.limI (r.den : Int)) := ⟨r, rfl, rfl, rfl, rfl⟩
end Go.Av

namespace Go.Av
open Go.Proofs
theorem gcd_cnt {a b : Int} (hb : b ≠ 0) (h : Sp.cnt b.natAbs <= 399000) : Sp.cnt ((a.gcd b : Nat) : Int).natAbs <= 399000 /\ ((a.gcd b : Nat) : Int) ≠ 0 := by
 have h1 : 0 < a.gcd b := Int.gcd_pos_of_ne_zero_right _ hb
 have h2 : a.gcd b <= b.natAbs := Nat.le_of_dvd (by omega) (Int.gcd_dvd_natAbs_right a b)
 have := cnt_mono h2
 rw [Int.natAbs_natCast]
 omega
theorem ev71 : Ev M1 (.pure 71 []) (.agg [.bool false, .vec false 1 ((Sp.limI 1).map (.int .u32))]) [] :=
 call71 (rUnit _ ⟨by unfold Sp.inI; omega, .refl _⟩)
theorem ev66 (fa fb : Bool) (a b : Int) (h : Sp.cnt a.natAbs <= 399000 /\ Sp.cnt b.natAbs <= 399000 /\ b ≠ 0) : Ev M1 (.pure 66 [bigA fa a, bigA fb b]) (ratA false false (Rat.divInt a b)) [] := by
 obtain ⟨ha, hb, h0⟩ := h
 have hna : Sp.cnt (-a).natAbs <= 399000 := by rwa [Int.natAbs_neg]
 have hnb : Sp.cnt (-b).natAbs <= 399000 := by rwa [Int.natAbs_neg]
 refine call66 (rOf _ _ _ _ _ ⟨fun k => ?_, fun k => ?_⟩)
 ·rw [sgnI_lt] at k
  obtain ⟨g1, g2⟩ := gcd_cnt (a := -a) (b := -b) (by omega) hnb
  obtain ⟨r1, r2⟩ := rat_neg (a := a) k
  refine ⟨by unfold Sp.ok; omega, by unfold Sp.ok; omega, ⟨hna, hnb⟩, ⟨hna, g1, g2⟩, ⟨hnb, g1, g2⟩, ?_⟩
  show Weak _ (AV.agg [.bool (Sp.isNeg (Rat.divInt a b).num), .vec false 1 ((Sp.limI (Rat.divInt a b).num).map (.int .u32)), .bool (Sp.isNeg ((Rat.divInt a b).den : Int)), .vec false 1 ((Sp.limI ((Rat.divInt a b).den : Int)).map (.int .u32))])
  rw [r1, r2, flo_pos g2, flo_pos g2]; exact .refl _
 ·rw [sgnI_lt] at k
  obtain ⟨g1, g2⟩ := gcd_cnt (a := a) (b := b) h0 hb
  obtain ⟨r1, r2⟩ := rat_pos (a := a) (show 0 < b by omega)
  refine ⟨⟨ha, hb⟩, ⟨ha, g1, g2⟩, ⟨hb, g1, g2⟩, ?_⟩
  show Weak _ (AV.agg [.bool (Sp.isNeg (Rat.divInt a b).num), .vec false 1 ((Sp.limI (Rat.divInt a b).num).map (.int .u32)), .bool (Sp.isNeg ((Rat.divInt a b).den : Int)), .vec false 1 ((Sp.limI ((Rat.divInt a b).den : Int)).map (.int .u32))])
  rw [r1, r2, flo_pos g2, flo_pos g2]; exact .refl _
theorem ev27 (fa ga : Bool) (p q : Int) : Ev M1 (.pure 27 [fracA fa ga p q]) (.int .i64 (Sp.sgnI p)) [] :=
 call27 (rRSign _ _ _ _ _ rfl)
theorem ev70 (fa ga : Bool) (r : Rat) (h : Sp.ok r.num) : Ev M1 (.pure 70 [ratA fa ga r]) (ratA false false (-r)) [] := by
 refine call70 (rRNeg _ _ _ _ _ ⟨h, ?_⟩)
 show Weak _ (AV.agg [.bool (Sp.isNeg (-r).num), .vec false 1 ((Sp.limI (-r).num).map (.int .u32)), .bool (Sp.isNeg ((-r).den : Int)), .vec false 1 ((Sp.limI ((-r).den : Int)).map (.int .u32))])
 rw [Rat.neg_num, Rat.neg_den]
 exact weak_rat _ _ _ _ _ _
theorem ev74 (fa ga fb gb : Bool) (r s : Rat) (h : Sp.okR r /\ Sp.okR s) : Ev M1 (.pure 74 [ratA fa ga r, ratA fb gb s]) (.bool (decide (r = s))) [] := by
 obtain ⟨⟨h1, h2⟩, ⟨h3, h4⟩⟩ := h
 refine call74 (rRSame _ _ _ _ _ _ _ _ _ ⟨by unfold Sp.ok; omega, fun _ => by unfold Sp.ok; rw [Int.natAbs_natCast, Int.natAbs_natCast]; omega, ?_⟩)
 congr 1
 by_cases e : r = s
 ·subst e; simp
 ·rw [decide_eq_false e]
  by_cases e1 : r.num = s.num
  ·have : ¬(r.den : Int) = (s.den : Int) := fun e2 => e (Rat.ext e1 (by omega))
   rw [decide_eq_false this]; simp
  ·rw [decide_eq_false e1]; rfl
theorem ev74_a : Ev M1 (.pure 74 [noR, noR]) (.bool true) [] := by
 have e1 : Sp.limI (0 : Int) = [] := lim_zero
 have z : Sp.ok 0 := by unfold Sp.ok; exact Nat.le_trans (Nat.le_of_eq cnt_zero) (by omega)
 have h : Ev M1 (.pure 74 [fracA false false 0 0, fracA false false 0 0]) (.bool true) [] := call74 (rRSame _ _ _ _ _ _ _ _ _ ⟨⟨z, z⟩, fun _ => ⟨z, z⟩, rfl⟩)
 simp only [fracA, e1] at h
 exact h
theorem isSqD (a : Int) : (bif Sp.sqe a == 0 then decide (Sp.sq a * Sp.sq a = a) else false) = Sp.isSq a := by
 unfold Sp.isSq
 congr 1
 have h := @sgnI_zero (Sp.sq a * Sp.sq a - a)
 by_cases e : Sp.sq a * Sp.sq a = a
 ·rw [decide_eq_true e, h.2 (by omega)]; rfl
 ·rw [decide_eq_false e]
  exact (beq_eq_false_iff_ne.2 fun x => e (by have := h.1 x; omega)).symm
theorem ev128 (fa : Bool) (a : Int) (h : Sp.okS a) : Ev M1 (.pure 128 [bigA fa a]) (.tup [bigA false (Sp.sq a), .bool (Sp.isSq a)]) [] := by
 have hk : Sp.sqe a = 0 -> 0 <= a := by
  intro k
  unfold Sp.sqe at k
  split at k <;> omega
 have h' := h
 unfold Sp.okS at h'
 refine call128 (rPerf _ _ _ ⟨h, fun k => ?_, fun k => ⟨?_, ?_⟩, ?_⟩)
 ·have := cnt_mono (sq_le (hk k)).2
  unfold Sp.okB
  omega
 ·have := cnt_mono (sq_le (hk k)).1
  unfold Sp.ok
  rw [Int.natAbs_mul]; omega
 ·unfold Sp.ok; omega
 ·rw [isSqD]; exact .refl _
end Go.Av

namespace Go.Av
open Go.Proofs
set_option maxRecDepth 100000
def fi14 : Fi := ⟨13, [.cell 4 26, .tmp 5]⟩
def kp14 : List (Nat × List Nat) := [(0, [2, 3, 4]), (1, [2, 3, 4, 8]), (2, [4, 5]), (3, [4, 5])]
def fi17 : Fi := ⟨26, [.cell 4 26]⟩
def kp17 : List (Nat × List Nat) := [(0, [2, 3, 4]), (1, [2, 3, 4, 5]), (2, [2, 3, 4, 5, 6]), (3, [4])]
def fi18 : Fi := ⟨7, [.cell 2 26]⟩
def kp18 : List (Nat × List Nat) := [(0, [0, 2]), (1, [2])]
def fi29 : Fi := ⟨26, [.tmp 2]⟩
def kp29 : List (Nat × List Nat) := [(0, [1]), (1, [1, 18]), (2, [2]), (3, [2])]
def fi32 : Fi := ⟨16, [.cell 4 26]⟩
def kp32 : List (Nat × List Nat) := [(0, [2, 3, 4]), (1, [4])]
def fi43 : Fi := ⟨12, [.cell 4 26]⟩
def kp43 : List (Nat × List Nat) := [(0, [0, 1, 4]), (1, [0, 1, 4, 6]), (2, [0, 1, 4]), (3, [4])]
def fi118 : Fi := ⟨30, [.cell 2 26, .tmp 3]⟩
def kp118 : List (Nat × List Nat) := [(0, [1, 2]), (1, [1, 2, 4, 5]), (2, [2, 4, 5, 6, 7]), (3, [2, 4, 6, 25]), (4, [2, 3]), (5, [2, 3])]
def rRFrom_at (n : Int) (Q : AV -> Heap -> Prop) : Prop := Wp M1 (.run fi18 (atC (cd Tryz.f18) []) [(0, .int .i64 n)] []) Q
def rRAdd_at (fa ga fb gb : Bool) (r s : Rat) (Q : AV -> Heap -> Prop) : Prop := Wp M1 (.run fi17 (atC (cd Tryz.f17) []) [(0, .agg [.bool (Sp.isNeg r.num), .vec fa 1 ((Sp.limI r.num).map (.int .u32)), .bool (Sp.isNeg (r.den : Int)), .vec ga 1 ((Sp.limI (r.den : Int)).map (.int .u32))]), (1, .agg [.bool (Sp.isNeg s.num), .vec fb 1 ((Sp.limI s.num).map (.int .u32)), .bool (Sp.isNeg (s.den : Int)), .vec gb 1 ((Sp.limI (s.den : Int)).map (.int .u32))])] []) Q
def rRMul_at (fa ga fb gb : Bool) (r s : Rat) (Q : AV -> Heap -> Prop) : Prop := Wp M1 (.run fi32 (atC (cd Tryz.f32) []) [(0, .agg [.bool (Sp.isNeg r.num), .vec fa 1 ((Sp.limI r.num).map (.int .u32)), .bool (Sp.isNeg (r.den : Int)), .vec ga 1 ((Sp.limI (r.den : Int)).map (.int .u32))]), (1, .agg [.bool (Sp.isNeg s.num), .vec fb 1 ((Sp.limI s.num).map (.int .u32)), .bool (Sp.isNeg (s.den : Int)), .vec gb 1 ((Sp.limI (s.den : Int)).map (.int .u32))])] []) Q
def rRMake_at (fa fb : Bool) (a b : Int) (Q : AV -> Heap -> Prop) : Prop := Wp M1 (.run fi14 (atC (cd Tryz.f14) []) [(0, .agg [.bool (Sp.isNeg a), .vec fa 1 ((Sp.limI a).map (.int .u32))]), (1, .agg [.bool (Sp.isNeg b), .vec fb 1 ((Sp.limI b).map (.int .u32))])] []) Q
def rRFrac_at (n d : Int) (Q : AV -> Heap -> Prop) : Prop := Wp M1 (.run fi43 (atC (cd Tryz.f43) []) [(0, .int .i64 n), (1, .int .i64 d)] []) Q
def rRValid_at (fa ga : Bool) (p q : Int) (Q : AV -> Heap -> Prop) : Prop := Wp M1 (.run fi29 (atC (cd Tryz.f29) []) [(0, .agg [.bool (Sp.isNeg p), .vec fa 1 ((Sp.limI p).map (.int .u32)), .bool (Sp.isNeg q), .vec ga 1 ((Sp.limI q).map (.int .u32))])] []) Q
def rRValidA_at (s fa t ga : Bool) (a b : List Int) (Q : AV -> Heap -> Prop) : Prop := Wp M1 (.run fi29 (atC (cd Tryz.f29) []) [(0, .agg [.bool s, .vec fa 1 (a.map (.int .u32)), .bool t, .vec ga 1 (b.map (.int .u32))])] []) Q
def rRSqrt_at (fa ga : Bool) (r : Rat) (Q : AV -> Heap -> Prop) : Prop := Wp M1 (.run fi118 (atC (cd Tryz.f118) []) [(0, .agg [.bool (Sp.isNeg r.num), .vec fa 1 ((Sp.limI r.num).map (.int .u32)), .bool (Sp.isNeg (r.den : Int)), .vec ga 1 ((Sp.limI (r.den : Int)).map (.int .u32))])] []) Q
theorem call14 {args : List AV} {d : AV} (h : wc M1 fi14 Tryz.f14 args d) : Ev M1 (.pure 14 args) d [] := pcl _ _ (by kernel_rfl) h
theorem call17 {args : List AV} {d : AV} (h : wc M1 fi17 Tryz.f17 args d) : Ev M1 (.pure 17 args) d [] := pcl _ _ (by kernel_rfl) h
theorem call18 {args : List AV} {d : AV} (h : wc M1 fi18 Tryz.f18 args d) : Ev M1 (.pure 18 args) d [] := pcl _ _ (by kernel_rfl) h
theorem call29 {args : List AV} {d : AV} (h : wc M1 fi29 Tryz.f29 args d) : Ev M1 (.pure 29 args) d [] := pcl _ _ (by kernel_rfl) h
theorem call32 {args : List AV} {d : AV} (h : wc M1 fi32 Tryz.f32 args d) : Ev M1 (.pure 32 args) d [] := pcl _ _ (by kernel_rfl) h
theorem call43 {args : List AV} {d : AV} (h : wc M1 fi43 Tryz.f43 args d) : Ev M1 (.pure 43 args) d [] := pcl _ _ (by kernel_rfl) h
theorem call118 {args : List AV} {d : AV} (h : wc M1 fi118 Tryz.f118 args d) : Ev M1 (.pure 118 args) d [] := pcl _ _ (by kernel_rfl) h
theorem rRFrom (n : Int)  (dq : AV) (H :
  (Sp.inI n) /\
  Weak (ag [vb (Sp.isNeg n), vf (us (Sp.limI n)), vb false, vf (us (Sp.limI 1))]) dq) :
 rRFrom_at n (PureQ dq) := by
 unfold rRFrom_at
 obtain ⟨k1, H⟩ := H
 exact path_rq (G := given kp18 [(1, 1, .call (bigA false n) none), (1, 2, .call (ag [vb false, vf (us (Sp.limI 1))]) none)] []) 1000 [] (ag [vb (Sp.isNeg n), vf (us (Sp.limI n)), vb false, vf (us (Sp.limI 1))]) (by kernel_rfl) (bc rfl b0) q0 (ce (@ev15 (n) k1) (ce (@ev71 ) c0)) H
theorem rRAdd (fa ga fb gb : Bool) (r s : Rat)  (dq : AV) (H :
  (Sp.okB r.num /\ Sp.okB (↑s.den : Int)) /\
  (Sp.okB s.num /\ Sp.okB (↑r.den : Int)) /\
  (Sp.okB (r.num * (↑s.den : Int)) /\ Sp.okB (s.num * (↑r.den : Int))) /\
  (Sp.okB (↑r.den : Int) /\ Sp.okB (↑s.den : Int)) /\
  (Sp.cnt (r.num * (↑s.den : Int) + s.num * (↑r.den : Int)).natAbs <= 399000 /\ Sp.cnt ((↑r.den : Int) * (↑s.den : Int)).natAbs <= 399000 /\ (↑r.den : Int) * (↑s.den : Int) ≠ 0) /\
  Weak (ratA false false (Rat.divInt (r.num * (↑s.den : Int) + s.num * (↑r.den : Int)) ((↑r.den : Int) * (↑s.den : Int)))) dq) :
 rRAdd_at fa ga fb gb r s (PureQ dq) := by
 unfold rRAdd_at
 obtain ⟨k1, H⟩ := H
 obtain ⟨k2, H⟩ := H
 obtain ⟨k3, H⟩ := H
 obtain ⟨k4, H⟩ := H
 obtain ⟨k5, H⟩ := H
 exact path_rq (G := given kp17 [(1, 4, .call (bigA false (r.num * (↑s.den : Int))) none), (2, 4, .call (bigA false (s.num * (↑r.den : Int))) none), (3, 2, .call (bigA false (r.num * (↑s.den : Int) + s.num * (↑r.den : Int))) none), (3, 7, .call (bigA false ((↑r.den : Int) * (↑s.den : Int))) none), (3, 8, .call (ratA false false (Rat.divInt (r.num * (↑s.den : Int) + s.num * (↑r.den : Int)) ((↑r.den : Int) * (↑s.den : Int)))) none)] []) 1000 [] (ratA false false (Rat.divInt (r.num * (↑s.den : Int) + s.num * (↑r.den : Int)) ((↑r.den : Int) * (↑s.den : Int)))) (by kernel_rfl) (bc rfl (bc rfl (bc rfl (bc rfl (bc rfl (bc rfl (bc rfl (bc rfl (bc rfl (bc rfl (bc rfl b0))))))))))) q0 (ce (@ev60 (fa) (gb) (r.num) ((↑s.den : Int)) k1) (ce (@ev60 (fb) (ga) (s.num) ((↑r.den : Int)) k2) (ce (@ev63 (false) (false) (r.num * (↑s.den : Int)) (s.num * (↑r.den : Int)) k3) (ce (@ev60 (ga) (gb) ((↑r.den : Int)) ((↑s.den : Int)) k4) (ce (@ev66 (false) (false) (r.num * (↑s.den : Int) + s.num * (↑r.den : Int)) ((↑r.den : Int) * (↑s.den : Int)) k5) c0))))) H
theorem rRMul (fa ga fb gb : Bool) (r s : Rat)  (dq : AV) (H :
  (Sp.okB r.num /\ Sp.okB s.num) /\
  (Sp.okB (↑r.den : Int) /\ Sp.okB (↑s.den : Int)) /\
  (Sp.cnt (r.num * s.num).natAbs <= 399000 /\ Sp.cnt ((↑r.den : Int) * (↑s.den : Int)).natAbs <= 399000 /\ (↑r.den : Int) * (↑s.den : Int) ≠ 0) /\
  Weak (ratA false false (Rat.divInt (r.num * s.num) ((↑r.den : Int) * (↑s.den : Int)))) dq) :
 rRMul_at fa ga fb gb r s (PureQ dq) := by
 unfold rRMul_at
 obtain ⟨k1, H⟩ := H
 obtain ⟨k2, H⟩ := H
 obtain ⟨k3, H⟩ := H
 exact path_rq (G := given kp32 [(1, 4, .call (bigA false (r.num * s.num)) none), (1, 9, .call (bigA false ((↑r.den : Int) * (↑s.den : Int))) none), (1, 10, .call (ratA false false (Rat.divInt (r.num * s.num) ((↑r.den : Int) * (↑s.den : Int)))) none)] []) 1000 [] (ratA false false (Rat.divInt (r.num * s.num) ((↑r.den : Int) * (↑s.den : Int)))) (by kernel_rfl) (bc rfl (bc rfl (bc rfl (bc rfl (bc rfl b0))))) q0 (ce (@ev60 (fa) (fb) (r.num) (s.num) k1) (ce (@ev60 (ga) (gb) ((↑r.den : Int)) ((↑s.den : Int)) k2) (ce (@ev66 (false) (false) (r.num * s.num) ((↑r.den : Int) * (↑s.den : Int)) k3) c0))) H
theorem rRMake (fa fb : Bool) (a b : Int)  (dq : AV) (H :
  ((Sp.sgnI b = 0) -> Weak (tu [ag [vb false, AV.vnil, vb false, AV.vnil], vi 6]) dq) /\
  (¬(Sp.sgnI b = 0) -> (Sp.cnt a.natAbs <= 399000 /\ Sp.cnt b.natAbs <= 399000 /\ b ≠ 0) /\
   Weak (tu [ratA false false (Rat.divInt a b), vi 0]) dq)) :
 rRMake_at fa fb a b (PureQ dq) := by
 unfold rRMake_at
 refine path_wp (G := given kp14 [(1, 1, .call (vi (Sp.sgnI b)) none)] []) 5 [] ⟨(atC (cd Tryz.f14) [1, 0, 1]), [(2, AV.ptr 0 0 0 0), (3, AV.ptr 1 0 0 0), (4, AV.ptr 2 0 0 0), (8, vb (Sp.sgnI b == 0))], [⟨[bigA fa a], 2, 0, false, false⟩, ⟨[bigA fb b], 2, 0, false, false⟩, ⟨[ag [vb false, AV.vnil, vb false, AV.vnil]], 4, 0, false, false⟩], _, [], _⟩ (by kernel_rfl) (bc rfl b0) q0 (ce (@ev65 (fb) (b)) c0) ?_
 rcases xm (Sp.sgnI b = 0) with d2 | d2
 ·have H := H.1 d2
  exact path_rq (G := given kp14 [] []) 1000 [true] (tu [ag [vb false, AV.vnil, vb false, AV.vnil], vi 6]) (by kernel_rfl) (bc (beq_t (i_eq.2 d2)) (bc rfl b0)) q0 c0 H
 ·have H := H.2 d2
  obtain ⟨k3, H⟩ := H
  exact path_rq (G := given kp14 [(3, 2, .call (ratA false false (Rat.divInt a b)) none)] []) 1000 [false] (tu [ratA false false (Rat.divInt a b), vi 0]) (by kernel_rfl) (bc (beq_f (fun h => d2 (i_eq.1 h))) (bc rfl (bc rfl (bc rfl b0)))) q0 (ce (@ev66 (fa) (fb) (a) (b) k3) c0) H
theorem rRFrac (n d : Int)  (dq : AV) (H :
  ((d = 0) -> (Sp.inI 0) /\
   (Sp.inI 1) /\
   ∃ (b1 : Bool) (l1 : List (Int)) (b2 : Bool) (l2 : List (Int)),
   (Ev M1 (Conf.pure 66 [ag [vb false, vf (us (Sp.limI 0))], ag [vb false, vf (us (Sp.limI 1))]]) (ag [vb b1, vf (us l1), vb b2, vf (us l2)]) []) /\
   Weak (ag [vb b1, vf (us l1), vb b2, vf (us l2)]) dq) /\
  (¬(d = 0) -> (Sp.inI n) /\
   (Sp.inI d) /\
   (Sp.cnt n.natAbs <= 399000 /\ Sp.cnt d.natAbs <= 399000 /\ d ≠ 0) /\
   Weak (ratA false false (Rat.divInt n d)) dq)) :
 rRFrac_at n d (PureQ dq) := by
 unfold rRFrac_at
 rcases xm (d = 0) with d2 | d2
 ·have H := H.1 d2
  obtain ⟨k3, H⟩ := H
  obtain ⟨k4, H⟩ := H
  obtain ⟨b1, l1, b2, l2, H⟩ := H
  obtain ⟨k5, H⟩ := H
  exact path_rq (G := given kp43 [(3, 1, .call (ag [vb false, vf (us (Sp.limI 0))]) none), (3, 3, .call (ag [vb false, vf (us (Sp.limI 1))]) none), (3, 4, .call (ag [vb b1, vf (us l1), vb b2, vf (us l2)]) none)] []) 1000 [true] (ag [vb b1, vf (us l1), vb b2, vf (us l2)]) (by kernel_rfl) (bc (beq_t (i_eq.2 d2)) (bc rfl b0)) q0 (ce (@ev15 (0) k3) (ce (@ev15 (1) k4) (ce k5 c0))) H
 ·have H := H.2 d2
  obtain ⟨k6, H⟩ := H
  obtain ⟨k7, H⟩ := H
  obtain ⟨k8, H⟩ := H
  exact path_rq (G := given kp43 [(3, 1, .call (bigA false n) none), (3, 3, .call (bigA false d) none), (3, 4, .call (ratA false false (Rat.divInt n d)) none)] []) 1000 [false] (ratA false false (Rat.divInt n d)) (by kernel_rfl) (bc (beq_f (fun h => d2 (i_eq.1 h))) (bc rfl b0)) q0 (ce (@ev15 (n) k6) (ce (@ev15 (d) k7) (ce (@ev66 (false) (false) (n) (d) k8) c0))) H
theorem rRValid (fa ga : Bool) (p q : Int)  (dq : AV) (H :
  (Sp.ok p) /\
  (Sp.ok q) /\
  ((¬Sp.sgnI q = 1) -> vb false = dq) /\
  (¬(¬Sp.sgnI q = 1) -> (Sp.cnt p.natAbs <= 399000 /\ Sp.cnt q.natAbs <= 399000) /\
   ∃ (b1 : Bool),
   (Ev M1 (Conf.pure 12 [bigA false (↑(p.gcd q) : Int), ag [vb false, vf (us (Sp.limI 1))]]) (vb b1) []) /\
   vb b1 = dq)) :
 rRValid_at fa ga p q (PureQ dq) := by
 unfold rRValid_at
 obtain ⟨k1, H⟩ := H
 obtain ⟨k2, H⟩ := H
 refine path_wp (G := given kp29 [(1, 2, .call (vb true) none), (1, 7, .call (vb true) none), (1, 13, .call (vi (Sp.sgnI q)) none)] []) 5 [] ⟨(atC (cd Tryz.f29) [1, 0, 1]), [(1, AV.ptr 0 0 0 0), (18, vb (Sp.sgnI q != 1))], [⟨[ag [vb (Sp.isNeg p), AV.vec fa 1 (us (Sp.limI p)), vb (Sp.isNeg q), AV.vec ga 1 (us (Sp.limI q))]], 4, 0, false, false⟩], _, [], _⟩ (by kernel_rfl) (bc rfl (bc rfl (bc rfl b0))) q0 (ce (@ev79 (fa) (p) k1) (ce (@ev79 (ga) (q) k2) (ce (@ev65 (ga) (q)) c0))) ?_
 rcases xm (¬Sp.sgnI q = 1) with d4 | d4
 ·have H := H.1 d4
  exact path_re (G := given kp29 [] []) 1000 [true] (vb false) (by kernel_rfl) (bc (beq_t (i_ne.2 d4)) b0) q0 c0 H
 ·have H := H.2 d4
  obtain ⟨k5, H⟩ := H
  obtain ⟨b1, H⟩ := H
  obtain ⟨k6, H⟩ := H
  exact path_re (G := given kp29 [(3, 4, .call (bigA false (↑(p.gcd q) : Int)) none), (3, 5, .call (ag [vb false, vf (us (Sp.limI 1))]) none), (3, 6, .call (vb b1) none)] []) 1000 [false] (vb b1) (by kernel_rfl) (bc (beq_f (fun h => d4 (i_ne.1 h))) (bc rfl (bc rfl b0))) q0 (ce (@ev80 (fa) (ga) (p) (q) k5) (ce (@ev71 ) (ce k6 c0))) H
noncomputable abbrev zNwH1 (t : Bool) (ga : Bool) (b : List Int) := ag [vb t, AV.vec ga 1 (us b)]
theorem rRValidA (s fa t ga : Bool) (a b : List Int)  (dq : AV) (H :
  (Sp.short a.length) /\
  ((¬(¬(Sp.val s a = true))) -> (Sp.short b.length)) /\
  ∃ (n1 : Int),
  ((¬((¬(Sp.val s a = true)) \/ (¬(Sp.val t b = true)))) -> (Ev M1 (Conf.pure 65 [ag [vb t, AV.vec ga 1 (us b)]]) (vi n1) [])) /\
  ((((¬(Sp.val s a = true)) \/ (¬(Sp.val t b = true))) \/ (¬n1 = 1)) -> vb false = dq) /\
  (¬(((¬(Sp.val s a = true)) \/ (¬(Sp.val t b = true))) \/ (¬n1 = 1)) -> ∃ (b1 : Bool) (l1 : List (Int)),
   (Ev M1 (Conf.pure 80 [ag [vb s, AV.vec fa 1 (us a)], ag [vb t, AV.vec ga 1 (us b)]]) (ag [vb b1, vf (us l1)]) []) /\
   ∃ (b2 : Bool),
   (Ev M1 (Conf.pure 12 [ag [vb b1, vf (us l1)], ag [vb false, vf (us (Sp.limI 1))]]) (vb b2) []) /\
   vb b2 = dq)) :
 rRValidA_at s fa t ga a b (PureQ dq) := by
 unfold rRValidA_at
 obtain ⟨k1, H⟩ := H
 obtain ⟨k3, H⟩ := H
 obtain ⟨n1, H⟩ := H
 obtain ⟨k5, H⟩ := H
 refine path_wp (G := given kp29 [(1, 2, .call (vb (Sp.val s a)) none), (1, 7, .call (vb (Sp.val t b)) none), (1, 13, .call (vi n1) none)] []) 5 [] ⟨(atC (cd Tryz.f29) [1, 0, 1]), [(1, AV.ptr 0 0 0 0), (18, vb (bif bif !Sp.val s a then true else !Sp.val t b then true else n1 != 1))], [⟨[ag [vb s, AV.vec fa 1 (us a), vb t, AV.vec ga 1 (us b)]], 4, 0, false, false⟩], [true, !((!Sp.val s a) == false && true) || true, !((bif !Sp.val s a then true else !Sp.val t b) == false && true) || true], [], [⟨true, false, 79, [ag [vb s, AV.vec fa 1 (us a)]], [], vb (Sp.val s a), []⟩, ⟨(!Sp.val s a) == false && true && true, false, 79, [(zNwH1 t ga b)], [], vb (Sp.val t b), []⟩, ⟨(bif !Sp.val s a then true else !Sp.val t b) == false && true && true, false, 65, [(zNwH1 t ga b)], [], vi n1, []⟩]⟩ (by kernel_rfl) (bc rfl (bc (Bool.or_true _) (bc (Bool.or_true _) b0))) q0 (cc (fun _ => (@ev79_a (s) (fa) (a) k1)) (cc (fun hc => ((@ev79_a (t) (ga) (b) (k3 ((i_at (i_at (i_bf (i_not (i_var _))))).1 hc))) : Ev M1 (Conf.pure 79 [(zNwH1 t ga b)]) (vb (Sp.val t b)) [])) (cc (fun hc => ((k5 ((i_at (i_at (i_bf (i_bor (i_not (i_var _)) (i_not (i_var _)))))).1 hc)) : Ev M1 (Conf.pure 65 [(zNwH1 t ga b)]) (vi n1) [])) c0))) ?_
 rcases xm (((¬(Sp.val s a = true)) \/ (¬(Sp.val t b = true))) \/ (¬n1 = 1)) with d7 | d7
 ·have H := H.1 d7
  exact path_re (G := given kp29 [] []) 1000 [true] (asm := [(bif bif !Sp.val s a then true else !Sp.val t b then true else n1 != 1) == true]) (vb false) (by kernel_rfl) (bc (beq_t ((i_bor (i_bor (i_not (i_var _)) (i_not (i_var _))) i_ne).2 d7)) b0) q0 c0 H
 ·have H := H.2 d7
  obtain ⟨b1, l1, H⟩ := H
  obtain ⟨k8, H⟩ := H
  obtain ⟨b2, H⟩ := H
  obtain ⟨k9, H⟩ := H
  exact path_re (G := given kp29 [(3, 4, .call (ag [vb b1, vf (us l1)]) none), (3, 5, .call (ag [vb false, vf (us (Sp.limI 1))]) none), (3, 6, .call (vb b2) none)] []) 1000 [false] (asm := [(bif bif !Sp.val s a then true else !Sp.val t b then true else n1 != 1) == false, true, true]) (vb b2) (by kernel_rfl) (bc (beq_f (fun h => d7 ((i_bor (i_bor (i_not (i_var _)) (i_not (i_var _))) i_ne).1 h))) (bc rfl (bc rfl b0))) q0 (ce k8 (ce (@ev71 ) (ce k9 c0))) H
noncomputable abbrev zNwH2 (r : Rat) := bif !Sp.isSq r.num then true else !Sp.isSq (↑r.den : Int)
theorem rRSqrt (fa ga : Bool) (r : Rat)  (dq : AV) (H :
  (Sp.okS r.num) /\
  (Sp.okS (↑r.den : Int)) /\
  (((¬(Sp.isSq r.num = true)) \/ (¬(Sp.isSq (↑r.den : Int) = true))) -> Weak (tu [ag [vb false, AV.vnil, vb false, AV.vnil], vb false]) dq) /\
  (¬((¬(Sp.isSq r.num = true)) \/ (¬(Sp.isSq (↑r.den : Int) = true))) -> Weak (tu [ag [vb (Sp.isNeg (Sp.sq r.num)), vf (us (Sp.limI (Sp.sq r.num))), vb (Sp.isNeg (Sp.sq (↑r.den : Int))), vf (us (Sp.limI (Sp.sq (↑r.den : Int))))], vb true]) dq)) :
 rRSqrt_at fa ga r (PureQ dq) := by
 unfold rRSqrt_at
 obtain ⟨k1, H⟩ := H
 obtain ⟨k2, H⟩ := H
 refine path_wp (G := given kp118 [(1, 2, .call (tu [bigA false (Sp.sq r.num), vb (Sp.isSq r.num)]) none), (2, 2, .call (tu [bigA false (Sp.sq (↑r.den : Int)), vb (Sp.isSq (↑r.den : Int))]) none)] []) 9 [] ⟨(atC (cd Tryz.f118) [1, 1, 1, 0, 1]), [(2, AV.ptr 1 0 0 0), (4, AV.ptr 2 0 0 0), (6, AV.ptr 3 0 0 0), (25, vb (zNwH2 r))], [⟨[ratA fa ga r], 4, 0, false, false⟩, ⟨[ag [vb false, AV.vnil, vb false, AV.vnil]], 4, 0, false, false⟩, ⟨[bigA false (Sp.sq r.num)], 2, 0, false, false⟩, ⟨[bigA false (Sp.sq (↑r.den : Int))], 2, 0, false, false⟩], _, [], _⟩ (by kernel_rfl) (bc rfl (bc rfl (bc rfl (bc rfl b0)))) q0 (ce (@ev128 (fa) (r.num) k1) (ce (@ev128 (ga) ((↑r.den : Int)) k2) c0)) ?_
 rcases xm ((¬(Sp.isSq r.num = true)) \/ (¬(Sp.isSq (↑r.den : Int) = true))) with d4 | d4
 ·have H := H.1 d4
  exact path_rq (G := given kp118 [] []) 1000 [true] (asm := [(zNwH2 r) == true, true]) (tu [ag [vb false, AV.vnil, vb false, AV.vnil], vb false]) (by kernel_rfl) (bc (beq_t ((i_bor (i_not (i_var _)) (i_not (i_var _))).2 d4)) (bc rfl b0)) q0 c0 H
 ·have H := H.2 d4
  exact path_rq (G := given kp118 [] []) 1000 [false] (asm := [(zNwH2 r) == false, true, true, true]) (tu [ag [vb (Sp.isNeg (Sp.sq r.num)), vf (us (Sp.limI (Sp.sq r.num))), vb (Sp.isNeg (Sp.sq (↑r.den : Int))), vf (us (Sp.limI (Sp.sq (↑r.den : Int))))], vb true]) (by kernel_rfl) (bc (beq_f (fun h => d4 ((i_bor (i_not (i_var _)) (i_not (i_var _))).1 h))) (bc rfl (bc rfl (bc rfl b0)))) q0 c0 H
end Go.Av

namespace Go.Av
open Go.Proofs
set_option maxRecDepth 100000
end Go.Av

namespace Go.Av
open Go.Proofs
def Sp.okA (a b : List Int) : Prop := (a.length <= 90000 /\ ∀ x ∈ a, 0 <= x) /\ (b.length <= 90000 /\ ∀ x ∈ b, 0 <= x)
noncomputable def Sp.valB (s : Bool) (a : List Int) (t : Bool) (b : List Int) : Bool := @decide (Sp.valR s a t b) (Classical.propDecidable _)
theorem valB_true {s t : Bool} {a b : List Int} : Sp.valB s a t b = true ↔ Sp.valR s a t b := @decide_eq_true_iff _ (Classical.propDecidable _)
theorem valB_false {s t : Bool} {a b : List Int} (h : ¬Sp.valR s a t b) : Sp.valB s a t b = false := @decide_eq_false _ (Classical.propDecidable _) h
theorem valB_eq {s t c : Bool} {a b : List Int} (h : c = true ↔ Sp.valR s a t b) : Sp.valB s a t b = c := by
 cases c with
 | true => exact valB_true.2 (h.1 rfl)
 | false => exact valB_false fun k => absurd (h.2 k) (by simp)
theorem okA_big {p q : Int} (h : Sp.okA (Sp.limI p) (Sp.limI q)) : Sp.cnt p.natAbs <= 90000 /\ Sp.cnt q.natAbs <= 90000 := by
 obtain ⟨⟨h1, _⟩, ⟨h2, _⟩⟩ := h
 rw [limI_len] at h1 h2
 exact ⟨h1, h2⟩
theorem cnt_gcd {p q : Int} (h : q ≠ 0) : Sp.cnt ((p.gcd q : Nat) : Int).natAbs <= Sp.cnt q.natAbs :=
 cnt_mono (Nat.le_of_dvd (by omega) (Int.gcd_dvd_natAbs_right p q))
end Go.Av

namespace Go.Av
open Go.Proofs
theorem ev18 (n : Int) (h : Sp.inI n) : Ev M1 (.pure 18 [.int .i64 n]) (ratA false false (Sp.qi n)) [] := by
 rw [qi_eq]
 refine call18 (rRFrom _ _ ⟨h, ?_⟩)
 show Weak _ (AV.agg [.bool (Sp.isNeg (n : Rat).num), .vec false 1 ((Sp.limI (n : Rat).num).map (.int .u32)), .bool (Sp.isNeg ((n : Rat).den : Int)), .vec false 1 ((Sp.limI ((n : Rat).den : Int)).map (.int .u32))])
 rw [Rat.num_intCast, Rat.den_intCast]
 exact .refl _
theorem ev17 (fa ga fb gb : Bool) (r s : Rat) (h : Sp.okR r /\ Sp.okR s) : Ev M1 (.pure 17 [ratA fa ga r, ratA fb gb s]) (ratA false false (r + s)) [] := by
 obtain ⟨hr, hs⟩ := h
 obtain ⟨r1, r2⟩ := okR_B hr
 obtain ⟨s1, s2⟩ := okR_B hs
 obtain ⟨cr1, cr2⟩ := hr
 obtain ⟨cs1, cs2⟩ := hs
 have m1 := cnt_mulI cr1 (cnt_den cs2)
 have m2 := cnt_mulI cs1 (cnt_den cr2)
 have m3 := cnt_mulI (cnt_den cr2) (cnt_den cs2)
 have a1 := cnt_addI m1 m2
 refine call17 (rRAdd _ _ _ _ _ _ _ ⟨⟨r1, s2⟩, ⟨s1, r2⟩, ⟨by unfold Sp.okB; omega, by unfold Sp.okB; omega⟩, ⟨r2, s2⟩, ⟨by omega, by omega, Int.mul_ne_zero (den_ne r) (den_ne s)⟩, ?_⟩)
 rw [rat_add]; exact .refl _
theorem ev32 (fa ga fb gb : Bool) (r s : Rat) (h : Sp.okR r /\ Sp.okR s) : Ev M1 (.pure 32 [ratA fa ga r, ratA fb gb s]) (ratA false false (r * s)) [] := by
 obtain ⟨hr, hs⟩ := h
 obtain ⟨r1, r2⟩ := okR_B hr
 obtain ⟨s1, s2⟩ := okR_B hs
 obtain ⟨cr1, cr2⟩ := hr
 obtain ⟨cs1, cs2⟩ := hs
 have m1 := cnt_mulI cr1 cs1
 have m3 := cnt_mulI (cnt_den cr2) (cnt_den cs2)
 refine call32 (rRMul _ _ _ _ _ _ _ ⟨⟨r1, s1⟩, ⟨r2, s2⟩, ⟨by omega, by omega, Int.mul_ne_zero (den_ne r) (den_ne s)⟩, ?_⟩)
 rw [rat_mul]; exact .refl _
theorem ev14 (fa fb : Bool) (a b : Int) (h : Sp.cnt a.natAbs <= 399000 /\ Sp.cnt b.natAbs <= 399000 /\ b ≠ 0) : Ev M1 (.pure 14 [bigA fa a, bigA fb b]) (.tup [ratA false false (Rat.divInt a b), .int .i64 0]) [] :=
 call14 (rRMake _ _ _ _ _ ⟨fun k => absurd (sgnI_zero.1 k) h.2.2, fun _ => ⟨h, .refl _⟩⟩)
def Sp.okF (n d : Int) : Prop := Sp.inI n /\ Sp.inI d /\ d ≠ 0
noncomputable def Sp.qf (n d : Int) : Rat := Sp.hid (Rat.divInt n d)
theorem qf_eq (n d : Int) : Sp.qf n d = Rat.divInt n d := hid_eq _
theorem inI_cnt {n : Int} (h : Sp.inI n) : Sp.cnt n.natAbs <= 3 := by
 unfold Sp.inI at h
 exact cnt_u64 (by omega)
theorem ev43 (n d : Int) (h : Sp.okF n d) : Ev M1 (.pure 43 [.int .i64 n, .int .i64 d]) (ratA false false (Sp.qf n d)) [] := by
 obtain ⟨h1, h2, h3⟩ := h
 have c1 := inI_cnt h1
 have c2 := inI_cnt h2
 rw [qf_eq]
 exact call43 (rRFrac _ _ _ ⟨fun k => absurd k h3, fun _ => ⟨h1, h2, ⟨by omega, by omega, h3⟩, .refl _⟩⟩)
theorem ev29 (s fa t ga : Bool) (a b : List Int) (h : Sp.okA a b) : Ev M1 (.pure 29 [.agg [.bool s, .vec fa 1 (a.map (.int .u32)), .bool t, .vec ga 1 (b.map (.int .u32))]]) (.bool (Sp.valB s a t b)) [] := by
 have hs : Sp.short a.length /\ Sp.short b.length := by
  obtain ⟨⟨h1, _⟩, ⟨h2, _⟩⟩ := h
  unfold Sp.short; omega
 by_cases hv : Sp.val s a = true /\ Sp.val t b = true
 ·obtain ⟨p, rfl, rfl⟩ := val_big h.1.2 hv.1
  obtain ⟨q, rfl, rfl⟩ := val_big h.2.2 hv.2
  obtain ⟨o1, o2⟩ := okA_big h
  refine call29 (rRValid _ _ _ _ _ ⟨by unfold Sp.ok; omega, by unfold Sp.ok; omega, fun k => ?_, fun k => ⟨by omega, decide (((p.gcd q : Nat) : Int) = 1), ev12 _ _ _ 1 ⟨?_, by unfold Sp.ok; have := cnt_small (n := (1 : Int).natAbs) (by decide); omega⟩, ?_⟩⟩)
  ·rw [valB_false]
   rw [valR_pq]
   unfold Sp.sgnI at k
   (repeat' split at k) <;> omega
  ·have hq : 0 < q := by
    unfold Sp.sgnI at k
    (repeat' split at k) <;> omega
   have := cnt_gcd (p := p) (q := q) (by omega)
   unfold Sp.ok; omega
  ·congr 1
   refine (valB_eq ?_).symm
   have hq : 0 < q := by
    unfold Sp.sgnI at k
    (repeat' split at k) <;> omega
   rw [valR_pq, decide_eq_true_iff]
   omega
 ·have hn : ¬(Sp.valR s a t b) := fun k => hv (valR_val k)
  have hv' : ¬Sp.val s a = true \/ ¬Sp.val t b = true := by
   by_cases k : Sp.val s a = true
   ·exact .inr fun k2 => hv ⟨k, k2⟩
   ·exact .inl k
  refine call29 (rRValidA _ _ _ _ _ _ _ ⟨hs.1, fun _ => hs.2, 0, fun k => absurd hv' k, fun _ => ?_, fun k => absurd (.inl hv') k⟩)
  rw [valB_false hn]
theorem ev118_y (fa ga : Bool) (r : Rat) (h : Sp.okR r) (k : Sp.rsq r) : Ev M1 (.pure 118 [ratA fa ga r]) (.tup [ratA false false (Sp.rt r), .bool true]) [] := by
 obtain ⟨h1, h2⟩ := okR_S h
 obtain ⟨e1, e2⟩ := rt_num k
 refine call118 (rRSqrt _ _ _ _ ⟨h1, h2, fun x => ?_, fun _ => ?_⟩)
 ·rcases x with x | x
  ·exact absurd k.1 x
  ·exact absurd k.2 x
 ·show Weak _ (AV.tup [AV.agg [.bool (Sp.isNeg (Sp.rt r).num), .vec false 1 ((Sp.limI (Sp.rt r).num).map (.int .u32)), .bool (Sp.isNeg ((Sp.rt r).den : Int)), .vec false 1 ((Sp.limI ((Sp.rt r).den : Int)).map (.int .u32))], .bool true])
  rw [e1, e2]; exact .refl _
theorem ev118_n (fa ga : Bool) (r : Rat) (h : Sp.okR r) (k : ¬(Sp.rsq r)) : Ev M1 (.pure 118 [ratA fa ga r]) (.tup [noR, .bool false]) [] := by
 obtain ⟨h1, h2⟩ := okR_S h
 refine call118 (rRSqrt _ _ _ _ ⟨h1, h2, fun _ => weak_two weak_nr (.refl _), fun x => ?_⟩)
 have x1 : Sp.isSq r.num = true := Classical.byContradiction fun y => x (.inl y)
 have x2 : Sp.isSq (r.den : Int) = true := Classical.byContradiction fun y => x (.inr y)
 exact absurd ⟨x1, x2⟩ k
end Go.Av

namespace Go.Av
open Go.Proofs
set_option maxRecDepth 100000
def fi19 : Fi := ⟨23, [.tmp 4]⟩
def kp19 : List (Nat × List Nat) := [(0, [1, 2]), (1, [4])]
def fi30 : Fi := ⟨9, [.cell 4 26]⟩
def kp30 : List (Nat × List Nat) := [(0, [2, 3, 4]), (1, [4])]
def fi88 : Fi := ⟨19, [.cell 4 26, .tmp 5]⟩
def kp88 : List (Nat × List Nat) := [(0, [2, 3, 4]), (1, [4, 5])]
def rRSmall_at (s fa t ga : Bool) (a b : List Int) (n : Int) (Q : AV -> Heap -> Prop) : Prop := Wp M1 (.run fi19 (atC (cd Tryz.f19) []) [(0, .agg [.bool s, .vec fa 1 (a.map (.int .u32)), .bool t, .vec ga 1 (b.map (.int .u32))]), (1, .int .i64 n)] []) Q
def rRSub_at (fa ga fb gb : Bool) (r s : Rat) (Q : AV -> Heap -> Prop) : Prop := Wp M1 (.run fi30 (atC (cd Tryz.f30) []) [(0, .agg [.bool (Sp.isNeg r.num), .vec fa 1 ((Sp.limI r.num).map (.int .u32)), .bool (Sp.isNeg (r.den : Int)), .vec ga 1 ((Sp.limI (r.den : Int)).map (.int .u32))]), (1, .agg [.bool (Sp.isNeg s.num), .vec fb 1 ((Sp.limI s.num).map (.int .u32)), .bool (Sp.isNeg (s.den : Int)), .vec gb 1 ((Sp.limI (s.den : Int)).map (.int .u32))])] []) Q
def rRDiv_at (fa ga fb gb : Bool) (r s : Rat) (Q : AV -> Heap -> Prop) : Prop := Wp M1 (.run fi88 (atC (cd Tryz.f88) []) [(0, .agg [.bool (Sp.isNeg r.num), .vec fa 1 ((Sp.limI r.num).map (.int .u32)), .bool (Sp.isNeg (r.den : Int)), .vec ga 1 ((Sp.limI (r.den : Int)).map (.int .u32))]), (1, .agg [.bool (Sp.isNeg s.num), .vec fb 1 ((Sp.limI s.num).map (.int .u32)), .bool (Sp.isNeg (s.den : Int)), .vec gb 1 ((Sp.limI (s.den : Int)).map (.int .u32))])] []) Q
theorem call19 {args : List AV} {d : AV} (h : wc M1 fi19 Tryz.f19 args d) : Ev M1 (.pure 19 args) d [] := pcl _ _ (by kernel_rfl) h
theorem call30 {args : List AV} {d : AV} (h : wc M1 fi30 Tryz.f30 args d) : Ev M1 (.pure 30 args) d [] := pcl _ _ (by kernel_rfl) h
theorem call88 {args : List AV} {d : AV} (h : wc M1 fi88 Tryz.f88 args d) : Ev M1 (.pure 88 args) d [] := pcl _ _ (by kernel_rfl) h
theorem rRSmall (s fa t ga : Bool) (a b : List Int) (n : Int)  (dq : AV) (H :
  ((((↑a.length : Int) <= n) /\ ((↑b.length : Int) <= n)) -> (Sp.okA a b)) /\
  vb (bif bif decide ((↑a.length : Int) <= n) then decide ((↑b.length : Int) <= n) else false then Sp.valB s a t b else false) = dq) :
 rRSmall_at s fa t ga a b n (PureQ dq) := by
 unfold rRSmall_at
 have w1 : (us a).length = a.length := List.length_map ..
 have w2 : (us b).length = b.length := List.length_map ..
 have i3 : ((bif decide ((↑(us a).length : Int) <= n) then decide ((↑(us b).length : Int) <= n) else false) == true && true && true) = true ↔ (((↑a.length : Int) <= n) /\ ((↑b.length : Int) <= n)) := (by (try rw [w1]); (try rw [w2]); all_goals exact (i_at (i_at (i_bt (i_band i_dec i_dec)))))
 obtain ⟨k4, H⟩ := H
 exact path_re (G := given kp19 [(1, 16, .call (vb (Sp.valB s a t b)) none)] []) 1000 [] (asm := [true, !(decide ((↑(us a).length : Int) <= n) == true && true) || true, !((bif decide ((↑(us a).length : Int) <= n) then decide ((↑(us b).length : Int) <= n) else false) == true && true) || true]) (calls := [⟨(bif decide ((↑(us a).length : Int) <= n) then decide ((↑(us b).length : Int) <= n) else false) == true && true && true, false, 29, [ag [vb s, AV.vec fa 1 (us a), vb t, AV.vec ga 1 (us b)]], [], vb (Sp.valB s a t b), []⟩]) (vb (bif bif decide ((↑(us a).length : Int) <= n) then decide ((↑(us b).length : Int) <= n) else false then Sp.valB s a t b else false)) (by kernel_rfl) (bc rfl (bc (Bool.or_true _) (bc (Bool.or_true _) b0))) q0 (cc (fun hc => ((@ev29 (s) (fa) (t) (ga) (a) (b) (k4 (i3.1 hc))) : Ev M1 (Conf.pure 29 [ag [vb s, AV.vec fa 1 (us a), vb t, AV.vec ga 1 (us b)]]) (vb (Sp.valB s a t b)) [])) c0) (by (try rw [w1]); (try rw [w2]); all_goals exact H)
theorem rRSub (fa ga fb gb : Bool) (r s : Rat)  (dq : AV) (H :
  (Sp.ok s.num) /\
  (Sp.okR r /\ Sp.okR (-s)) /\
  Weak (ratA false false (r + -s)) dq) :
 rRSub_at fa ga fb gb r s (PureQ dq) := by
 unfold rRSub_at
 obtain ⟨k1, H⟩ := H
 obtain ⟨k2, H⟩ := H
 exact path_rq (G := given kp30 [(1, 2, .call (ratA false false (-s)) none), (1, 3, .call (ratA false false (r + -s)) none)] []) 1000 [] (ratA false false (r + -s)) (by kernel_rfl) (bc rfl (bc rfl (bc rfl b0))) q0 (ce (@ev70 (fb) (gb) (s) k1) (ce (@ev17 (fa) (ga) (false) (false) (r) (-s) k2) c0)) H
theorem rRDiv (fa ga fb gb : Bool) (r s : Rat)  (dq : AV) (H :
  (Sp.okB r.num /\ Sp.okB (↑s.den : Int)) /\
  (Sp.okB (↑r.den : Int) /\ Sp.okB s.num) /\
  (Sp.cnt (r.num * (↑s.den : Int)).natAbs <= 399000 /\ Sp.cnt ((↑r.den : Int) * s.num).natAbs <= 399000 /\ (↑r.den : Int) * s.num ≠ 0) /\
  Weak (tu [ratA false false (Rat.divInt (r.num * (↑s.den : Int)) ((↑r.den : Int) * s.num)), vi 0]) dq) :
 rRDiv_at fa ga fb gb r s (PureQ dq) := by
 unfold rRDiv_at
 obtain ⟨k1, H⟩ := H
 obtain ⟨k2, H⟩ := H
 obtain ⟨k3, H⟩ := H
 exact path_rq (G := given kp88 [(1, 4, .call (bigA false (r.num * (↑s.den : Int))) none), (1, 9, .call (bigA false ((↑r.den : Int) * s.num)) none), (1, 10, .call (tu [ratA false false (Rat.divInt (r.num * (↑s.den : Int)) ((↑r.den : Int) * s.num)), vi 0]) none)] []) 1000 [] (tu [ratA false false (Rat.divInt (r.num * (↑s.den : Int)) ((↑r.den : Int) * s.num)), vi 0]) (by kernel_rfl) (bc rfl (bc rfl (bc rfl (bc rfl (bc rfl b0))))) q0 (ce (@ev60 (fa) (gb) (r.num) ((↑s.den : Int)) k1) (ce (@ev60 (ga) (fb) ((↑r.den : Int)) (s.num) k2) (ce (@ev14 (false) (false) (r.num * (↑s.den : Int)) ((↑r.den : Int) * s.num) k3) c0))) H
end Go.Av

namespace Go.Av
open Go.Proofs
def Sp.okU (n : Int) (a b : List Int) : Prop := n <= 90000 /\ (∀ x ∈ a, 0 <= x) /\ (∀ x ∈ b, 0 <= x)
noncomputable def Sp.smallB (n : Int) (s : Bool) (a : List Int) (t : Bool) (b : List Int) : Bool := bif bif decide ((a.length : Int) <= n) then decide ((b.length : Int) <= n) else false then Sp.valB s a t b else false
theorem ev19 (s fa t ga : Bool) (a b : List Int) (n : Int) (h : Sp.okU n a b) : Ev M1 (.pure 19 [.agg [.bool s, .vec fa 1 (a.map (.int .u32)), .bool t, .vec ga 1 (b.map (.int .u32))], .int .i64 n]) (.bool (Sp.smallB n s a t b)) [] := by
 obtain ⟨h1, h2, h3⟩ := h
 exact call19 (rRSmall _ _ _ _ _ _ _ _ ⟨fun k => ⟨⟨by omega, h2⟩, ⟨by omega, h3⟩⟩, rfl⟩)
theorem smallB_iff {n : Int} {s t : Bool} {a b : List Int} : Sp.smallB n s a t b = true ↔ (a.length : Int) <= n /\ (b.length : Int) <= n /\ Sp.valR s a t b := by
 unfold Sp.smallB
 by_cases h1 : (a.length : Int) <= n
 ·rw [decide_eq_true h1, cond_true]
  by_cases h2 : (b.length : Int) <= n
  ·rw [decide_eq_true h2, cond_true, valB_true]
   exact ⟨fun h => ⟨h1, h2, h⟩, fun h => h.2.2⟩
  ·rw [decide_eq_false h2, cond_false]
   exact ⟨fun h => absurd h (by simp), fun h => absurd h.2.1 h2⟩
 ·rw [decide_eq_false h1, cond_false, cond_false]
  exact ⟨fun h => absurd h (by simp), fun h => absurd h.1 h1⟩
theorem ev30 (fa ga fb gb : Bool) (r s : Rat) (h : Sp.okR r /\ Sp.okR s) : Ev M1 (.pure 30 [ratA fa ga r, ratA fb gb s]) (ratA false false (r - s)) [] := by
 refine call30 (rRSub _ _ _ _ _ _ _ ⟨?_, ⟨h.1, okR_neg h.2⟩, ?_⟩)
 ·have := h.2.1; unfold Sp.ok; omega
 ·rw [<- Rat.sub_eq_add_neg]; exact .refl _
theorem ev88 (fa ga fb gb : Bool) (r s : Rat) (h : Sp.okR r /\ Sp.okR s /\ s.num ≠ 0) : Ev M1 (.pure 88 [ratA fa ga r, ratA fb gb s]) (.tup [ratA false false (r / s), .int .i64 0]) [] := by
 obtain ⟨hr, hs, h0⟩ := h
 obtain ⟨r1, r2⟩ := okR_B hr
 obtain ⟨s1, s2⟩ := okR_B hs
 obtain ⟨cr1, cr2⟩ := hr
 obtain ⟨cs1, cs2⟩ := hs
 have m1 := cnt_mulI cr1 (cnt_den cs2)
 have m3 := cnt_mulI (cnt_den cr2) cs1
 refine call88 (rRDiv _ _ _ _ _ _ _ ⟨⟨r1, s2⟩, ⟨r2, s1⟩, ⟨by omega, by omega, Int.mul_ne_zero (den_ne r) h0⟩, ?_⟩)
 rw [rat_div]; exact .refl _
end Go.Av

namespace Go.Av
open Go.Proofs
set_option maxRecDepth 100000
def fi22 : Fi := ⟨24, [.tmp 4]⟩
def kp22 : List (Nat × List Nat) := [(0, [2, 3]), (1, [4])]
def fi59 : Fi := ⟨6, [.cell 2 26]⟩
def kp59 : List (Nat × List Nat) := [(0, [1, 2]), (1, [2])]
def fi72 : Fi := ⟨17, [.cell 2 26]⟩
def kp72 : List (Nat × List Nat) := [(0, [1, 2]), (1, [2])]
def fi82 : Fi := ⟨2, [.cell 0 26]⟩
def kp82 : List (Nat × List Nat) := [(0, [0]), (1, [0])]
def fi83 : Fi := ⟨26, [.cell 4 26, .tmp 5]⟩
def kp83 : List (Nat × List Nat) := [(0, [2, 3, 4]), (1, [2, 3, 4, 9]), (2, [4, 5]), (3, [4, 5])]
def fi112 : Fi := ⟨2, [.cell 0 26]⟩
def kp112 : List (Nat × List Nat) := [(0, [0]), (1, [0])]
def fi116 : Fi := ⟨2, [.cell 0 26]⟩
def kp116 : List (Nat × List Nat) := [(0, [0]), (1, [0])]
def oZero_at  (Q : AV -> Heap -> Prop) : Prop := Wp M1 (.run fi112 (atC (cd Tryz.f112) []) [] []) Q
def pZero_at  (Q : AV -> Heap -> Prop) : Prop := Wp M1 (.run fi116 (atC (cd Tryz.f116) []) [] []) Q
def pOne_at  (Q : AV -> Heap -> Prop) : Prop := Wp M1 (.run fi82 (atC (cd Tryz.f82) []) [] []) Q
def oNorm_at (f1 f2 f3 f4 f5 f6 : Bool) (a b c : Rat) (Q : AV -> Heap -> Prop) : Prop := Wp M1 (.run fi72 (atC (cd Tryz.f72) []) [(0, .agg [.bool (Sp.isNeg a.num), .vec f1 1 ((Sp.limI a.num).map (.int .u32)), .bool (Sp.isNeg (a.den : Int)), .vec f2 1 ((Sp.limI (a.den : Int)).map (.int .u32)), .bool (Sp.isNeg b.num), .vec f3 1 ((Sp.limI b.num).map (.int .u32)), .bool (Sp.isNeg (b.den : Int)), .vec f4 1 ((Sp.limI (b.den : Int)).map (.int .u32)), .bool (Sp.isNeg c.num), .vec f5 1 ((Sp.limI c.num).map (.int .u32)), .bool (Sp.isNeg (c.den : Int)), .vec f6 1 ((Sp.limI (c.den : Int)).map (.int .u32))])] []) Q
def pSquare_at (f1 f2 : Bool) (a : Rat) (Q : AV -> Heap -> Prop) : Prop := Wp M1 (.run fi59 (atC (cd Tryz.f59) []) [(0, .agg [.bool (Sp.isNeg a.num), .vec f1 1 ((Sp.limI a.num).map (.int .u32)), .bool (Sp.isNeg (a.den : Int)), .vec f2 1 ((Sp.limI (a.den : Int)).map (.int .u32))])] []) Q
def oCommon_at (f1 f2 f3 f4 f5 f6 g1 g2 g3 g4 g5 g6 : Bool) (a b c x y z : Rat) (Q : AV -> Heap -> Prop) : Prop := Wp M1 (.run fi83 (atC (cd Tryz.f83) []) [(0, .agg [.bool (Sp.isNeg a.num), .vec f1 1 ((Sp.limI a.num).map (.int .u32)), .bool (Sp.isNeg (a.den : Int)), .vec f2 1 ((Sp.limI (a.den : Int)).map (.int .u32)), .bool (Sp.isNeg b.num), .vec f3 1 ((Sp.limI b.num).map (.int .u32)), .bool (Sp.isNeg (b.den : Int)), .vec f4 1 ((Sp.limI (b.den : Int)).map (.int .u32)), .bool (Sp.isNeg c.num), .vec f5 1 ((Sp.limI c.num).map (.int .u32)), .bool (Sp.isNeg (c.den : Int)), .vec f6 1 ((Sp.limI (c.den : Int)).map (.int .u32))]), (1, .agg [.bool (Sp.isNeg x.num), .vec g1 1 ((Sp.limI x.num).map (.int .u32)), .bool (Sp.isNeg (x.den : Int)), .vec g2 1 ((Sp.limI (x.den : Int)).map (.int .u32)), .bool (Sp.isNeg y.num), .vec g3 1 ((Sp.limI y.num).map (.int .u32)), .bool (Sp.isNeg (y.den : Int)), .vec g4 1 ((Sp.limI (y.den : Int)).map (.int .u32)), .bool (Sp.isNeg z.num), .vec g5 1 ((Sp.limI z.num).map (.int .u32)), .bool (Sp.isNeg (z.den : Int)), .vec g6 1 ((Sp.limI (z.den : Int)).map (.int .u32))])] []) Q
def pSame_at (f1 f2 f3 f4 f5 f6 g1 g2 g3 g4 g5 g6 : Bool) (a b c x y z : Rat) (Q : AV -> Heap -> Prop) : Prop := Wp M1 (.run fi22 (atC (cd Tryz.f22) []) [(0, .agg [.bool (Sp.isNeg a.num), .vec f1 1 ((Sp.limI a.num).map (.int .u32)), .bool (Sp.isNeg (a.den : Int)), .vec f2 1 ((Sp.limI (a.den : Int)).map (.int .u32)), .bool (Sp.isNeg b.num), .vec f3 1 ((Sp.limI b.num).map (.int .u32)), .bool (Sp.isNeg (b.den : Int)), .vec f4 1 ((Sp.limI (b.den : Int)).map (.int .u32)), .bool (Sp.isNeg c.num), .vec f5 1 ((Sp.limI c.num).map (.int .u32)), .bool (Sp.isNeg (c.den : Int)), .vec f6 1 ((Sp.limI (c.den : Int)).map (.int .u32))]), (1, .agg [.bool (Sp.isNeg x.num), .vec g1 1 ((Sp.limI x.num).map (.int .u32)), .bool (Sp.isNeg (x.den : Int)), .vec g2 1 ((Sp.limI (x.den : Int)).map (.int .u32)), .bool (Sp.isNeg y.num), .vec g3 1 ((Sp.limI y.num).map (.int .u32)), .bool (Sp.isNeg (y.den : Int)), .vec g4 1 ((Sp.limI (y.den : Int)).map (.int .u32)), .bool (Sp.isNeg z.num), .vec g5 1 ((Sp.limI z.num).map (.int .u32)), .bool (Sp.isNeg (z.den : Int)), .vec g6 1 ((Sp.limI (z.den : Int)).map (.int .u32))])] []) Q
def pSameN_at  (Q : AV -> Heap -> Prop) : Prop := Wp M1 (.run fi22 (atC (cd Tryz.f22) []) [(0, .agg [.bool false, .vec false 1 [], .bool false, .vec false 1 [], .bool false, .vec false 1 [], .bool false, .vec false 1 [], .bool false, .vec false 1 [], .bool false, .vec false 1 []]), (1, .agg [.bool false, .vec false 1 [], .bool false, .vec false 1 [], .bool false, .vec false 1 [], .bool false, .vec false 1 [], .bool false, .vec false 1 [], .bool false, .vec false 1 []])] []) Q
theorem call22 {args : List AV} {d : AV} (h : wc M1 fi22 Tryz.f22 args d) : Ev M1 (.pure 22 args) d [] := pcl _ _ (by kernel_rfl) h
theorem call59 {args : List AV} {d : AV} (h : wc M1 fi59 Tryz.f59 args d) : Ev M1 (.pure 59 args) d [] := pcl _ _ (by kernel_rfl) h
theorem call72 {args : List AV} {d : AV} (h : wc M1 fi72 Tryz.f72 args d) : Ev M1 (.pure 72 args) d [] := pcl _ _ (by kernel_rfl) h
theorem call82 {args : List AV} {d : AV} (h : wc M1 fi82 Tryz.f82 args d) : Ev M1 (.pure 82 args) d [] := pcl _ _ (by kernel_rfl) h
theorem call83 {args : List AV} {d : AV} (h : wc M1 fi83 Tryz.f83 args d) : Ev M1 (.pure 83 args) d [] := pcl _ _ (by kernel_rfl) h
theorem call112 {args : List AV} {d : AV} (h : wc M1 fi112 Tryz.f112 args d) : Ev M1 (.pure 112 args) d [] := pcl _ _ (by kernel_rfl) h
theorem call116 {args : List AV} {d : AV} (h : wc M1 fi116 Tryz.f116 args d) : Ev M1 (.pure 116 args) d [] := pcl _ _ (by kernel_rfl) h
theorem oZero   (dq : AV) (H :
  (Sp.inI 0) /\
  Weak (ratA false false (Sp.qi 0)) dq) :
 oZero_at  (PureQ dq) := by
 unfold oZero_at
 obtain ⟨k1, H⟩ := H
 exact path_rq (G := given kp112 [(1, 0, .call (ratA false false (Sp.qi 0)) none)] []) 1000 [] (ratA false false (Sp.qi 0)) (by kernel_rfl) (bc rfl b0) q0 (ce (@ev87 (0) k1) c0) H
theorem pZero   (dq : AV) (H :
  (Sp.inI 0) /\
  Weak (ratA false false (Sp.qi 0)) dq) :
 pZero_at  (PureQ dq) := by
 unfold pZero_at
 obtain ⟨k1, H⟩ := H
 exact path_rq (G := given kp116 [(1, 0, .call (ratA false false (Sp.qi 0)) none)] []) 1000 [] (ratA false false (Sp.qi 0)) (by kernel_rfl) (bc rfl b0) q0 (ce (@ev18 (0) k1) c0) H
theorem pOne   (dq : AV) (H :
  (Sp.inI 1) /\
  Weak (ratA false false (Sp.qi 1)) dq) :
 pOne_at  (PureQ dq) := by
 unfold pOne_at
 obtain ⟨k1, H⟩ := H
 exact path_rq (G := given kp82 [(1, 0, .call (ratA false false (Sp.qi 1)) none)] []) 1000 [] (ratA false false (Sp.qi 1)) (by kernel_rfl) (bc rfl b0) q0 (ce (@ev18 (1) k1) c0) H
theorem oNorm (f1 f2 f3 f4 f5 f6 : Bool) (a b c : Rat)  (dq : AV) (H :
  (Sp.okR a /\ Sp.okR a) /\
  (Sp.okR b /\ Sp.okR b) /\
  (Sp.okR (b * b) /\ Sp.okR c) /\
  (Sp.okR (a * a) /\ Sp.okR (b * b * c)) /\
  Weak (ratA false false (a * a - b * b * c)) dq) :
 oNorm_at f1 f2 f3 f4 f5 f6 a b c (PureQ dq) := by
 unfold oNorm_at
 obtain ⟨k1, H⟩ := H
 obtain ⟨k2, H⟩ := H
 obtain ⟨k3, H⟩ := H
 obtain ⟨k4, H⟩ := H
 exact path_rq (G := given kp72 [(1, 4, .call (ratA false false (a * a)) none), (1, 9, .call (ratA false false (b * b)) none), (1, 12, .call (ratA false false (b * b * c)) none), (1, 13, .call (ratA false false (a * a - b * b * c)) none)] []) 1000 [] (ratA false false (a * a - b * b * c)) (by kernel_rfl) (bc rfl (bc rfl (bc rfl (bc rfl (bc rfl (bc rfl b0)))))) q0 (ce (@ev50 (f1) (f2) (f1) (f2) (a) (a) k1) (ce (@ev50 (f3) (f4) (f3) (f4) (b) (b) k2) (ce (@ev50 (false) (false) (f5) (f6) (b * b) (c) k3) (ce (@ev111 (false) (false) (false) (false) (a * a) (b * b * c) k4) c0)))) H
theorem pSquare (f1 f2 : Bool) (a : Rat)  (dq : AV) (H :
  (Sp.okR a /\ Sp.okR a) /\
  Weak (ratA false false (a * a)) dq) :
 pSquare_at f1 f2 a (PureQ dq) := by
 unfold pSquare_at
 obtain ⟨k1, H⟩ := H
 exact path_rq (G := given kp59 [(1, 2, .call (ratA false false (a * a)) none)] []) 1000 [] (ratA false false (a * a)) (by kernel_rfl) (bc rfl (bc rfl (bc rfl b0))) q0 (ce (@ev32 (f1) (f2) (f1) (f2) (a) (a) k1) c0) H
theorem oCommon (f1 f2 f3 f4 f5 f6 g1 g2 g3 g4 g5 g6 : Bool) (a b c x y z : Rat)  (dq : AV) (H :
  ((Sp.sgnI b.num = 0) -> Weak (tu [ratA g5 g6 z, vb true]) dq) /\
  (¬(Sp.sgnI b.num = 0) -> ((¬(Sp.sgnI y.num = 0)) -> (Sp.okR c /\ Sp.okR z)) /\
   Weak (tu [ratA f5 f6 c, vb (bif Sp.sgnI y.num == 0 then true else Sp.sgnI (c.num * (↑z.den : Int) - z.num * (↑c.den : Int)) == 0)]) dq)) :
 oCommon_at f1 f2 f3 f4 f5 f6 g1 g2 g3 g4 g5 g6 a b c x y z (PureQ dq) := by
 unfold oCommon_at
 refine path_wp (G := given kp83 [(1, 2, .call (vi (Sp.sgnI b.num)) none)] []) 5 [] ⟨(atC (cd Tryz.f83) [1, 0, 1]), [(2, AV.ptr 0 0 0 0), (3, AV.ptr 1 0 0 0), (4, AV.ptr 2 0 0 0), (9, vb (Sp.sgnI b.num == 0))], [⟨[ag [vb (Sp.isNeg a.num), AV.vec f1 1 (us (Sp.limI a.num)), vb (Sp.isNeg (↑a.den : Int)), AV.vec f2 1 (us (Sp.limI (↑a.den : Int))), vb (Sp.isNeg b.num), AV.vec f3 1 (us (Sp.limI b.num)), vb (Sp.isNeg (↑b.den : Int)), AV.vec f4 1 (us (Sp.limI (↑b.den : Int))), vb (Sp.isNeg c.num), AV.vec f5 1 (us (Sp.limI c.num)), vb (Sp.isNeg (↑c.den : Int)), AV.vec f6 1 (us (Sp.limI (↑c.den : Int)))]], 12, 0, false, false⟩, ⟨[ag [vb (Sp.isNeg x.num), AV.vec g1 1 (us (Sp.limI x.num)), vb (Sp.isNeg (↑x.den : Int)), AV.vec g2 1 (us (Sp.limI (↑x.den : Int))), vb (Sp.isNeg y.num), AV.vec g3 1 (us (Sp.limI y.num)), vb (Sp.isNeg (↑y.den : Int)), AV.vec g4 1 (us (Sp.limI (↑y.den : Int))), vb (Sp.isNeg z.num), AV.vec g5 1 (us (Sp.limI z.num)), vb (Sp.isNeg (↑z.den : Int)), AV.vec g6 1 (us (Sp.limI (↑z.den : Int)))]], 12, 0, false, false⟩, ⟨[ag [vb false, AV.vnil, vb false, AV.vnil]], 4, 0, false, false⟩], _, [], _⟩ (by kernel_rfl) (bc rfl b0) q0 (ce (@ev48 (f3) (f4) (b.num) ((↑b.den : Int))) c0) ?_
 rcases xm (Sp.sgnI b.num = 0) with d2 | d2
 ·have H := H.1 d2
  exact path_rq (G := given kp83 [] []) 1000 [true] (tu [ratA g5 g6 z, vb true]) (by kernel_rfl) (bc (beq_t (i_eq.2 d2)) (bc rfl (bc rfl b0))) q0 c0 H
 ·have H := H.2 d2
  obtain ⟨k4, H⟩ := H
  exact path_rq (G := given kp83 [(3, 4, .call (vi (Sp.sgnI y.num)) none), (3, 11, .call (vi (Sp.sgnI (c.num * (↑z.den : Int) - z.num * (↑c.den : Int)))) none)] []) 1000 [false] (asm := [(Sp.sgnI b.num == 0) == false, true, true, !((Sp.sgnI y.num == 0) == false && true) || true, !((Sp.sgnI y.num == 0) == false && true) || true, true]) (calls := [⟨true, false, 48, [ratA g3 g4 y], [], vi (Sp.sgnI y.num), []⟩, ⟨(Sp.sgnI y.num == 0) == false && true && true, false, 114, [ratA f5 f6 c, ratA g5 g6 z], [], vi (Sp.sgnI (c.num * (↑z.den : Int) - z.num * (↑c.den : Int))), []⟩]) (tu [ratA f5 f6 c, vb (bif Sp.sgnI y.num == 0 then true else Sp.sgnI (c.num * (↑z.den : Int) - z.num * (↑c.den : Int)) == 0)]) (by kernel_rfl) (bc (beq_f (fun h => d2 (i_eq.1 h))) (bc rfl (bc rfl (bc (Bool.or_true _) (bc (Bool.or_true _) (bc rfl b0)))))) q0 (cc (fun _ => (@ev48 (g3) (g4) (y.num) ((↑y.den : Int)))) (cc (fun hc => ((@ev114 (f5) (f6) (g5) (g6) (c) (z) (k4 ((i_at (i_at (i_bf i_eq))).1 hc))) : Ev M1 (Conf.pure 114 [ratA f5 f6 c, ratA g5 g6 z]) (vi (Sp.sgnI (c.num * (↑z.den : Int) - z.num * (↑c.den : Int)))) [])) c0)) H
theorem pSame (f1 f2 f3 f4 f5 f6 g1 g2 g3 g4 g5 g6 : Bool) (a b c x y z : Rat)  (dq : AV) (H :
  (Sp.okR a /\ Sp.okR x) /\
  ((a = x) -> (Sp.okR b /\ Sp.okR y)) /\
  (((a = x) /\ (b = y)) -> (Sp.okR c /\ Sp.okR z)) /\
  vb (bif bif decide (a = x) then decide (b = y) else false then decide (c = z) else false) = dq) :
 pSame_at f1 f2 f3 f4 f5 f6 g1 g2 g3 g4 g5 g6 a b c x y z (PureQ dq) := by
 unfold pSame_at
 obtain ⟨k1, H⟩ := H
 obtain ⟨k3, H⟩ := H
 obtain ⟨k5, H⟩ := H
 exact path_re (G := given kp22 [(1, 4, .call (vb (decide (a = x))) none), (1, 10, .call (vb (decide (b = y))) none), (1, 17, .call (vb (decide (c = z))) none)] []) 1000 [] (asm := [true, true, !(decide (a = x) == true && true) || true, !(decide (a = x) == true && true) || true, !((bif decide (a = x) then decide (b = y) else false) == true && true) || true, !((bif decide (a = x) then decide (b = y) else false) == true && true) || true]) (calls := [⟨true, false, 74, [ratA f1 f2 a, ratA g1 g2 x], [], vb (decide (a = x)), []⟩, ⟨decide (a = x) == true && true && true, false, 74, [ratA f3 f4 b, ratA g3 g4 y], [], vb (decide (b = y)), []⟩, ⟨(bif decide (a = x) then decide (b = y) else false) == true && true && true, false, 74, [ratA f5 f6 c, ratA g5 g6 z], [], vb (decide (c = z)), []⟩]) (vb (bif bif decide (a = x) then decide (b = y) else false then decide (c = z) else false)) (by kernel_rfl) (bc rfl (bc rfl (bc (Bool.or_true _) (bc (Bool.or_true _) (bc (Bool.or_true _) (bc (Bool.or_true _) b0)))))) q0 (cc (fun _ => (@ev74 (f1) (f2) (g1) (g2) (a) (x) k1)) (cc (fun hc => ((@ev74 (f3) (f4) (g3) (g4) (b) (y) (k3 ((i_at (i_at (i_bt i_dec))).1 hc))) : Ev M1 (Conf.pure 74 [ratA f3 f4 b, ratA g3 g4 y]) (vb (decide (b = y))) [])) (cc (fun hc => ((@ev74 (f5) (f6) (g5) (g6) (c) (z) (k5 ((i_at (i_at (i_bt (i_band i_dec i_dec)))).1 hc))) : Ev M1 (Conf.pure 74 [ratA f5 f6 c, ratA g5 g6 z]) (vb (decide (c = z))) [])) c0))) H
theorem pSameN   (dq : AV) (H :
  vb true = dq) :
 pSameN_at  (PureQ dq) := by
 unfold pSameN_at
 exact path_re (G := given kp22 [(1, 4, .call (vb true) none), (1, 10, .call (vb true) none), (1, 17, .call (vb true) none)] []) 1000 [] (vb true) (by kernel_rfl) (bc rfl (bc rfl (bc rfl (bc rfl (bc rfl (bc rfl b0)))))) q0 (ce (@ev74_a ) (ce (@ev74_a ) (ce (@ev74_a ) c0))) H
end Go.Av

namespace Go.Av
open Go.Proofs
abbrev rootA (f1 f2 f3 f4 f5 f6 : Bool) (a b c : Rat) : AV := .agg [.bool (Sp.isNeg a.num), .vec f1 1 ((Sp.limI a.num).map (.int .u32)), .bool (Sp.isNeg (a.den : Int)), .vec f2 1 ((Sp.limI (a.den : Int)).map (.int .u32)), .bool (Sp.isNeg b.num), .vec f3 1 ((Sp.limI b.num).map (.int .u32)), .bool (Sp.isNeg (b.den : Int)), .vec f4 1 ((Sp.limI (b.den : Int)).map (.int .u32)), .bool (Sp.isNeg c.num), .vec f5 1 ((Sp.limI c.num).map (.int .u32)), .bool (Sp.isNeg (c.den : Int)), .vec f6 1 ((Sp.limI (c.den : Int)).map (.int .u32))]
abbrev rootF (a b c : Rat) : AV := rootA false false false false false false a b c
theorem weak_rf {f1 f2 : Bool} (a : Rat) : Weak (ratA f1 f2 a) (ratA false false a) := weak_rat _ _ _ _ _ _
theorem weak_root {f1 f2 f3 f4 f5 f6 : Bool} (a b c : Rat) : Weak (rootA f1 f2 f3 f4 f5 f6 a b c) (rootF a b c) := by
 refine .agg _ _ rfl fun i x y hx hy => ?_
 match i with
 | 0 => simp at hx hy; subst hx; subst hy; exact .refl _
 | 1 => simp at hx hy; subst hx; subst hy; exact weak_vec _ _ _
 | 2 => simp at hx hy; subst hx; subst hy; exact .refl _
 | 3 => simp at hx hy; subst hx; subst hy; exact weak_vec _ _ _
 | 4 => simp at hx hy; subst hx; subst hy; exact .refl _
 | 5 => simp at hx hy; subst hx; subst hy; exact weak_vec _ _ _
 | 6 => simp at hx hy; subst hx; subst hy; exact .refl _
 | 7 => simp at hx hy; subst hx; subst hy; exact weak_vec _ _ _
 | 8 => simp at hx hy; subst hx; subst hy; exact .refl _
 | 9 => simp at hx hy; subst hx; subst hy; exact weak_vec _ _ _
 | 10 => simp at hx hy; subst hx; subst hy; exact .refl _
 | 11 => simp at hx hy; subst hx; subst hy; exact weak_vec _ _ _
 | i + 12 => simp at hx
theorem sgn_num {r : Rat} : Sp.sgnI r.num = 0 ↔ r = 0 := by rw [sgnI_zero, Rat.num_eq_zero]
def Sp.okT (k : Nat) (r : Rat) : Prop := Sp.cnt r.num.natAbs <= k /\ Sp.cnt r.den <= k
theorem okT_R {k : Nat} {r : Rat} (h : Sp.okT k r) (hk : k <= 90000) : Sp.okR r := ⟨Nat.le_trans h.1 hk, Nat.le_trans h.2 hk⟩
theorem okT_le {k m : Nat} {r : Rat} (h : Sp.okT k r) (hk : k <= m) : Sp.okT m r := ⟨Nat.le_trans h.1 hk, Nat.le_trans h.2 hk⟩
theorem divInt_le {p q : Int} (hq : q ≠ 0) : (Rat.divInt p q).num.natAbs <= p.natAbs /\ (Rat.divInt p q).den <= q.natAbs := by
 by_cases h : 0 < q
 ·obtain ⟨e1, e2⟩ := rat_pos (a := p) h
  have e3 : (Rat.divInt p q).den = ((q / ((p.gcd q : Nat) : Int))).natAbs := by omega
  rw [e1, e3]
  refine ⟨?_, ?_⟩
  ·rw [Int.natAbs_ediv_of_dvd (Int.gcd_dvd_left ..)]; exact Nat.div_le_self _ _
  ·rw [Int.natAbs_ediv_of_dvd (Int.gcd_dvd_right ..)]; exact Nat.div_le_self _ _
 ·obtain ⟨e1, e2⟩ := rat_neg (a := p) (b := q) (by omega)
  have e3 : (Rat.divInt p q).den = ((-q / (((-p).gcd (-q) : Nat) : Int))).natAbs := by omega
  rw [e1, e3]
  refine ⟨?_, ?_⟩
  ·rw [Int.natAbs_ediv_of_dvd (Int.gcd_dvd_left ..), Int.natAbs_neg]; exact Nat.div_le_self _ _
  ·rw [Int.natAbs_ediv_of_dvd (Int.gcd_dvd_right ..), Int.natAbs_neg]; exact Nat.div_le_self _ _
theorem okT_mul {k m : Nat} {r s : Rat} (h : Sp.okT k r) (h2 : Sp.okT m s) : Sp.okT (k + m) (r * s) := by
 have e := divInt_le (p := r.num * s.num) (q := (r.den : Int) * (s.den : Int)) (Int.mul_ne_zero (den_ne r) (den_ne s))
 rw [rat_mul] at e
 refine ⟨Nat.le_trans (cnt_mono e.1) (cnt_mulI h.1 h2.1), Nat.le_trans (cnt_mono e.2) (cnt_mulI (cnt_den h.2) (cnt_den h2.2))⟩
theorem okT_add {k m : Nat} {r s : Rat} (h : Sp.okT k r) (h2 : Sp.okT m s) : Sp.okT (k + m + 1) (r + s) := by
 have e := divInt_le (p := r.num * (s.den : Int) + s.num * (r.den : Int)) (q := (r.den : Int) * (s.den : Int)) (Int.mul_ne_zero (den_ne r) (den_ne s))
 rw [rat_add] at e
 have m1 := cnt_mulI h.1 (cnt_den h2.2)
 have m2 := cnt_mulI h2.1 (cnt_den h.2)
 have m3 := cnt_mulI (cnt_den h.2) (cnt_den h2.2)
 have := cnt_addI m1 (Nat.le_trans m2 (by omega))
 exact ⟨Nat.le_trans (cnt_mono e.1) this, Nat.le_trans (cnt_mono e.2) (Nat.le_trans m3 (by omega))⟩
theorem okT_neg {k : Nat} {r : Rat} (h : Sp.okT k r) : Sp.okT k (-r) := by
 unfold Sp.okT
 rw [Rat.neg_num, Rat.neg_den, Int.natAbs_neg]; exact h
theorem okT_sub {k m : Nat} {r s : Rat} (h : Sp.okT k r) (h2 : Sp.okT m s) : Sp.okT (k + m + 1) (r - s) := by
 rw [Rat.sub_eq_add_neg]; exact okT_add h (okT_neg h2)
theorem okT_rt {k : Nat} {r : Rat} (h : Sp.rsq r) (hr : Sp.okT k r) : Sp.okT k (Sp.rt r) := by
 obtain ⟨e1, e2⟩ := rt_num h
 obtain ⟨a1, a2⟩ := hr
 have h1 := (sq_le ((isSq_iff _).1 h.1).1).2
 have h2 := (sq_le ((isSq_iff _).1 h.2).1).2
 unfold Sp.okT
 rw [e1]
 have : (Sp.rt r).den = (Sp.sq (r.den : Int)).natAbs := by omega
 rw [this]
 exact ⟨Nat.le_trans (cnt_mono h1) a1, Nat.le_trans (cnt_mono h2) a2⟩
theorem okT_int {n : Int} (h : Sp.inI n) : Sp.okT 3 (Sp.qi n) := by
 rw [qi_eq]
 unfold Sp.okT
 rw [Rat.num_intCast, Rat.den_intCast]
 exact ⟨inI_cnt h, by have := cnt_small (n := 1) (by decide); omega⟩
theorem okT_zero : Sp.okT 1 (0 : Rat) := by
 have h0 : Sp.cnt ((0 : Rat).num.natAbs) = 0 := cnt_zero
 have h1 := cnt_small (n := 1) (by decide)
 have h2 : (0 : Rat).den = 1 := rfl
 unfold Sp.okT
 rw [h0, h2]
 omega
theorem ev112 : Ev M1 (.pure 112 []) (ratA false false (Sp.qi 0)) [] :=
 call112 (oZero _ ⟨by unfold Sp.inI; omega, .refl _⟩)
theorem ev116 : Ev M1 (.pure 116 []) (ratA false false (Sp.qi 0)) [] :=
 call116 (pZero _ ⟨by unfold Sp.inI; omega, .refl _⟩)
theorem ev82 : Ev M1 (.pure 82 []) (ratA false false (Sp.qi 1)) [] :=
 call82 (pOne _ ⟨by unfold Sp.inI; omega, .refl _⟩)
def Sp.okO (a b c : Rat) : Prop := Sp.okT 9000 a /\ Sp.okT 9000 b /\ Sp.okT 9000 c
def Sp.okP (a b : Rat) : Prop := Sp.okT 9000 a /\ Sp.okT 9000 b
theorem ev72 (f1 f2 f3 f4 f5 f6 : Bool) (a b c : Rat) (h : Sp.okO a b c) : Ev M1 (.pure 72 [rootA f1 f2 f3 f4 f5 f6 a b c]) (ratA false false (a * a - b * b * c)) [] := by
 obtain ⟨ha, hb, hc⟩ := h
 have aa := okT_mul ha ha
 have bb := okT_mul hb hb
 have bbc := okT_mul bb hc
 exact call72 (oNorm _ _ _ _ _ _ _ _ _ _ ⟨⟨okT_R ha (by omega), okT_R ha (by omega)⟩, ⟨okT_R hb (by omega), okT_R hb (by omega)⟩, ⟨okT_R bb (by omega), okT_R hc (by omega)⟩, ⟨okT_R aa (by omega), okT_R bbc (by omega)⟩, .refl _⟩)
def Sp.com (b c z : Rat) : Rat := if b = 0 then z else c
def Sp.isCom (b c y z : Rat) : Prop := b = 0 \/ y = 0 \/ c = z
instance (b c y z : Rat) : Decidable (Sp.isCom b c y z) := inferInstanceAs (Decidable (_ \/ _))
theorem cross {c z : Rat} : Sp.sgnI (c.num * (z.den : Int) - z.num * (c.den : Int)) = 0 ↔ c = z := by
 rw [sgnI_zero]
 constructor
 ·intro h
  have h1 : c.num * (z.den : Int) = z.num * (c.den : Int) := by omega
  have e := (Rat.divInt_eq_divInt_iff (den_ne c) (den_ne z)).2 h1
  rwa [Rat.num_divInt_den, Rat.num_divInt_den] at e
 ·intro h; subst h; omega
theorem com_bool (c y z : Rat) : (bif Sp.sgnI y.num == 0 then true else Sp.sgnI (c.num * (z.den : Int) - z.num * (c.den : Int)) == 0) = decide (y = 0 \/ c = z) := by
 by_cases h : y = 0
 ·rw [show (Sp.sgnI y.num == 0) = true from beq_iff_eq.2 (sgn_num.2 h), cond_true, decide_eq_true (.inl h)]
 ·rw [show (Sp.sgnI y.num == 0) = false from beq_eq_false_iff_ne.2 fun k => h (sgn_num.1 k), cond_false]
  by_cases k : c = z
  ·rw [decide_eq_true (.inr k)]; exact beq_iff_eq.2 (cross.2 k)
  ·rw [decide_eq_false (fun x => x.elim h k)]; exact beq_eq_false_iff_ne.2 fun x => k (cross.1 x)
theorem ev83 (f1 f2 f3 f4 f5 f6 g1 g2 g3 g4 g5 g6 : Bool) (a b c x y z : Rat) (h : Sp.okP c z) : Ev M1 (.pure 83 [rootA f1 f2 f3 f4 f5 f6 a b c, rootA g1 g2 g3 g4 g5 g6 x y z]) (.tup [ratA false false (Sp.com b c z), .bool (decide (Sp.isCom b c y z))]) [] := by
 refine call83 (oCommon _ _ _ _ _ _ _ _ _ _ _ _ _ _ _ _ _ _ _ ⟨fun k => ?_, fun k => ⟨fun _ => ⟨okT_R h.1 (by omega), okT_R h.2 (by omega)⟩, ?_⟩⟩)
 ·have k := sgn_num.1 k
  rw [show Sp.com b c z = z from if_pos k, decide_eq_true (show Sp.isCom b c y z from .inl k)]
  exact weak_two (weak_rf z) (.refl _)
 ·have k : ¬b = 0 := fun e => k (sgn_num.2 e)
  rw [show Sp.com b c z = c from if_neg k, com_bool]
  have : decide (Sp.isCom b c y z) = decide (y = 0 \/ c = z) := by
   unfold Sp.isCom
   congr 1
   exact propext ⟨fun x => x.resolve_left k, .inr⟩
  rw [this]
  exact weak_two (weak_rf c) (.refl _)
theorem ev59 (f1 f2 : Bool) (a : Rat) (h : Sp.okR a) : Ev M1 (.pure 59 [ratA f1 f2 a]) (ratA false false (a * a)) [] :=
 call59 (pSquare _ _ _ _ ⟨⟨h, h⟩, .refl _⟩)
theorem ev22 (f1 f2 f3 f4 f5 f6 g1 g2 g3 g4 g5 g6 : Bool) (a b c x y z : Rat) (h : Sp.okO a b c /\ Sp.okO x y z) : Ev M1 (.pure 22 [rootA f1 f2 f3 f4 f5 f6 a b c, rootA g1 g2 g3 g4 g5 g6 x y z]) (.bool (decide (a = x /\ b = y /\ c = z))) [] := by
 obtain ⟨⟨h1, h2, h3⟩, h4, h5, h6⟩ := h
 refine call22 (pSame _ _ _ _ _ _ _ _ _ _ _ _ _ _ _ _ _ _ _ ⟨⟨okT_R h1 (by omega), okT_R h4 (by omega)⟩, fun _ => ⟨okT_R h2 (by omega), okT_R h5 (by omega)⟩, fun _ => ⟨okT_R h3 (by omega), okT_R h6 (by omega)⟩, ?_⟩)
 congr 1
 by_cases e1 : a = x <;> by_cases e2 : b = y <;> by_cases e3 : c = z <;> simp [e1, e2, e3]
end Go.Av

namespace Go.Av
open Go.Proofs
set_option maxRecDepth 100000
def fi20 : Fi := ⟨29, [.tmp 2]⟩
def kp20 : List (Nat × List Nat) := [(0, [1]), (1, [1, 3, 4]), (2, [1, 3, 4, 11]), (3, [2]), (4, [1, 3, 4, 20]), (5, [2]), (6, [2])]
def fi73 : Fi := ⟨13, [.cell 2 26]⟩
def kp73 : List (Nat × List Nat) := [(0, [1, 2]), (1, [2])]
def fi76 : Fi := ⟨15, [.cell 6 28]⟩
def kp76 : List (Nat × List Nat) := [(0, [3, 4, 5, 6]), (1, [3, 4, 5, 6, 9]), (2, [3, 4, 5, 6]), (3, [6])]
def fi89 : Fi := ⟨7, [.cell 2 28]⟩
def kp89 : List (Nat × List Nat) := [(0, [1, 2]), (1, [2])]
def fi91 : Fi := ⟨7, [.cell 2 28]⟩
def kp91 : List (Nat × List Nat) := [(0, [1, 2]), (1, [2])]
def oFrom_at (f1 f2 : Bool) (a : Rat) (Q : AV -> Heap -> Prop) : Prop := Wp M1 (.run fi91 (atC (cd Tryz.f91) []) [(0, .agg [.bool (Sp.isNeg a.num), .vec f1 1 ((Sp.limI a.num).map (.int .u32)), .bool (Sp.isNeg (a.den : Int)), .vec f2 1 ((Sp.limI (a.den : Int)).map (.int .u32))])] []) Q
def pFrom_at (f1 f2 : Bool) (a : Rat) (Q : AV -> Heap -> Prop) : Prop := Wp M1 (.run fi89 (atC (cd Tryz.f89) []) [(0, .agg [.bool (Sp.isNeg a.num), .vec f1 1 ((Sp.limI a.num).map (.int .u32)), .bool (Sp.isNeg (a.den : Int)), .vec f2 1 ((Sp.limI (a.den : Int)).map (.int .u32))])] []) Q
def oRed_at (f1 f2 f3 f4 f5 f6 : Bool) (a b c : Rat) (Q : AV -> Heap -> Prop) : Prop := Wp M1 (.run fi76 (atC (cd Tryz.f76) []) [(0, .agg [.bool (Sp.isNeg a.num), .vec f1 1 ((Sp.limI a.num).map (.int .u32)), .bool (Sp.isNeg (a.den : Int)), .vec f2 1 ((Sp.limI (a.den : Int)).map (.int .u32))]), (1, .agg [.bool (Sp.isNeg b.num), .vec f3 1 ((Sp.limI b.num).map (.int .u32)), .bool (Sp.isNeg (b.den : Int)), .vec f4 1 ((Sp.limI (b.den : Int)).map (.int .u32))]), (2, .agg [.bool (Sp.isNeg c.num), .vec f5 1 ((Sp.limI c.num).map (.int .u32)), .bool (Sp.isNeg (c.den : Int)), .vec f6 1 ((Sp.limI (c.den : Int)).map (.int .u32))])] []) Q
def oSign_at (f1 f2 f3 f4 f5 f6 : Bool) (a b c : Rat) (Q : AV -> Heap -> Prop) : Prop := Wp M1 (.run fi20 (atC (cd Tryz.f20) []) [(0, .agg [.bool (Sp.isNeg a.num), .vec f1 1 ((Sp.limI a.num).map (.int .u32)), .bool (Sp.isNeg (a.den : Int)), .vec f2 1 ((Sp.limI (a.den : Int)).map (.int .u32)), .bool (Sp.isNeg b.num), .vec f3 1 ((Sp.limI b.num).map (.int .u32)), .bool (Sp.isNeg (b.den : Int)), .vec f4 1 ((Sp.limI (b.den : Int)).map (.int .u32)), .bool (Sp.isNeg c.num), .vec f5 1 ((Sp.limI c.num).map (.int .u32)), .bool (Sp.isNeg (c.den : Int)), .vec f6 1 ((Sp.limI (c.den : Int)).map (.int .u32))])] []) Q
def pNorm_at (f1 f2 f3 f4 f5 f6 : Bool) (a b c : Rat) (Q : AV -> Heap -> Prop) : Prop := Wp M1 (.run fi73 (atC (cd Tryz.f73) []) [(0, .agg [.bool (Sp.isNeg a.num), .vec f1 1 ((Sp.limI a.num).map (.int .u32)), .bool (Sp.isNeg (a.den : Int)), .vec f2 1 ((Sp.limI (a.den : Int)).map (.int .u32)), .bool (Sp.isNeg b.num), .vec f3 1 ((Sp.limI b.num).map (.int .u32)), .bool (Sp.isNeg (b.den : Int)), .vec f4 1 ((Sp.limI (b.den : Int)).map (.int .u32)), .bool (Sp.isNeg c.num), .vec f5 1 ((Sp.limI c.num).map (.int .u32)), .bool (Sp.isNeg (c.den : Int)), .vec f6 1 ((Sp.limI (c.den : Int)).map (.int .u32))])] []) Q
theorem call20 {args : List AV} {d : AV} (h : wc M1 fi20 Tryz.f20 args d) : Ev M1 (.pure 20 args) d [] := pcl _ _ (by kernel_rfl) h
theorem call73 {args : List AV} {d : AV} (h : wc M1 fi73 Tryz.f73 args d) : Ev M1 (.pure 73 args) d [] := pcl _ _ (by kernel_rfl) h
theorem call76 {args : List AV} {d : AV} (h : wc M1 fi76 Tryz.f76 args d) : Ev M1 (.pure 76 args) d [] := pcl _ _ (by kernel_rfl) h
theorem call89 {args : List AV} {d : AV} (h : wc M1 fi89 Tryz.f89 args d) : Ev M1 (.pure 89 args) d [] := pcl _ _ (by kernel_rfl) h
theorem call91 {args : List AV} {d : AV} (h : wc M1 fi91 Tryz.f91 args d) : Ev M1 (.pure 91 args) d [] := pcl _ _ (by kernel_rfl) h
theorem oFrom (f1 f2 : Bool) (a : Rat)  (dq : AV) (H :
  Weak (rootA f1 f2 false false false false a (Sp.qi 0) (Sp.qi 0)) dq) :
 oFrom_at f1 f2 a (PureQ dq) := by
 unfold oFrom_at
 exact path_rq (G := given kp91 [(1, 1, .call (ratA false false (Sp.qi 0)) none), (1, 2, .call (ratA false false (Sp.qi 0)) none)] []) 1000 [] (rootA f1 f2 false false false false a (Sp.qi 0) (Sp.qi 0)) (by kernel_rfl) (bc rfl (bc rfl b0)) q0 (ce (@ev112 ) (ce (@ev112 ) c0)) H
theorem pFrom (f1 f2 : Bool) (a : Rat)  (dq : AV) (H :
  Weak (rootA f1 f2 false false false false a (Sp.qi 0) (Sp.qi 0)) dq) :
 pFrom_at f1 f2 a (PureQ dq) := by
 unfold pFrom_at
 exact path_rq (G := given kp89 [(1, 1, .call (ratA false false (Sp.qi 0)) none), (1, 2, .call (ratA false false (Sp.qi 0)) none)] []) 1000 [] (rootA f1 f2 false false false false a (Sp.qi 0) (Sp.qi 0)) (by kernel_rfl) (bc rfl (bc rfl b0)) q0 (ce (@ev116 ) (ce (@ev116 ) c0)) H
theorem oRed (f1 f2 f3 f4 f5 f6 : Bool) (a b c : Rat)  (dq : AV) (H :
  ((Sp.sgnI b.num = 0) -> Weak (rootA f1 f2 f3 f4 false false a b (Sp.qi 0)) dq) /\
  (¬(Sp.sgnI b.num = 0) -> Weak (rootA f1 f2 f3 f4 f5 f6 a b c) dq)) :
 oRed_at f1 f2 f3 f4 f5 f6 a b c (PureQ dq) := by
 unfold oRed_at
 refine path_wp (G := given kp76 [(1, 1, .call (vi (Sp.sgnI b.num)) none)] []) 5 [] ⟨(atC (cd Tryz.f76) [1, 0, 1]), [(3, AV.ptr 0 0 0 0), (4, AV.ptr 1 0 0 0), (5, AV.ptr 2 0 0 0), (6, AV.ptr 3 0 0 0), (9, vb (Sp.sgnI b.num == 0))], [⟨[ratA f1 f2 a], 4, 0, false, false⟩, ⟨[ratA f3 f4 b], 4, 0, false, false⟩, ⟨[ratA f5 f6 c], 4, 0, false, false⟩, ⟨[ag [vb false, AV.vnil, vb false, AV.vnil, vb false, AV.vnil, vb false, AV.vnil, vb false, AV.vnil, vb false, AV.vnil]], 12, 0, false, false⟩], _, [], _⟩ (by kernel_rfl) (bc rfl b0) q0 (ce (@ev48 (f3) (f4) (b.num) ((↑b.den : Int))) c0) ?_
 rcases xm (Sp.sgnI b.num = 0) with d2 | d2
 ·have H := H.1 d2
  exact path_rq (G := given kp76 [(2, 0, .call (ratA false false (Sp.qi 0)) none)] []) 1000 [true] (asm := [(Sp.sgnI b.num == 0) == true, 0 == 0, true, true, true, true]) (rootA f1 f2 f3 f4 false false a b (Sp.qi 0)) (by kernel_rfl) (bc (beq_t (i_eq.2 d2)) (bc (beq_self_eq_true _) (bc rfl (bc rfl (bc rfl (bc rfl b0)))))) q0 (ce (@ev112 ) c0) H
 ·have H := H.2 d2
  exact path_rq (G := given kp76 [] []) 1000 [false] (rootA f1 f2 f3 f4 f5 f6 a b c) (by kernel_rfl) (bc (beq_f (fun h => d2 (i_eq.1 h))) (bc rfl (bc rfl (bc rfl (bc rfl b0))))) q0 c0 H
theorem oSign (f1 f2 f3 f4 f5 f6 : Bool) (a b c : Rat)  (dq : AV) (H :
  (((Sp.sgnI b.num = 0) \/ (Sp.sgnI a.num = Sp.sgnI b.num)) -> vi (Sp.sgnI a.num) = dq) /\
  (¬((Sp.sgnI b.num = 0) \/ (Sp.sgnI a.num = Sp.sgnI b.num)) -> ((Sp.sgnI a.num = 0) -> vi (Sp.sgnI b.num) = dq) /\
   (¬(Sp.sgnI a.num = 0) -> (Sp.okO a b c) /\
    (-9223372036854775808 <= Sp.sgnI a.num * Sp.sgnI (a * a - b * b * c).num /\ Sp.sgnI a.num * Sp.sgnI (a * a - b * b * c).num <= 9223372036854775807) /\
    vi (Sp.sgnI a.num * Sp.sgnI (a * a - b * b * c).num) = dq))) :
 oSign_at f1 f2 f3 f4 f5 f6 a b c (PureQ dq) := by
 unfold oSign_at
 refine path_wp (G := given kp20 [(1, 2, .call (vi (Sp.sgnI a.num)) none), (1, 5, .call (vi (Sp.sgnI b.num)) none)] []) 8 [] ⟨(atC (cd Tryz.f20) [1, 1, 0, 0, 1]), [(1, AV.ptr 0 0 0 0), (3, vi (Sp.sgnI a.num)), (4, vi (Sp.sgnI b.num)), (11, vb (bif Sp.sgnI b.num == 0 then true else Sp.sgnI a.num == Sp.sgnI b.num))], [⟨[rootA f1 f2 f3 f4 f5 f6 a b c], 12, 0, false, false⟩], _, [], _⟩ (by kernel_rfl) (bc rfl (bc rfl b0)) q0 (ce (@ev48 (f1) (f2) (a.num) ((↑a.den : Int))) (ce (@ev48 (f3) (f4) (b.num) ((↑b.den : Int))) c0)) ?_
 rcases xm ((Sp.sgnI b.num = 0) \/ (Sp.sgnI a.num = Sp.sgnI b.num)) with d2 | d2
 ·have H := H.1 d2
  exact path_re (G := given kp20 [] []) 1000 [true] (vi (Sp.sgnI a.num)) (by kernel_rfl) (bc (beq_t ((i_bor i_eq i_eq).2 d2)) b0) q0 c0 H
 ·have H := H.2 d2
  rcases xm (Sp.sgnI a.num = 0) with d4 | d4
  ·have H := H.1 d4
   exact path_re (G := given kp20 [] []) 1000 [false, true] (vi (Sp.sgnI b.num)) (by kernel_rfl) (bc (beq_f (fun h => d2 ((i_bor i_eq i_eq).1 h))) (bc (beq_t (i_eq.2 d4)) b0)) q0 c0 H
  ·have H := H.2 d4
   obtain ⟨k5, H⟩ := H
   obtain ⟨k6, H⟩ := H
   have w7 : wi (Sp.sgnI a.num * Sp.sgnI (a * a - b * b * c).num) = Sp.sgnI a.num * Sp.sgnI (a * a - b * b * c).num := wI64 k6
   exact path_re (G := given kp20 [(6, 2, .call (ratA false false (a * a - b * b * c)) none), (6, 3, .call (vi (Sp.sgnI (a * a - b * b * c).num)) none)] []) 1000 [false, false] (vi (wi (Sp.sgnI a.num * Sp.sgnI (a * a - b * b * c).num))) (by kernel_rfl) (bc (beq_f (fun h => d2 ((i_bor i_eq i_eq).1 h))) (bc (beq_f (fun h => d4 (i_eq.1 h))) (bc rfl b0))) q0 (ce (@ev72 (f1) (f2) (f3) (f4) (f5) (f6) (a) (b) (c) k5) (ce (@ev48 (false) (false) ((a * a - b * b * c).num) ((↑(a * a - b * b * c).den : Int))) c0)) (by (try rw [w7]); all_goals exact H)
theorem pNorm (f1 f2 f3 f4 f5 f6 : Bool) (a b c : Rat)  (dq : AV) (H :
  (Sp.okR a) /\
  (Sp.okR b) /\
  (Sp.okR (b * b) /\ Sp.okR c) /\
  (Sp.okR (a * a) /\ Sp.okR (b * b * c)) /\
  Weak (ratA false false (a * a - b * b * c)) dq) :
 pNorm_at f1 f2 f3 f4 f5 f6 a b c (PureQ dq) := by
 unfold pNorm_at
 obtain ⟨k1, H⟩ := H
 obtain ⟨k2, H⟩ := H
 obtain ⟨k3, H⟩ := H
 obtain ⟨k4, H⟩ := H
 exact path_rq (G := given kp73 [(1, 2, .call (ratA false false (a * a)) none), (1, 5, .call (ratA false false (b * b)) none), (1, 8, .call (ratA false false (b * b * c)) none), (1, 9, .call (ratA false false (a * a - b * b * c)) none)] []) 1000 [] (ratA false false (a * a - b * b * c)) (by kernel_rfl) (bc rfl (bc rfl (bc rfl (bc rfl b0)))) q0 (ce (@ev59 (f1) (f2) (a) k1) (ce (@ev59 (f3) (f4) (b) k2) (ce (@ev32 (false) (false) (f5) (f6) (b * b) (c) k3) (ce (@ev30 (false) (false) (false) (false) (a * a) (b * b * c) k4) c0)))) H
end Go.Av

namespace Go.Av
open Go.Proofs
theorem ev91 (f1 f2 : Bool) (a : Rat) : Ev M1 (.pure 91 [ratA f1 f2 a]) (rootF a (Sp.qi 0) (Sp.qi 0)) [] :=
 call91 (oFrom _ _ _ _ (weak_root a (Sp.qi 0) (Sp.qi 0)))
theorem ev89 (f1 f2 : Bool) (a : Rat) : Ev M1 (.pure 89 [ratA f1 f2 a]) (rootF a (Sp.qi 0) (Sp.qi 0)) [] :=
 call89 (pFrom _ _ _ _ (weak_root a (Sp.qi 0) (Sp.qi 0)))
noncomputable def Sp.rad (b c : Rat) : Rat := if b = 0 then Sp.qi 0 else c
theorem ev76 (f1 f2 f3 f4 f5 f6 : Bool) (a b c : Rat) : Ev M1 (.pure 76 [ratA f1 f2 a, ratA f3 f4 b, ratA f5 f6 c]) (rootF a b (Sp.rad b c)) [] := by
 refine call76 (oRed _ _ _ _ _ _ _ _ _ _ ⟨fun k => ?_, fun k => ?_⟩)
 ·rw [show Sp.rad b c = Sp.qi 0 from if_pos (sgn_num.1 k)]; exact weak_root a b (Sp.qi 0)
 ·rw [show Sp.rad b c = c from if_neg fun e => k (sgn_num.2 e)]; exact weak_root a b c
def Sp.sgR (r : Rat) : Int := Sp.sgnI r.num
noncomputable def Sp.sgO (a b c : Rat) : Int := if Sp.sgR b = 0 \/ Sp.sgR a = Sp.sgR b then Sp.sgR a else if Sp.sgR a = 0 then Sp.sgR b else Sp.sgR a * Sp.sgR (a * a - b * b * c)
theorem sgnI_le (n : Int) : -1 <= Sp.sgnI n /\ Sp.sgnI n <= 1 := by
 unfold Sp.sgnI
 (repeat' split) <;> omega
theorem sgn_bound {x y : Int} (hx : -1 <= x /\ x <= 1) (hy : -1 <= y /\ y <= 1) : -1 <= x * y /\ x * y <= 1 := by
 obtain ⟨x1, x2⟩ := hx
 rcases (by omega : x = -1 \/ x = 0 \/ x = 1) with e | e | e <;> subst e <;> omega
theorem ev20 (f1 f2 f3 f4 f5 f6 : Bool) (a b c : Rat) (h : Sp.okO a b c) : Ev M1 (.pure 20 [rootA f1 f2 f3 f4 f5 f6 a b c]) (.int .i64 (Sp.sgO a b c)) [] := by
 refine call20 (oSign _ _ _ _ _ _ _ _ _ _ ⟨fun k => ?_, fun k => ⟨fun k2 => ?_, fun k2 => ⟨h, ?_, ?_⟩⟩⟩)
 ·unfold Sp.sgO Sp.sgR; rw [if_pos k]
 ·unfold Sp.sgO Sp.sgR; rw [if_neg k, if_pos k2]
 ·have := sgn_bound (sgnI_le a.num) (sgnI_le (a * a - b * b * c).num)
  omega
 ·unfold Sp.sgO Sp.sgR; rw [if_neg k, if_neg k2]
theorem ev73 (f1 f2 f3 f4 f5 f6 : Bool) (a b c : Rat) (h : Sp.okO a b c) : Ev M1 (.pure 73 [rootA f1 f2 f3 f4 f5 f6 a b c]) (ratA false false (a * a - b * b * c)) [] := by
 obtain ⟨ha, hb, hc⟩ := h
 have aa := okT_mul ha ha
 have bb := okT_mul hb hb
 have bbc := okT_mul bb hc
 exact call73 (pNorm _ _ _ _ _ _ _ _ _ _ ⟨okT_R ha (by omega), okT_R hb (by omega), ⟨okT_R bb (by omega), okT_R hc (by omega)⟩, ⟨okT_R aa (by omega), okT_R bbc (by omega)⟩, .refl _⟩)
end Go.Av

namespace Go.Av
open Go.Proofs
set_option maxRecDepth 100000
def fi11 : Fi := ⟨69, [.cell 2 24]⟩
def kp11 : List (Nat × List Nat) := [(0, [1, 2]), (1, [1, 2, 15]), (2, [2]), (3, [1, 2, 3]), (4, [1, 2, 3, 4, 5]), (5, [1, 2, 4, 5, 6]), (6, [1, 2, 4, 5, 7]), (7, [1, 2, 4, 5, 7, 48]), (8, [1, 2, 4, 5, 7]), (9, [2, 9]), (10, [2])]
def fi25 : Fi := ⟨16, [.cell 4 28]⟩
def kp25 : List (Nat × List Nat) := [(0, [2, 3, 4]), (1, [4])]
def fi37 : Fi := ⟨47, [.cell 4 28, .tmp 5]⟩
def kp37 : List (Nat × List Nat) := [(0, [2, 3, 4]), (1, [2, 3, 4, 6, 7]), (2, [2, 3, 4, 6, 17]), (3, [4, 5]), (4, [2, 3, 4, 6, 8]), (5, [4, 6, 8, 9]), (6, [4, 5])]
def fi41 : Fi := ⟨6, [.cell 2 28]⟩
def kp41 : List (Nat × List Nat) := [(0, [0, 2]), (1, [2])]
def fi42 : Fi := ⟨30, [.cell 6 28, .tmp 7]⟩
def kp42 : List (Nat × List Nat) := [(0, [3, 4, 5, 6]), (1, [3, 4, 5, 6, 12]), (2, [6, 7]), (3, [3, 4, 5, 6, 8, 9]), (4, [3, 4, 5, 6, 8, 19]), (5, [6, 7]), (6, [6, 7])]
def fi77 : Fi := ⟨21, [.cell 6 28]⟩
def kp77 : List (Nat × List Nat) := [(0, [3, 4, 5, 6]), (1, [3, 4, 5, 6, 14]), (2, [6]), (3, [6])]
def pRed_at (f1 f2 f3 f4 f5 f6 : Bool) (a b c : Rat) (Q : AV -> Heap -> Prop) : Prop := Wp M1 (.run fi77 (atC (cd Tryz.f77) []) [(0, .agg [.bool (Sp.isNeg a.num), .vec f1 1 ((Sp.limI a.num).map (.int .u32)), .bool (Sp.isNeg (a.den : Int)), .vec f2 1 ((Sp.limI (a.den : Int)).map (.int .u32))]), (1, .agg [.bool (Sp.isNeg b.num), .vec f3 1 ((Sp.limI b.num).map (.int .u32)), .bool (Sp.isNeg (b.den : Int)), .vec f4 1 ((Sp.limI (b.den : Int)).map (.int .u32))]), (2, .agg [.bool (Sp.isNeg c.num), .vec f5 1 ((Sp.limI c.num).map (.int .u32)), .bool (Sp.isNeg (c.den : Int)), .vec f6 1 ((Sp.limI (c.den : Int)).map (.int .u32))])] []) Q
def pInt_at (n : Int) (Q : AV -> Heap -> Prop) : Prop := Wp M1 (.run fi41 (atC (cd Tryz.f41) []) [(0, .int .i64 n)] []) Q
def oMake_at (f1 f2 f3 f4 f5 f6 : Bool) (a b c : Rat) (Q : AV -> Heap -> Prop) : Prop := Wp M1 (.run fi42 (atC (cd Tryz.f42) []) [(0, .agg [.bool (Sp.isNeg a.num), .vec f1 1 ((Sp.limI a.num).map (.int .u32)), .bool (Sp.isNeg (a.den : Int)), .vec f2 1 ((Sp.limI (a.den : Int)).map (.int .u32))]), (1, .agg [.bool (Sp.isNeg b.num), .vec f3 1 ((Sp.limI b.num).map (.int .u32)), .bool (Sp.isNeg (b.den : Int)), .vec f4 1 ((Sp.limI (b.den : Int)).map (.int .u32))]), (2, .agg [.bool (Sp.isNeg c.num), .vec f5 1 ((Sp.limI c.num).map (.int .u32)), .bool (Sp.isNeg (c.den : Int)), .vec f6 1 ((Sp.limI (c.den : Int)).map (.int .u32))])] []) Q
def oMul_at (f1 f2 f3 f4 f5 f6 g1 g2 g3 g4 g5 g6 : Bool) (a b c x y z : Rat) (Q : AV -> Heap -> Prop) : Prop := Wp M1 (.run fi37 (atC (cd Tryz.f37) []) [(0, .agg [.bool (Sp.isNeg a.num), .vec f1 1 ((Sp.limI a.num).map (.int .u32)), .bool (Sp.isNeg (a.den : Int)), .vec f2 1 ((Sp.limI (a.den : Int)).map (.int .u32)), .bool (Sp.isNeg b.num), .vec f3 1 ((Sp.limI b.num).map (.int .u32)), .bool (Sp.isNeg (b.den : Int)), .vec f4 1 ((Sp.limI (b.den : Int)).map (.int .u32)), .bool (Sp.isNeg c.num), .vec f5 1 ((Sp.limI c.num).map (.int .u32)), .bool (Sp.isNeg (c.den : Int)), .vec f6 1 ((Sp.limI (c.den : Int)).map (.int .u32))]), (1, .agg [.bool (Sp.isNeg x.num), .vec g1 1 ((Sp.limI x.num).map (.int .u32)), .bool (Sp.isNeg (x.den : Int)), .vec g2 1 ((Sp.limI (x.den : Int)).map (.int .u32)), .bool (Sp.isNeg y.num), .vec g3 1 ((Sp.limI y.num).map (.int .u32)), .bool (Sp.isNeg (y.den : Int)), .vec g4 1 ((Sp.limI (y.den : Int)).map (.int .u32)), .bool (Sp.isNeg z.num), .vec g5 1 ((Sp.limI z.num).map (.int .u32)), .bool (Sp.isNeg (z.den : Int)), .vec g6 1 ((Sp.limI (z.den : Int)).map (.int .u32))])] []) Q
def oScale_at (f1 f2 f3 f4 f5 f6 : Bool) (k l : Bool) (a b c r : Rat) (Q : AV -> Heap -> Prop) : Prop := Wp M1 (.run fi25 (atC (cd Tryz.f25) []) [(0, .agg [.bool (Sp.isNeg a.num), .vec f1 1 ((Sp.limI a.num).map (.int .u32)), .bool (Sp.isNeg (a.den : Int)), .vec f2 1 ((Sp.limI (a.den : Int)).map (.int .u32)), .bool (Sp.isNeg b.num), .vec f3 1 ((Sp.limI b.num).map (.int .u32)), .bool (Sp.isNeg (b.den : Int)), .vec f4 1 ((Sp.limI (b.den : Int)).map (.int .u32)), .bool (Sp.isNeg c.num), .vec f5 1 ((Sp.limI c.num).map (.int .u32)), .bool (Sp.isNeg (c.den : Int)), .vec f6 1 ((Sp.limI (c.den : Int)).map (.int .u32))]), (1, .agg [.bool (Sp.isNeg r.num), .vec k 1 ((Sp.limI r.num).map (.int .u32)), .bool (Sp.isNeg (r.den : Int)), .vec l 1 ((Sp.limI (r.den : Int)).map (.int .u32))])] []) Q
def oFloor_at (f1 f2 f3 f4 f5 f6 : Bool) (a b c : Rat) (Q : AV -> Heap -> Prop) : Prop := Wp M1 (.run fi11 (atC (cd Tryz.f11) []) [(0, .agg [.bool (Sp.isNeg a.num), .vec f1 1 ((Sp.limI a.num).map (.int .u32)), .bool (Sp.isNeg (a.den : Int)), .vec f2 1 ((Sp.limI (a.den : Int)).map (.int .u32)), .bool (Sp.isNeg b.num), .vec f3 1 ((Sp.limI b.num).map (.int .u32)), .bool (Sp.isNeg (b.den : Int)), .vec f4 1 ((Sp.limI (b.den : Int)).map (.int .u32)), .bool (Sp.isNeg c.num), .vec f5 1 ((Sp.limI c.num).map (.int .u32)), .bool (Sp.isNeg (c.den : Int)), .vec f6 1 ((Sp.limI (c.den : Int)).map (.int .u32))])] []) Q
theorem call11 {args : List AV} {d : AV} (h : wc M1 fi11 Tryz.f11 args d) : Ev M1 (.pure 11 args) d [] := pcl _ _ (by kernel_rfl) h
theorem call25 {args : List AV} {d : AV} (h : wc M1 fi25 Tryz.f25 args d) : Ev M1 (.pure 25 args) d [] := pcl _ _ (by kernel_rfl) h
theorem call37 {args : List AV} {d : AV} (h : wc M1 fi37 Tryz.f37 args d) : Ev M1 (.pure 37 args) d [] := pcl _ _ (by kernel_rfl) h
theorem call41 {args : List AV} {d : AV} (h : wc M1 fi41 Tryz.f41 args d) : Ev M1 (.pure 41 args) d [] := pcl _ _ (by kernel_rfl) h
theorem call42 {args : List AV} {d : AV} (h : wc M1 fi42 Tryz.f42 args d) : Ev M1 (.pure 42 args) d [] := pcl _ _ (by kernel_rfl) h
theorem call77 {args : List AV} {d : AV} (h : wc M1 fi77 Tryz.f77 args d) : Ev M1 (.pure 77 args) d [] := pcl _ _ (by kernel_rfl) h
theorem pRed (f1 f2 f3 f4 f5 f6 : Bool) (a b c : Rat)  (dq : AV) (H :
  (((Sp.sgnI b.num = 0) \/ (Sp.sgnI c.num = 0)) -> Weak (rootF a (Sp.qi 0) (Sp.qi 0)) dq) /\
  (¬((Sp.sgnI b.num = 0) \/ (Sp.sgnI c.num = 0)) -> Weak (rootA f1 f2 f3 f4 f5 f6 a b c) dq)) :
 pRed_at f1 f2 f3 f4 f5 f6 a b c (PureQ dq) := by
 unfold pRed_at
 refine path_wp (G := given kp77 [(1, 1, .call (vi (Sp.sgnI b.num)) none), (1, 5, .call (vi (Sp.sgnI c.num)) none)] []) 5 [] ⟨(atC (cd Tryz.f77) [1, 0, 1]), [(3, AV.ptr 0 0 0 0), (4, AV.ptr 1 0 0 0), (5, AV.ptr 2 0 0 0), (6, AV.ptr 3 0 0 0), (14, vb (bif Sp.sgnI b.num == 0 then true else Sp.sgnI c.num == 0))], [⟨[ratA f1 f2 a], 4, 0, false, false⟩, ⟨[ratA f3 f4 b], 4, 0, false, false⟩, ⟨[ratA f5 f6 c], 4, 0, false, false⟩, ⟨[ag [vb false, AV.vnil, vb false, AV.vnil, vb false, AV.vnil, vb false, AV.vnil, vb false, AV.vnil, vb false, AV.vnil]], 12, 0, false, false⟩], [true, !((Sp.sgnI b.num == 0) == false && true) || true], [], [⟨true, false, 27, [ratA f3 f4 b], [], vi (Sp.sgnI b.num), []⟩, ⟨(Sp.sgnI b.num == 0) == false && true && true, false, 27, [ratA f5 f6 c], [], vi (Sp.sgnI c.num), []⟩]⟩ (by kernel_rfl) (bc rfl (bc (Bool.or_true _) b0)) q0 (cc (fun _ => (@ev27 (f3) (f4) (b.num) ((↑b.den : Int)))) (cc (fun hc => ((@ev27 (f5) (f6) (c.num) ((↑c.den : Int))) : Ev M1 (Conf.pure 27 [ratA f5 f6 c]) (vi (Sp.sgnI c.num)) [])) c0)) ?_
 rcases xm ((Sp.sgnI b.num = 0) \/ (Sp.sgnI c.num = 0)) with d3 | d3
 ·have H := H.1 d3
  exact path_rq (G := given kp77 [(2, 1, .call (rootF a (Sp.qi 0) (Sp.qi 0)) none)] []) 1000 [true] (rootF a (Sp.qi 0) (Sp.qi 0)) (by kernel_rfl) (bc (beq_t ((i_bor i_eq i_eq).2 d3)) (bc rfl (bc rfl b0))) q0 (ce (@ev89 (f1) (f2) (a)) c0) H
 ·have H := H.2 d3
  exact path_rq (G := given kp77 [] []) 1000 [false] (rootA f1 f2 f3 f4 f5 f6 a b c) (by kernel_rfl) (bc (beq_f (fun h => d3 ((i_bor i_eq i_eq).1 h))) (bc rfl (bc rfl (bc rfl (bc rfl b0))))) q0 c0 H
theorem pInt (n : Int)  (dq : AV) (H :
  (Sp.inI n) /\
  Weak (rootF (Sp.qi n) (Sp.qi 0) (Sp.qi 0)) dq) :
 pInt_at n (PureQ dq) := by
 unfold pInt_at
 obtain ⟨k1, H⟩ := H
 exact path_rq (G := given kp41 [(1, 1, .call (ratA false false (Sp.qi n)) none), (1, 2, .call (rootF (Sp.qi n) (Sp.qi 0) (Sp.qi 0)) none)] []) 1000 [] (rootF (Sp.qi n) (Sp.qi 0) (Sp.qi 0)) (by kernel_rfl) (bc rfl b0) q0 (ce (@ev18 (n) k1) (ce (@ev89 (false) (false) (Sp.qi n)) c0)) H
noncomputable abbrev zNxC1 := ag [vb false, AV.vnil, vb false, AV.vnil, vb false, AV.vnil, vb false, AV.vnil, vb false, AV.vnil, vb false, AV.vnil]
theorem oMake (f1 f2 f3 f4 f5 f6 : Bool) (a b c : Rat)  (dq : AV) (H :
  ((Sp.sgnI c.num < 0) -> Weak (tu [ag [vb false, AV.vnil, vb false, AV.vnil, vb false, AV.vnil, vb false, AV.vnil, vb false, AV.vnil, vb false, AV.vnil], vi 7]) dq) /\
  (¬(Sp.sgnI c.num < 0) -> ((Sp.rsq c) -> (Sp.okR c) /\
    (Sp.okR b /\ Sp.okR (Sp.rt c)) /\
    (Sp.okR a /\ Sp.okR (b * Sp.rt c)) /\
    Weak (tu [rootF (a + b * Sp.rt c) (Sp.qi 0) (Sp.qi 0), vi 0]) dq) /\
   (¬(Sp.rsq c) -> (Sp.okR c) /\
    Weak (tu [rootF a b (Sp.rad b c), vi 0]) dq))) :
 oMake_at f1 f2 f3 f4 f5 f6 a b c (PureQ dq) := by
 unfold oMake_at
 refine path_wp (G := given kp42 [(1, 1, .call (vi (Sp.sgnI c.num)) none)] []) 5 [] ⟨(atC (cd Tryz.f42) [1, 0, 1]), [(3, AV.ptr 0 0 0 0), (4, AV.ptr 1 0 0 0), (5, AV.ptr 2 0 0 0), (6, AV.ptr 3 0 0 0), (12, vb (decide (Sp.sgnI c.num < 0)))], [⟨[ratA f1 f2 a], 4, 0, false, false⟩, ⟨[ratA f3 f4 b], 4, 0, false, false⟩, ⟨[ratA f5 f6 c], 4, 0, false, false⟩, ⟨[zNxC1], 12, 0, false, false⟩], _, [], _⟩ (by kernel_rfl) (bc rfl b0) q0 (ce (@ev48 (f5) (f6) (c.num) ((↑c.den : Int))) c0) ?_
 rcases xm (Sp.sgnI c.num < 0) with d2 | d2
 ·have H := H.1 d2
  exact path_rq (G := given kp42 [] []) 1000 [true] (tu [zNxC1, vi 7]) (by kernel_rfl) (bc (beq_t (i_dec.2 d2)) (bc rfl b0)) q0 c0 H
 ·have H := H.2 d2
  rcases xm (Sp.rsq c) with d3 | d3
  ·have H := H.1 d3
   obtain ⟨k4, H⟩ := H
   obtain ⟨k5, H⟩ := H
   obtain ⟨k6, H⟩ := H
   exact path_rq (G := given kp42 [(3, 1, .call (tu [ratA false false (Sp.rt c), vb true]) none), (5, 3, .call (ratA false false (b * Sp.rt c)) none), (5, 4, .call (ratA false false (a + b * Sp.rt c)) none), (5, 5, .call (rootF (a + b * Sp.rt c) (Sp.qi 0) (Sp.qi 0)) none)] []) 1000 [false, true] (tu [rootF (a + b * Sp.rt c) (Sp.qi 0) (Sp.qi 0), vi 0]) (by kernel_rfl) (bc (beq_f (fun h => d2 (i_dec.1 h))) (bc rfl (bc rfl (bc rfl (bc rfl (bc rfl (bc rfl (bc rfl b0)))))))) q0 (ce (@ev90_y (f5) (f6) (c) k4 d3) (ce (@ev50 (f3) (f4) (false) (false) (b) (Sp.rt c) k5) (ce (@ev84 (f1) (f2) (false) (false) (a) (b * Sp.rt c) k6) (ce (@ev91 (false) (false) (a + b * Sp.rt c)) c0)))) H
  ·have H := H.2 d3
   obtain ⟨k7, H⟩ := H
   exact path_rq (G := given kp42 [(3, 1, .call (tu [ag [vb false, vf [], vb false, vf []], vb false]) none), (6, 3, .call (rootF a b (Sp.rad b c)) none)] []) 1000 [false, false] (tu [rootF a b (Sp.rad b c), vi 0]) (by kernel_rfl) (bc (beq_f (fun h => d2 (i_dec.1 h))) (bc rfl (bc rfl (bc rfl (bc rfl (bc rfl (bc rfl (bc rfl b0)))))))) q0 (ce (@ev90_n (f5) (f6) (c) k7 d3) (ce (@ev76 (f1) (f2) (f3) (f4) (f5) (f6) (a) (b) (c)) c0)) H
noncomputable abbrev zNxC3 := ag [vb false, AV.vnil, vb false, AV.vnil, vb false, AV.vnil, vb false, AV.vnil, vb false, AV.vnil, vb false, AV.vnil]
theorem oMul (f1 f2 f3 f4 f5 f6 g1 g2 g3 g4 g5 g6 : Bool) (a b c x y z : Rat)  (dq : AV) (H :
  (Sp.okP c z) /\
  ((¬(Sp.isCom b c y z)) -> Weak (tu [ag [vb false, AV.vnil, vb false, AV.vnil, vb false, AV.vnil, vb false, AV.vnil, vb false, AV.vnil, vb false, AV.vnil], vi 1]) dq) /\
  (¬(¬(Sp.isCom b c y z)) -> (Sp.okR a /\ Sp.okR x) /\
   (Sp.okR b /\ Sp.okR y) /\
   (Sp.okR (b * y) /\ Sp.okR (Sp.com b c z)) /\
   (Sp.okR (a * x) /\ Sp.okR (b * y * Sp.com b c z)) /\
   (Sp.okR a /\ Sp.okR y) /\
   (Sp.okR b /\ Sp.okR x) /\
   (Sp.okR (a * y) /\ Sp.okR (b * x)) /\
   Weak (tu [rootF (a * x + b * y * Sp.com b c z) (a * y + b * x) (Sp.rad (a * y + b * x) (Sp.com b c z)), vi 0]) dq)) :
 oMul_at f1 f2 f3 f4 f5 f6 g1 g2 g3 g4 g5 g6 a b c x y z (PureQ dq) := by
 unfold oMul_at
 obtain ⟨k1, H⟩ := H
 refine path_wp (G := given kp37 [(1, 2, .call (tu [ratA false false (Sp.com b c z), vb (decide (Sp.isCom b c y z))]) none)] []) 7 [] ⟨(atC (cd Tryz.f37) [1, 1, 0, 1]), [(2, AV.ptr 0 0 0 0), (3, AV.ptr 1 0 0 0), (4, AV.ptr 2 0 0 0), (6, AV.ptr 3 0 0 0), (17, vb !decide (Sp.isCom b c y z))], [⟨[rootA f1 f2 f3 f4 f5 f6 a b c], 12, 0, false, false⟩, ⟨[rootA g1 g2 g3 g4 g5 g6 x y z], 12, 0, false, false⟩, ⟨[zNxC3], 12, 0, false, false⟩, ⟨[ratA false false (Sp.com b c z)], 4, 0, false, false⟩], _, [], _⟩ (by kernel_rfl) (bc rfl (bc rfl (bc rfl b0))) q0 (ce (@ev83 (f1) (f2) (f3) (f4) (f5) (f6) (g1) (g2) (g3) (g4) (g5) (g6) (a) (b) (c) (x) (y) (z) k1) c0) ?_
 rcases xm (¬(Sp.isCom b c y z)) with d3 | d3
 ·have H := H.1 d3
  exact path_rq (G := given kp37 [] []) 1000 [true] (tu [zNxC3, vi 1]) (by kernel_rfl) (bc (beq_t ((i_not i_dec).2 d3)) (bc rfl b0)) q0 c0 H
 ·have H := H.2 d3
  obtain ⟨k4, H⟩ := H
  obtain ⟨k5, H⟩ := H
  obtain ⟨k6, H⟩ := H
  obtain ⟨k7, H⟩ := H
  obtain ⟨k8, H⟩ := H
  obtain ⟨k9, H⟩ := H
  obtain ⟨k10, H⟩ := H
  exact path_rq (G := given kp37 [(4, 4, .call (ratA false false (a * x)) none), (4, 9, .call (ratA false false (b * y)) none), (4, 11, .call (ratA false false (b * y * Sp.com b c z)) none), (4, 12, .call (ratA false false (a * x + b * y * Sp.com b c z)) none), (5, 4, .call (ratA false false (a * y)) none), (5, 9, .call (ratA false false (b * x)) none), (5, 10, .call (ratA false false (a * y + b * x)) none), (6, 3, .call (rootF (a * x + b * y * Sp.com b c z) (a * y + b * x) (Sp.rad (a * y + b * x) (Sp.com b c z))) none)] []) 1000 [false] (tu [rootF (a * x + b * y * Sp.com b c z) (a * y + b * x) (Sp.rad (a * y + b * x) (Sp.com b c z)), vi 0]) (by kernel_rfl) (bc (beq_f (fun h => d3 ((i_not i_dec).1 h))) (bc rfl (bc rfl (bc rfl (bc rfl (bc rfl (bc rfl (bc rfl (bc rfl (bc rfl (bc rfl (bc rfl (bc rfl (bc rfl (bc rfl (bc rfl b0)))))))))))))))) q0 (ce (@ev50 (f1) (f2) (g1) (g2) (a) (x) k4) (ce (@ev50 (f3) (f4) (g3) (g4) (b) (y) k5) (ce (@ev50 (false) (false) (false) (false) (b * y) (Sp.com b c z) k6) (ce (@ev84 (false) (false) (false) (false) (a * x) (b * y * Sp.com b c z) k7) (ce (@ev50 (f1) (f2) (g3) (g4) (a) (y) k8) (ce (@ev50 (f3) (f4) (g1) (g2) (b) (x) k9) (ce (@ev84 (false) (false) (false) (false) (a * y) (b * x) k10) (ce (@ev76 (false) (false) (false) (false) (false) (false) (a * x + b * y * Sp.com b c z) (a * y + b * x) (Sp.com b c z)) c0)))))))) H
theorem oScale (f1 f2 f3 f4 f5 f6 : Bool) (k l : Bool) (a b c r : Rat)  (dq : AV) (H :
  (Sp.okR a /\ Sp.okR r) /\
  (Sp.okR b /\ Sp.okR r) /\
  Weak (rootF (a * r) (b * r) (Sp.rad (b * r) c)) dq) :
 oScale_at f1 f2 f3 f4 f5 f6 k l a b c r (PureQ dq) := by
 unfold oScale_at
 obtain ⟨k1, H⟩ := H
 obtain ⟨k2, H⟩ := H
 exact path_rq (G := given kp25 [(1, 3, .call (ratA false false (a * r)) none), (1, 7, .call (ratA false false (b * r)) none), (1, 10, .call (rootF (a * r) (b * r) (Sp.rad (b * r) c)) none)] []) 1000 [] (rootF (a * r) (b * r) (Sp.rad (b * r) c)) (by kernel_rfl) (bc rfl (bc rfl (bc rfl (bc rfl (bc rfl (bc rfl b0)))))) q0 (ce (@ev50 (f1) (f2) (k) (l) (a) (r) k1) (ce (@ev50 (f3) (f4) (k) (l) (b) (r) k2) (ce (@ev76 (false) (false) (false) (false) (f5) (f6) (a * r) (b * r) (c)) c0))) H
noncomputable abbrev zNxC4 (a : Rat) (b : Rat) (c : Rat) := (↑a.den : Int) * (↑a.den : Int) * ((b * b * c).num * (↑(b * b * c).den : Int))
noncomputable abbrev zNxC5 (a : Rat) (b : Rat) (c : Rat) := Sp.flo (a.num * (↑(b * b * c).den : Int) + Sp.sq (zNxC4 a b c)) ((↑a.den : Int) * (↑(b * b * c).den : Int))
noncomputable abbrev zNxC6 (a : Rat) (b : Rat) (c : Rat) := Sp.flr (a.num * (↑(b * b * c).den : Int) + Sp.sq (zNxC4 a b c)) ((↑a.den : Int) * (↑(b * b * c).den : Int))
noncomputable abbrev zNxC7 (b4 : Bool) (l4 : List (Int)) (b5 : Bool) (l5 : List (Int)) (n1 : Int) := tu [ag [vb b4, vf (us l4)], ag [vb b5, vf (us l5)], vi n1]
noncomputable abbrev zNxC8 (b2 : Bool) (l2 : List (Int)) := ag [vb b2, vf (us l2)]
noncomputable abbrev zNxC9 (b3 : Bool) (l3 : List (Int)) := ag [vb b3, vf (us l3)]
theorem oFloor (f1 f2 f3 f4 f5 f6 : Bool) (a b c : Rat)  (dq : AV) (H :
  ((Sp.sgnI b.num = 0) -> (Sp.okB a.num /\ Sp.okB (↑a.den : Int)) /\
   Weak (bigA false (Sp.flo a.num (↑a.den : Int))) dq) /\
  (¬(Sp.sgnI b.num = 0) -> (Sp.okR b /\ Sp.okR b) /\
   (Sp.okR (b * b) /\ Sp.okR c) /\
   (Sp.okB (↑a.den : Int) /\ Sp.okB (↑a.den : Int)) /\
   (Sp.okB (b * b * c).num /\ Sp.okB (↑(b * b * c).den : Int)) /\
   (Sp.okB ((↑a.den : Int) * (↑a.den : Int)) /\ Sp.okB ((b * b * c).num * (↑(b * b * c).den : Int))) /\
   (Sp.okS ((↑a.den : Int) * (↑a.den : Int) * ((b * b * c).num * (↑(b * b * c).den : Int)))) /\
   ((Sp.sgnI b.num < 0) -> (Sp.inI 1) /\
    ∃ (b1 : Bool) (l1 : List (Int)),
    (Ev M1 (Conf.pure 54 [bigA false (Sp.sq ((↑a.den : Int) * (↑a.den : Int) * ((b * b * c).num * (↑(b * b * c).den : Int)))), ag [vb false, vf (us (Sp.limI 1))]]) (ag [vb b1, vf (us l1)]) []) /\
    ∃ (b2 : Bool) (l2 : List (Int)),
    (Ev M1 (Conf.pure 53 [ag [vb b1, vf (us l1)]]) (ag [vb b2, vf (us l2)]) []) /\
    (Sp.okB a.num /\ Sp.okB (↑(b * b * c).den : Int)) /\
    ∃ (b3 : Bool) (l3 : List (Int)),
    (Ev M1 (Conf.pure 54 [bigA false (a.num * (↑(b * b * c).den : Int)), ag [vb b2, vf (us l2)]]) (ag [vb b3, vf (us l3)]) []) /\
    (Sp.okB (↑a.den : Int) /\ Sp.okB (↑(b * b * c).den : Int)) /\
    ∃ (b4 : Bool) (l4 : List (Int)) (b5 : Bool) (l5 : List (Int)) (n1 : Int),
    (Ev M1 (Conf.pure 56 [ag [vb b3, vf (us l3)], bigA false ((↑a.den : Int) * (↑(b * b * c).den : Int))]) (tu [ag [vb b4, vf (us l4)], ag [vb b5, vf (us l5)], vi n1]) []) /\
    Weak (ag [vb b4, vf (us l4)]) dq) /\
   (¬(Sp.sgnI b.num < 0) -> (Sp.okB a.num /\ Sp.okB (↑(b * b * c).den : Int)) /\
    (Sp.okB (a.num * (↑(b * b * c).den : Int)) /\ Sp.okB (Sp.sq ((↑a.den : Int) * (↑a.den : Int) * ((b * b * c).num * (↑(b * b * c).den : Int))))) /\
    (Sp.okB (↑a.den : Int) /\ Sp.okB (↑(b * b * c).den : Int)) /\
    (Sp.okB (a.num * (↑(b * b * c).den : Int) + Sp.sq ((↑a.den : Int) * (↑a.den : Int) * ((b * b * c).num * (↑(b * b * c).den : Int)))) /\ Sp.okB ((↑a.den : Int) * (↑(b * b * c).den : Int)) /\ (↑a.den : Int) * (↑(b * b * c).den : Int) ≠ 0) /\
    Weak (bigA false (Sp.flo (a.num * (↑(b * b * c).den : Int) + Sp.sq ((↑a.den : Int) * (↑a.den : Int) * ((b * b * c).num * (↑(b * b * c).den : Int)))) ((↑a.den : Int) * (↑(b * b * c).den : Int)))) dq))) :
 oFloor_at f1 f2 f3 f4 f5 f6 a b c (PureQ dq) := by
 unfold oFloor_at
 refine path_wp (G := given kp11 [(1, 2, .call (vi (Sp.sgnI b.num)) none)] []) 5 [] ⟨(atC (cd Tryz.f11) [1, 0, 1]), [(1, AV.ptr 0 0 0 0), (2, AV.ptr 1 0 0 0), (15, vb (Sp.sgnI b.num == 0))], [⟨[rootA f1 f2 f3 f4 f5 f6 a b c], 12, 0, false, false⟩, ⟨[ag [vb false, AV.vnil]], 2, 0, false, false⟩], _, [], _⟩ (by kernel_rfl) (bc rfl b0) q0 (ce (@ev48 (f3) (f4) (b.num) ((↑b.den : Int))) c0) ?_
 rcases xm (Sp.sgnI b.num = 0) with d2 | d2
 ·have H := H.1 d2
  obtain ⟨k3, H⟩ := H
  exact path_rq (G := given kp11 [(2, 2, .call (bigA false (Sp.flo a.num (↑a.den : Int))) none)] []) 1000 [true] (bigA false (Sp.flo a.num (↑a.den : Int))) (by kernel_rfl) (bc (beq_t (i_eq.2 d2)) (bc rfl (bc rfl b0))) q0 (ce (@ev49 (f1) (f2) (a) k3) c0) H
 ·have H := H.2 d2
  obtain ⟨k4, H⟩ := H
  obtain ⟨k5, H⟩ := H
  refine path_wp (G := given kp11 [(3, 4, .call (ratA false false (b * b)) none), (3, 7, .call (ratA false false (b * b * c)) none)] [(4, [6008, 5007, 6006, 5005, 4004, 2002])]) 5 [false] ⟨(atC (cd Tryz.f11) [1, 1, 1, 0]), [(1, AV.ptr 0 0 0 0), (2, AV.ptr 1 0 0 0), (3, AV.ptr 2 0 0 0)], [⟨[rootA f1 f2 f3 f4 f5 f6 a b c], 12, 0, false, false⟩, ⟨[ag [vb false, AV.vnil]], 2, 0, false, false⟩, ⟨[ratA false false (b * b * c)], 4, 0, false, false⟩], _, [], _⟩ (by kernel_rfl) (bc (beq_f (fun h => d2 (i_eq.1 h))) (bc rfl (bc rfl (bc rfl (bc rfl b0))))) q0 (ce (@ev50 (f3) (f4) (f3) (f4) (b) (b) k4) (ce (@ev50 (false) (false) (f5) (f6) (b * b) (c) k5) c0)) (wp_both (G := given kp11 [(3, 4, .call (ratA false false (b * b)) none), (3, 7, .call (ratA false false (b * b * c)) none)] [(4, [6008, 5007, 6006, 5005, 4004, 2002])]) [0, 1, 2, 4, 3] 5 (e1 := [(1, AV.ptr 0 0 0 0), (2, AV.ptr 1 0 0 0), (3, AV.ptr 2 0 0 0), (4, AV.ptr 3 0 0 0), (5, AV.ptr 4 0 0 0)]) (L1 := [⟨[rootA f1 f2 f3 f4 f5 f6 a b c], 12, 0, false, false⟩, ⟨[ag [vb false, AV.vnil]], 2, 0, false, false⟩, ⟨[ratA false false (b * b * c)], 4, 0, false, false⟩, ⟨[bigA f2 (↑a.den : Int)], 2, 0, false, false⟩, ⟨[bigA false (↑(b * b * c).den : Int)], 2, 0, false, false⟩]) (a := [true, true, true, true]) (q := []) (cs := []) (by kernel_rfl) (by kernel_rfl) (allB_cons rfl (allB_cons rfl (allB_cons rfl (allB_cons rfl allB_nil)))) allP_nil allC_nil ?_)
  obtain ⟨k6, H⟩ := H
  obtain ⟨k7, H⟩ := H
  obtain ⟨k8, H⟩ := H
  obtain ⟨k9, H⟩ := H
  refine path_wp (G := given kp11 [(5, 2, .call (bigA false ((↑a.den : Int) * (↑a.den : Int))) none), (5, 6, .call (bigA false ((b * b * c).num * (↑(b * b * c).den : Int))) none), (5, 7, .call (bigA false (zNxC4 a b c)) none), (6, 1, .call (tu [bigA false (Sp.sq (zNxC4 a b c)), vi (Sp.sqe (zNxC4 a b c))]) none), (7, 2, .call (vi (Sp.sgnI b.num)) none)] []) 7 [] ⟨(atC (cd Tryz.f11) [1, 1, 1, 1, 1, 1, 0, 1]), [(1, AV.ptr 0 0 0 0), (2, AV.ptr 1 0 0 0), (4, AV.ptr 3 0 0 0), (5, AV.ptr 4 0 0 0), (7, AV.ptr 6 0 0 0), (48, vb (decide (Sp.sgnI b.num < 0)))], [⟨[rootA f1 f2 f3 f4 f5 f6 a b c], 12, 0, false, false⟩, ⟨[ag [vb false, AV.vnil]], 2, 0, false, false⟩, ⟨[ratA false false (b * b * c)], 4, 0, false, false⟩, ⟨[bigA f2 (↑a.den : Int)], 2, 0, false, false⟩, ⟨[bigA false (↑(b * b * c).den : Int)], 2, 0, false, false⟩, ⟨[bigA false (zNxC4 a b c)], 2, 0, false, false⟩, ⟨[bigA false (Sp.sq (zNxC4 a b c))], 2, 0, false, false⟩], _, [], _⟩ (by kernel_rfl) (bc rfl (bc rfl (bc rfl (bc rfl (bc rfl (bc rfl (bc rfl (bc rfl b0)))))))) q0 (ce (@ev51 (f2) (f2) ((↑a.den : Int)) ((↑a.den : Int)) k6) (ce (@ev51 (false) (false) ((b * b * c).num) ((↑(b * b * c).den : Int)) k7) (ce (@ev51 (false) (false) ((↑a.den : Int) * (↑a.den : Int)) ((b * b * c).num * (↑(b * b * c).den : Int)) k8) (ce (@ev52 (false) (zNxC4 a b c) k9) (ce (@ev48 (f3) (f4) (b.num) ((↑b.den : Int))) c0))))) ?_
  rcases xm (Sp.sgnI b.num < 0) with d11 | d11
  ·have H := H.1 d11
   obtain ⟨k12, H⟩ := H
   obtain ⟨b1, l1, H⟩ := H
   obtain ⟨k13, H⟩ := H
   obtain ⟨b2, l2, H⟩ := H
   obtain ⟨k14, H⟩ := H
   obtain ⟨k15, H⟩ := H
   obtain ⟨b3, l3, H⟩ := H
   obtain ⟨k16, H⟩ := H
   obtain ⟨k17, H⟩ := H
   obtain ⟨b4, l4, b5, l5, n1, H⟩ := H
   obtain ⟨k18, H⟩ := H
   refine path_wp (G := given kp11 [(8, 1, .call (ag [vb false, vf (us (Sp.limI 1))]) none), (8, 2, .call (ag [vb b1, vf (us l1)]) none), (8, 3, .call ((zNxC8 b2 l2)) none), (9, 4, .call (bigA false (a.num * (↑(b * b * c).den : Int))) none), (9, 6, .call ((zNxC9 b3 l3)) none), (9, 9, .call (bigA false ((↑a.den : Int) * (↑(b * b * c).den : Int))) none), (9, 10, .call ((zNxC7 b4 l4 b5 l5 n1)) none)] []) 3 [true] ⟨(atC (cd Tryz.f11) [1, 1, 1, 1, 1, 1, 1, 0]), [(1, AV.ptr 0 0 0 0), (2, AV.ptr 1 0 0 0), (4, AV.ptr 3 0 0 0), (5, AV.ptr 4 0 0 0), (7, AV.ptr 6 0 0 0)], [⟨[rootA f1 f2 f3 f4 f5 f6 a b c], 12, 0, false, false⟩, ⟨[ag [vb false, AV.vnil]], 2, 0, false, false⟩, ⟨[ratA false false (b * b * c)], 4, 0, false, false⟩, ⟨[bigA f2 (↑a.den : Int)], 2, 0, false, false⟩, ⟨[bigA false (↑(b * b * c).den : Int)], 2, 0, false, false⟩, ⟨[bigA false (zNxC4 a b c)], 2, 0, false, false⟩, ⟨[(zNxC8 b2 l2)], 2, 0, false, false⟩], _, [], _⟩ (by kernel_rfl) (bc (beq_t (i_dec.2 d11)) (bc rfl (bc rfl b0))) q0 (ce (@ev55 (1) k12) (ce k13 (ce k14 c0))) (wp_both (G := given kp11 [(8, 1, .call (ag [vb false, vf (us (Sp.limI 1))]) none), (8, 2, .call (ag [vb b1, vf (us l1)]) none), (8, 3, .call ((zNxC8 b2 l2)) none), (9, 4, .call (bigA false (a.num * (↑(b * b * c).den : Int))) none), (9, 6, .call ((zNxC9 b3 l3)) none), (9, 9, .call (bigA false ((↑a.den : Int) * (↑(b * b * c).den : Int))) none), (9, 10, .call ((zNxC7 b4 l4 b5 l5 n1)) none)] []) [0, 1, 2, 3, 4, 5, 6, 8, 7] 15 (e1 := [(2, AV.ptr 1 0 0 0), (9, AV.ptr 7 0 0 0)]) (L1 := [⟨[rootA f1 f2 f3 f4 f5 f6 a b c], 12, 0, false, false⟩, ⟨[ag [vb false, AV.vnil]], 2, 0, false, false⟩, ⟨[ratA false false (b * b * c)], 4, 0, false, false⟩, ⟨[bigA f2 (↑a.den : Int)], 2, 0, false, false⟩, ⟨[bigA false (↑(b * b * c).den : Int)], 2, 0, false, false⟩, ⟨[bigA false (zNxC4 a b c)], 2, 0, false, false⟩, ⟨[(zNxC8 b2 l2)], 2, 0, false, false⟩, ⟨[ag [vb b4, vf (us l4)]], 2, 0, false, false⟩, ⟨[ag [vb b5, vf (us l5)]], 2, 0, false, false⟩]) (a := [true, true, true, true, true, true, true]) (q := []) (cs := [⟨true, false, 51, [bigA f1 a.num, bigA false (↑(b * b * c).den : Int)], [], bigA false (a.num * (↑(b * b * c).den : Int)), []⟩, ⟨true, false, 54, [bigA false (a.num * (↑(b * b * c).den : Int)), (zNxC8 b2 l2)], [], (zNxC9 b3 l3), []⟩, ⟨true, false, 51, [bigA f2 (↑a.den : Int), bigA false (↑(b * b * c).den : Int)], [], bigA false ((↑a.den : Int) * (↑(b * b * c).den : Int)), []⟩, ⟨true, false, 56, [(zNxC9 b3 l3), bigA false ((↑a.den : Int) * (↑(b * b * c).den : Int))], [], (zNxC7 b4 l4 b5 l5 n1), []⟩]) (by kernel_rfl) (by kernel_rfl) (allB_cons rfl (allB_cons rfl (allB_cons rfl (allB_cons rfl (allB_cons rfl (allB_cons rfl (allB_cons rfl allB_nil))))))) allP_nil (allC_cons (fun _ => (@ev51 (f1) (false) (a.num) ((↑(b * b * c).den : Int)) k15)) (allC_cons (fun _ => k16) (allC_cons (fun _ => (@ev51 (f2) (false) ((↑a.den : Int)) ((↑(b * b * c).den : Int)) k17)) (allC_cons (fun _ => k18) allC_nil)))) ?_)
   exact path_rq (G := given kp11 [] []) 1000 [] (ag [vb b4, vf (us l4)]) (by kernel_rfl) (bc rfl (bc rfl b0)) q0 c0 H
  ·have H := H.2 d11
   obtain ⟨k19, H⟩ := H
   obtain ⟨k20, H⟩ := H
   obtain ⟨k21, H⟩ := H
   obtain ⟨k22, H⟩ := H
   refine path_wp (G := given kp11 [(9, 4, .call (bigA false (a.num * (↑(b * b * c).den : Int))) none), (9, 6, .call (bigA false (a.num * (↑(b * b * c).den : Int) + Sp.sq (zNxC4 a b c))) none), (9, 9, .call (bigA false ((↑a.den : Int) * (↑(b * b * c).den : Int))) none), (9, 10, .call (tu [bigA false (zNxC5 a b c), bigA false (zNxC6 a b c), vi 0]) none)] []) 3 [false] ⟨(atC (cd Tryz.f11) [1, 1, 1, 1, 1, 1, 1, 0]), [(1, AV.ptr 0 0 0 0), (2, AV.ptr 1 0 0 0), (4, AV.ptr 3 0 0 0), (5, AV.ptr 4 0 0 0), (7, AV.ptr 6 0 0 0), (48, vb (decide (Sp.sgnI b.num < 0)))], [⟨[rootA f1 f2 f3 f4 f5 f6 a b c], 12, 0, false, false⟩, ⟨[ag [vb false, AV.vnil]], 2, 0, false, false⟩, ⟨[ratA false false (b * b * c)], 4, 0, false, false⟩, ⟨[bigA f2 (↑a.den : Int)], 2, 0, false, false⟩, ⟨[bigA false (↑(b * b * c).den : Int)], 2, 0, false, false⟩, ⟨[bigA false (zNxC4 a b c)], 2, 0, false, false⟩, ⟨[bigA false (Sp.sq (zNxC4 a b c))], 2, 0, false, false⟩], _, [], _⟩ (by kernel_rfl) (bc (beq_f (fun h => d11 (i_dec.1 h))) b0) q0 c0 (wp_both (G := given kp11 [(9, 4, .call (bigA false (a.num * (↑(b * b * c).den : Int))) none), (9, 6, .call (bigA false (a.num * (↑(b * b * c).den : Int) + Sp.sq (zNxC4 a b c))) none), (9, 9, .call (bigA false ((↑a.den : Int) * (↑(b * b * c).den : Int))) none), (9, 10, .call (tu [bigA false (zNxC5 a b c), bigA false (zNxC6 a b c), vi 0]) none)] []) [0, 1, 2, 3, 4, 5, 6, 8, 7] 15 (e1 := [(2, AV.ptr 1 0 0 0), (9, AV.ptr 7 0 0 0)]) (L1 := [⟨[rootA f1 f2 f3 f4 f5 f6 a b c], 12, 0, false, false⟩, ⟨[ag [vb false, AV.vnil]], 2, 0, false, false⟩, ⟨[ratA false false (b * b * c)], 4, 0, false, false⟩, ⟨[bigA f2 (↑a.den : Int)], 2, 0, false, false⟩, ⟨[bigA false (↑(b * b * c).den : Int)], 2, 0, false, false⟩, ⟨[bigA false (zNxC4 a b c)], 2, 0, false, false⟩, ⟨[bigA false (Sp.sq (zNxC4 a b c))], 2, 0, false, false⟩, ⟨[bigA false (zNxC5 a b c)], 2, 0, false, false⟩, ⟨[bigA false (zNxC6 a b c)], 2, 0, false, false⟩]) (a := [true, true, true, true, true, true, true]) (q := []) (cs := [⟨true, false, 51, [bigA f1 a.num, bigA false (↑(b * b * c).den : Int)], [], bigA false (a.num * (↑(b * b * c).den : Int)), []⟩, ⟨true, false, 54, [bigA false (a.num * (↑(b * b * c).den : Int)), bigA false (Sp.sq (zNxC4 a b c))], [], bigA false (a.num * (↑(b * b * c).den : Int) + Sp.sq (zNxC4 a b c)), []⟩, ⟨true, false, 51, [bigA f2 (↑a.den : Int), bigA false (↑(b * b * c).den : Int)], [], bigA false ((↑a.den : Int) * (↑(b * b * c).den : Int)), []⟩, ⟨true, false, 56, [bigA false (a.num * (↑(b * b * c).den : Int) + Sp.sq (zNxC4 a b c)), bigA false ((↑a.den : Int) * (↑(b * b * c).den : Int))], [], tu [bigA false (zNxC5 a b c), bigA false (zNxC6 a b c), vi 0], []⟩]) (by kernel_rfl) (by kernel_rfl) (allB_cons rfl (allB_cons rfl (allB_cons rfl (allB_cons rfl (allB_cons rfl (allB_cons rfl (allB_cons rfl allB_nil))))))) allP_nil (allC_cons (fun _ => (@ev51 (f1) (false) (a.num) ((↑(b * b * c).den : Int)) k19)) (allC_cons (fun _ => (@ev54 (false) (false) (a.num * (↑(b * b * c).den : Int)) (Sp.sq (zNxC4 a b c)) k20)) (allC_cons (fun _ => (@ev51 (f2) (false) ((↑a.den : Int)) ((↑(b * b * c).den : Int)) k21)) (allC_cons (fun _ => (@ev56 (false) (false) (a.num * (↑(b * b * c).den : Int) + Sp.sq (zNxC4 a b c)) ((↑a.den : Int) * (↑(b * b * c).den : Int)) k22)) allC_nil)))) ?_)
   exact path_rq (G := given kp11 [] []) 1000 [] (bigA false (zNxC5 a b c)) (by kernel_rfl) (bc rfl (bc rfl b0)) q0 c0 H
end Go.Av

namespace Go.Av
open Go.Proofs
abbrev noO : AV := .agg [.bool false, .vec false 1 [], .bool false, .vec false 1 [], .bool false, .vec false 1 [], .bool false, .vec false 1 [], .bool false, .vec false 1 [], .bool false, .vec false 1 []]
theorem weak_vnil1 : Weak .vnil (.vec false 1 []) := by
 have := weak_bnil false
 cases this with
 | agg xs ys hl h => exact h 1 _ _ rfl rfl
theorem weak_no : Weak (.agg [.bool false, .vnil, .bool false, .vnil, .bool false, .vnil, .bool false, .vnil, .bool false, .vnil, .bool false, .vnil]) noO := by
 refine .agg _ _ rfl fun i x y hx hy => ?_
 match i with
 | 0 => simp at hx hy; subst hx; subst hy; exact .refl _
 | 1 => simp at hx hy; subst hx; subst hy; exact weak_vnil1
 | 2 => simp at hx hy; subst hx; subst hy; exact .refl _
 | 3 => simp at hx hy; subst hx; subst hy; exact weak_vnil1
 | 4 => simp at hx hy; subst hx; subst hy; exact .refl _
 | 5 => simp at hx hy; subst hx; subst hy; exact weak_vnil1
 | 6 => simp at hx hy; subst hx; subst hy; exact .refl _
 | 7 => simp at hx hy; subst hx; subst hy; exact weak_vnil1
 | 8 => simp at hx hy; subst hx; subst hy; exact .refl _
 | 9 => simp at hx hy; subst hx; subst hy; exact weak_vnil1
 | 10 => simp at hx hy; subst hx; subst hy; exact .refl _
 | 11 => simp at hx hy; subst hx; subst hy; exact weak_vnil1
 | i + 12 => simp at hx
theorem ev22_a : Ev M1 (.pure 22 [noO, noO]) (.bool true) [] :=
 call22 (pSameN _ rfl)
namespace Sp
def isNN (c : Rat) : Prop := 0 <= c.num
open Classical in
noncomputable def mkA (a b c : Rat) : Rat := if rsq c then a + b * rt c else a
open Classical in
noncomputable def mkB (b c : Rat) : Rat := if rsq c then qi 0 else b
open Classical in
noncomputable def mkC (b c : Rat) : Rat := if rsq c then qi 0 else rad b c
open Classical in
noncomputable def vroot (b c : Rat) : Bool := if b = 0 then decide (c = 0) else decide (0 < c.num /\ ¬rsq c)
end Sp
theorem vroot_t {b c : Rat} (hb : ¬b = 0) (h : 0 < c.num /\ ¬Sp.rsq c) : Sp.vroot b c = true := by
 unfold Sp.vroot; rw [if_neg hb]; simp only [decide_eq_true_eq]; exact h
theorem vroot_f {b c : Rat} (hb : ¬b = 0) (h : ¬(0 < c.num /\ ¬Sp.rsq c)) : Sp.vroot b c = false := by
 unfold Sp.vroot; rw [if_neg hb]; simp only [decide_eq_false_iff_not]; exact h
theorem nn_sgn {c : Rat} : Sp.sgnI c.num < 0 ↔ ¬Sp.isNN c := by
 rw [sgnI_lt]; unfold Sp.isNN; omega
theorem ev42_y (f1 f2 f3 f4 f5 f6 : Bool) (a b c : Rat) (h : Sp.okO a b c) (k : Sp.isNN c) : Ev M1 (.pure 42 [ratA f1 f2 a, ratA f3 f4 b, ratA f5 f6 c]) (.tup [rootF (Sp.mkA a b c) (Sp.mkB b c) (Sp.mkC b c), .int .i64 0]) [] := by
 obtain ⟨ha, hb, hc⟩ := h
 refine call42 (oMake _ _ _ _ _ _ _ _ _ _ ⟨fun x => absurd k (nn_sgn.1 x), fun _ => ⟨fun s => ?_, fun s => ?_⟩⟩)
 ·have hr := okT_rt s hc
  have hm := okT_mul hb hr
  refine ⟨okT_R hc (by omega), ⟨okT_R hb (by omega), okT_R hr (by omega)⟩, ⟨okT_R ha (by omega), okT_R hm (by omega)⟩, ?_⟩
  rw [show Sp.mkA a b c = a + b * Sp.rt c from if_pos s, show Sp.mkB b c = Sp.qi 0 from if_pos s, show Sp.mkC b c = Sp.qi 0 from if_pos s]
  exact .refl _
 ·refine ⟨okT_R hc (by omega), ?_⟩
  rw [show Sp.mkA a b c = a from if_neg s, show Sp.mkB b c = b from if_neg s, show Sp.mkC b c = Sp.rad b c from if_neg s]
  exact .refl _
theorem ev42_n (f1 f2 f3 f4 f5 f6 : Bool) (a b c : Rat) (h : Sp.okO a b c) (k : ¬(Sp.isNN c)) : Ev M1 (.pure 42 [ratA f1 f2 a, ratA f3 f4 b, ratA f5 f6 c]) (.tup [noO, .int .i64 7]) [] :=
 call42 (oMake _ _ _ _ _ _ _ _ _ _ ⟨fun _ => weak_two weak_no (.refl _), fun x => absurd (nn_sgn.2 k) x⟩)
theorem valB_rat (r : Rat) : Sp.valB (Sp.isNeg r.num) (Sp.limI r.num) (Sp.isNeg (r.den : Int)) (Sp.limI (r.den : Int)) = true := valB_true.2 (valR_rat r)
theorem okA_rat {r : Rat} {k : Nat} (h : Sp.okT k r) (hk : k <= 90000) : Sp.okA (Sp.limI r.num) (Sp.limI (r.den : Int)) := by
 obtain ⟨h1, h2⟩ := h
 refine ⟨⟨?_, fun x hx => (lim_ok _ x hx).1⟩, ⟨?_, fun x hx => (lim_ok _ x hx).1⟩⟩
 ·rw [limI_len]; omega
 ·rw [limI_len, Int.natAbs_natCast]; omega
theorem okT_com {k : Nat} {b c z : Rat} (h : Sp.okT k c) (h2 : Sp.okT k z) : Sp.okT k (Sp.com b c z) := by
 unfold Sp.com; split <;> assumption
theorem ev37_y (f1 f2 f3 f4 f5 f6 g1 g2 g3 g4 g5 g6 : Bool) (a b c x y z : Rat) (h : Sp.okO a b c /\ Sp.okO x y z) (k : Sp.isCom b c y z) : Ev M1 (.pure 37 [rootA f1 f2 f3 f4 f5 f6 a b c, rootA g1 g2 g3 g4 g5 g6 x y z]) (.tup [rootF (a * x + b * y * Sp.com b c z) (a * y + b * x) (Sp.rad (a * y + b * x) (Sp.com b c z)), .int .i64 0]) [] := by
 obtain ⟨⟨h1, h2, h3⟩, h4, h5, h6⟩ := h
 have m1 := okT_mul h2 h5
 have hk := okT_com (b := b) h3 h6
 have m2 := okT_mul m1 hk
 have m3 := okT_mul h1 h4
 have m4 := okT_mul h1 h5
 have m5 := okT_mul h2 h4
 exact call37 (oMul _ _ _ _ _ _ _ _ _ _ _ _ _ _ _ _ _ _ _ ⟨⟨h3, h6⟩, fun n => absurd k n, fun _ => ⟨⟨okT_R h1 (by omega), okT_R h4 (by omega)⟩, ⟨okT_R h2 (by omega), okT_R h5 (by omega)⟩, ⟨okT_R m1 (by omega), okT_R hk (by omega)⟩, ⟨okT_R m3 (by omega), okT_R m2 (by omega)⟩, ⟨okT_R h1 (by omega), okT_R h5 (by omega)⟩, ⟨okT_R h2 (by omega), okT_R h4 (by omega)⟩, ⟨okT_R m4 (by omega), okT_R m5 (by omega)⟩, .refl _⟩⟩)
theorem ev25 (f1 f2 f3 f4 f5 f6 l1 l2 : Bool) (a b c r : Rat) (h : Sp.okP a b /\ Sp.okR r) : Ev M1 (.pure 25 [rootA f1 f2 f3 f4 f5 f6 a b c, ratA l1 l2 r]) (rootF (a * r) (b * r) (Sp.rad (b * r) c)) [] := by
 obtain ⟨⟨h1, h2⟩, h3⟩ := h
 exact call25 (oScale _ _ _ _ _ _ _ _ _ _ _ _ _ ⟨⟨okT_R h1 (by omega), h3⟩, ⟨okT_R h2 (by omega), h3⟩, .refl _⟩)
noncomputable def Sp.flW (a b c : Rat) : Int := Sp.sq ((a.den : Int) * (a.den : Int) * ((b * b * c).num * ((b * b * c).den : Int)))
noncomputable def Sp.fl (a b c : Rat) : Int := if b = 0 then Sp.flo a.num (a.den : Int) else Sp.flo (a.num * ((b * b * c).den : Int) + (if b.num < 0 then -(Sp.flW a b c + 1) else Sp.flW a b c)) ((a.den : Int) * ((b * b * c).den : Int))
theorem cnt_sqI {v : Int} {n : Nat} (h : Sp.cnt v.natAbs <= n) : Sp.cnt (Sp.sq v).natAbs <= n := by
 by_cases k : 0 <= v
 ·exact Nat.le_trans (cnt_mono (sq_le k).2) h
 ·unfold Sp.sq
  rw [if_pos (by omega)]
  exact Nat.le_trans (Nat.le_of_eq cnt_zero) (Nat.zero_le _)
theorem cnt_one : Sp.cnt (1 : Int).natAbs <= 1 := by
 have := cnt_small (n := (1 : Int).natAbs) (by decide); omega
theorem ev11 (f1 f2 f3 f4 f5 f6 : Bool) (a b c : Rat) (h : Sp.okO a b c) : Ev M1 (.pure 11 [rootA f1 f2 f3 f4 f5 f6 a b c]) (bigA false (Sp.fl a b c)) [] := by
 obtain ⟨ha, hb, hc⟩ := h
 have bb := okT_mul hb hb
 have bbc := okT_mul bb hc
 obtain ⟨a1, a2⟩ := ha
 obtain ⟨s1, s2⟩ := bbc
 have a2' := cnt_den a2
 have s2' := cnt_den s2
 have m1 := cnt_mulI a2' a2'
 have m2 := cnt_mulI s1 s2'
 have m3 := cnt_mulI m1 m2
 have w := cnt_sqI m3
 have m4 := cnt_mulI a1 s2'
 have m5 := cnt_mulI a2' s2'
 have hden : (a.den : Int) * ((b * b * c).den : Int) ≠ 0 := Int.mul_ne_zero (den_ne a) (den_ne _)
 refine call11 (oFloor _ _ _ _ _ _ _ _ _ _ ⟨fun k => ⟨⟨by unfold Sp.okB; omega, by unfold Sp.okB; omega⟩, ?_⟩, fun k => ?_⟩)
 ·unfold Sp.fl; rw [if_pos (sgn_num.1 k)]; exact .refl _
 ·refine ⟨⟨okT_R hb (by omega), okT_R hb (by omega)⟩, ⟨okT_R bb (by omega), okT_R hc (by omega)⟩, ⟨by unfold Sp.okB; omega, by unfold Sp.okB; omega⟩, ⟨by unfold Sp.okB; omega, by unfold Sp.okB; omega⟩, ⟨by unfold Sp.okB; omega, by unfold Sp.okB; omega⟩, by unfold Sp.okS; omega, fun k2 => ?_, fun k2 => ?_⟩
  ·rw [sgnI_lt] at k2
   have e : Sp.fl a b c = Sp.flo (a.num * ((b * b * c).den : Int) + -(Sp.flW a b c + 1)) ((a.den : Int) * ((b * b * c).den : Int)) := by
    unfold Sp.fl; rw [if_neg fun e => k (sgn_num.2 e), if_pos k2]
   have w1 := cnt_addI w (Nat.le_trans cnt_one (by omega))
   have w2 : Sp.cnt (-(Sp.sq ((a.den : Int) * (a.den : Int) * ((b * b * c).num * ((b * b * c).den : Int))) + 1)).natAbs <= 9000 + 9000 + (9000 + 9000 + 9000 + (9000 + 9000 + 9000)) + 1 := by rw [Int.natAbs_neg]; exact w1
   have w3 := cnt_addI (Nat.le_trans m4 (by omega)) w2
   rw [e]
   unfold Sp.flW
   refine ⟨by unfold Sp.inI; omega, _, _, ev54 _ _ _ 1 ⟨by unfold Sp.okB; omega, by unfold Sp.okB; have := cnt_one; omega⟩, _, _, ev53 _ _ ?_, ⟨by unfold Sp.okB; omega, by unfold Sp.okB; omega⟩, _, _, ev54 _ _ _ _ ⟨by unfold Sp.okB; omega, ?_⟩, ⟨by unfold Sp.okB; omega, by unfold Sp.okB; omega⟩, _, _, _, _, _, ev56 _ _ _ _ ⟨?_, by unfold Sp.okB; omega, hden⟩, .refl _⟩
   ·unfold Sp.okB; omega
   ·unfold Sp.okB; omega
   ·unfold Sp.okB; omega
  ·rw [sgnI_lt] at k2
   have e : Sp.fl a b c = Sp.flo (a.num * ((b * b * c).den : Int) + Sp.flW a b c) ((a.den : Int) * ((b * b * c).den : Int)) := by
    unfold Sp.fl; rw [if_neg fun e => k (sgn_num.2 e), if_neg k2]
   have w3 := cnt_addI (Nat.le_trans m4 (by omega)) w
   rw [e]
   unfold Sp.flW
   exact ⟨⟨by unfold Sp.okB; omega, by unfold Sp.okB; omega⟩, ⟨by unfold Sp.okB; omega, by unfold Sp.okB; omega⟩, ⟨by unfold Sp.okB; omega, by unfold Sp.okB; omega⟩, ⟨by unfold Sp.okB; omega, by unfold Sp.okB; omega, hden⟩, .refl _⟩
end Go.Av

namespace Go.Av
open Go.Proofs
noncomputable def Sp.prB (b c : Rat) : Rat := if b = 0 \/ c = 0 then Sp.qi 0 else b
noncomputable def Sp.prC (b c : Rat) : Rat := if b = 0 \/ c = 0 then Sp.qi 0 else c
theorem qi_zero : Sp.qi 0 = 0 := by rw [qi_eq]; rfl
theorem ev77 (f1 f2 f3 f4 f5 f6 : Bool) (a b c : Rat) : Ev M1 (.pure 77 [ratA f1 f2 a, ratA f3 f4 b, ratA f5 f6 c]) (rootF a (Sp.prB b c) (Sp.prC b c)) [] := by
 refine call77 (pRed _ _ _ _ _ _ _ _ _ _ ⟨fun k => ?_, fun k => ?_⟩)
 ·have k : b = 0 \/ c = 0 := k.imp sgn_num.1 sgn_num.1
  rw [show Sp.prB b c = Sp.qi 0 from if_pos k, show Sp.prC b c = Sp.qi 0 from if_pos k]; exact weak_root a (Sp.qi 0) (Sp.qi 0)
 ·have k : ¬(b = 0 \/ c = 0) := fun e => k (e.imp sgn_num.2 sgn_num.2)
  rw [show Sp.prB b c = b from if_neg k, show Sp.prC b c = c from if_neg k]; exact weak_root a b c
theorem ev41 (n : Int) (h : Sp.inI n) : Ev M1 (.pure 41 [.int .i64 n]) (rootF (Sp.qi n) (Sp.qi 0) (Sp.qi 0)) [] :=
 call41 (pInt _ _ ⟨h, .refl _⟩)
end Go.Av
