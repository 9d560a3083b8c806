/- PART 6 of the texts of a claim, joined by a program: what each part shows stands at its head. -/
import Derived.Test.YtmbncgcjilkajaaGreatPart9c6d1436b3

namespace Go.Av
open Go.Proofs
theorem cnt_le {n m : Nat} {k : Nat} (h : n <= m) (hm : Sp.cnt m <= k) : Sp.cnt n <= k := Nat.le_trans (cnt_mono h) hm
theorem okT_qf {n d : Int} (h : Sp.okF n d) : Sp.okT 3 (Sp.qf n d) := by
 obtain ⟨h1, h2, h3⟩ := h
 obtain ⟨e1, e2⟩ := divInt_le (p := n) h3
 rw [qf_eq]
 exact ⟨cnt_le e1 (inI_cnt h1), cnt_le e2 (inI_cnt h2)⟩
def Sp.okSd (a b c d e f : Int) : Prop := (-32768 <= a /\ a <= 32767) /\ (-32768 <= b /\ b <= 32767) /\ (0 <= c /\ c <= 65535) /\ (0 <= d /\ d <= 255) /\ (0 <= e /\ e <= 255) /\ (0 <= f /\ f <= 255)
theorem nn_qf {n d : Int} (h : 0 <= n) (hd : 0 < d) : Sp.isNN (Sp.qf n d) := by
 rw [qf_eq]
 obtain ⟨e1, _⟩ := rat_pos (a := n) hd
 unfold Sp.isNN
 rw [e1]
 exact Int.ediv_nonneg h (by omega)
theorem okT_O {a b c : Rat} {k : Nat} (h1 : Sp.okT k a) (h2 : Sp.okT k b) (h3 : Sp.okT k c) (hk : k <= 9000) : Sp.okO a b c := ⟨okT_le h1 hk, okT_le h2 hk, okT_le h3 hk⟩
theorem ev45 (a b c d e f : Int) (h : Sp.okSd a b c d e f) : Ev M1 (.pure 45 [.agg [.int .i16 a, .int .i16 b, .int .u16 c, .int .u8 d, .int .u8 e, .int .u8 f]]) (rootF (Sp.mkA (Sp.qf a (d + 1)) (Sp.qf b (e + 1)) (Sp.qf c (f + 1))) (Sp.mkB (Sp.qf b (e + 1)) (Sp.qf c (f + 1))) (Sp.mkC (Sp.qf b (e + 1)) (Sp.qf c (f + 1)))) [] := by
 obtain ⟨ha, hb, hc, hd, he, hf⟩ := h
 have f1 : Sp.okF a (d + 1) := by unfold Sp.okF Sp.inI; omega
 have f2 : Sp.okF b (e + 1) := by unfold Sp.okF Sp.inI; omega
 have f3 : Sp.okF c (f + 1) := by unfold Sp.okF Sp.inI; omega
 have nn := nn_qf (n := c) (d := f + 1) hc.1 (by omega)
 exact call45 (pOf _ _ _ _ _ _ _ ⟨by omega, by omega, by omega, f1, by omega, by omega, by omega, f2, by omega, by omega, by omega, f3, fun _ => ⟨okT_O (okT_qf f1) (okT_qf f2) (okT_qf f3) (by omega), .refl _⟩, fun x => absurd nn x⟩)
def Sp.okM (a b c : Int) : Prop := Sp.inI a /\ Sp.inI b /\ Sp.inI c /\ 0 <= c
theorem nn_qi {n : Int} (h : 0 <= n) : Sp.isNN (Sp.qi n) := by
 rw [qi_eq]
 unfold Sp.isNN
 rw [Rat.num_intCast]; exact h
theorem ev44 (a b c : Int) (h : Sp.okM a b c) : Ev M1 (.pure 44 [.int .i64 a, .int .i64 b, .int .i64 c]) (.tup [rootF (Sp.mkA (Sp.qi a) (Sp.qi b) (Sp.qi c)) (Sp.mkB (Sp.qi b) (Sp.qi c)) (Sp.mkC (Sp.qi b) (Sp.qi c)), .bool true]) [] := by
 obtain ⟨h1, h2, h3, h4⟩ := h
 exact call44 (lMake _ _ _ _ ⟨h1, h2, h3, fun _ => ⟨okT_O (okT_int h1) (okT_int h2) (okT_int h3) (by omega), .refl _⟩, fun x => absurd (nn_qi h4) x⟩)
end Go.Av

namespace Go.Av
open Go.Proofs
set_option maxRecDepth 100000
def fi9 : Fi := ⟨102, [.tmp 0]⟩
def kp9 : List (Nat × List Nat) := [(0, []), (1, [1, 2]), (2, [1, 2, 3, 4]), (3, [1, 2, 3, 4, 5, 6]), (4, [1, 2, 3, 4, 5, 6, 7, 8]), (5, [5, 7, 60]), (6, [0]), (7, [5, 7, 9, 10]), (8, [5, 7, 9, 10, 11]), (9, [5, 7, 9, 10, 11, 13]), (10, [0])]
def lAwake_at  (Q : AV -> Heap -> Prop) : Prop := Wp M1 (.run fi9 (atC (cd Tryz.f9) []) [] []) Q
theorem call9 {args : List AV} {d : AV} (h : wc M1 fi9 Tryz.f9 args d) : Ev M1 (.pure 9 args) d [] := pcl _ _ (by kernel_rfl) h
noncomputable abbrev zNxF1 := Sp.mkA (Sp.qi 1) (Sp.qi 1) (Sp.qi 2) * Sp.ivn (Sp.mkA (Sp.qi 1) (Sp.qi 1) (Sp.qi 2)) (Sp.mkB (Sp.qi 1) (Sp.qi 2)) (Sp.mkC (Sp.qi 1) (Sp.qi 2)) = Sp.mkA (Sp.qf (-1) (0 + 1)) (Sp.qf 1 (0 + 1)) (Sp.qf 2 (0 + 1)) /\ -Sp.mkB (Sp.qi 1) (Sp.qi 2) * Sp.ivn (Sp.mkA (Sp.qi 1) (Sp.qi 1) (Sp.qi 2)) (Sp.mkB (Sp.qi 1) (Sp.qi 2)) (Sp.mkC (Sp.qi 1) (Sp.qi 2)) = Sp.mkB (Sp.qf 1 (0 + 1)) (Sp.qf 2 (0 + 1)) /\ Sp.rad (-Sp.mkB (Sp.qi 1) (Sp.qi 2) * Sp.ivn (Sp.mkA (Sp.qi 1) (Sp.qi 1) (Sp.qi 2)) (Sp.mkB (Sp.qi 1) (Sp.qi 2)) (Sp.mkC (Sp.qi 1) (Sp.qi 2))) (Sp.mkC (Sp.qi 1) (Sp.qi 2)) = Sp.mkC (Sp.qf 1 (0 + 1)) (Sp.qf 2 (0 + 1))
noncomputable abbrev zNxF2 := Sp.mkA (Sp.qi 0) (Sp.qi 1) (Sp.qi 8) = Sp.mkA (Sp.qf 0 (0 + 1)) (Sp.qf 1 (0 + 1)) (Sp.qf 8 (0 + 1)) /\ Sp.mkB (Sp.qi 1) (Sp.qi 8) = Sp.mkB (Sp.qf 1 (0 + 1)) (Sp.qf 8 (0 + 1)) /\ Sp.mkC (Sp.qi 1) (Sp.qi 8) = Sp.mkC (Sp.qf 1 (0 + 1)) (Sp.qf 8 (0 + 1))
noncomputable abbrev zNxF3 := ag [vb false, vf [], vb false, vf [], vb false, vf [], vb false, vf [], vb false, vf [], vb false, vf []]
noncomputable abbrev zNxF4 := Sp.fl (Sp.mkA (Sp.qi 1) (Sp.qi 1) (Sp.qi 2)) (Sp.mkB (Sp.qi 1) (Sp.qi 2)) (Sp.mkC (Sp.qi 1) (Sp.qi 2)) = 2
noncomputable abbrev zNxF5 := Sp.fl (Sp.mkA (Sp.qi 1) (Sp.qi (-1)) (Sp.qi 2)) (Sp.mkB (Sp.qi (-1)) (Sp.qi 2)) (Sp.mkC (Sp.qi (-1)) (Sp.qi 2))
noncomputable abbrev zNxF6 := Sp.fl (Sp.mkA (Sp.qi 1) (Sp.qi (-1)) (Sp.qi 2)) (Sp.mkB (Sp.qi (-1)) (Sp.qi 2)) (Sp.mkC (Sp.qi (-1)) (Sp.qi 2)) = -1
noncomputable abbrev zNxF7 := Sp.fl (Sp.mkA (Sp.qi 1) (Sp.qi 1) (Sp.qi 2)) (Sp.mkB (Sp.qi 1) (Sp.qi 2)) (Sp.mkC (Sp.qi 1) (Sp.qi 2))
noncomputable abbrev zNxF8 := Sp.mkA (Sp.qi 1) (Sp.qi 2) (Sp.qf 9 4) = Sp.qi 4 /\ Sp.mkB (Sp.qi 2) (Sp.qf 9 4) = Sp.qi 0 /\ Sp.mkC (Sp.qi 2) (Sp.qf 9 4) = Sp.qi 0
noncomputable abbrev zNxF9 := Sp.mkA (Sp.qf 0 (0 + 1)) (Sp.qf 1 (0 + 1)) (Sp.qf 8 (0 + 1))
noncomputable abbrev zNxF10 := Sp.sgO (Sp.mkA (Sp.qi 3) (Sp.qi (-2)) (Sp.qi 2)) (Sp.mkB (Sp.qi (-2)) (Sp.qi 2)) (Sp.mkC (Sp.qi (-2)) (Sp.qi 2))
noncomputable abbrev zNxF11 := Sp.sgO (Sp.mkA (Sp.qi 4) (Sp.qi (-3)) (Sp.qi 2)) (Sp.mkB (Sp.qi (-3)) (Sp.qi 2)) (Sp.mkC (Sp.qi (-3)) (Sp.qi 2))
noncomputable abbrev zNxF12 := Sp.mkA (Sp.qf (-1) (0 + 1)) (Sp.qf 1 (0 + 1)) (Sp.qf 2 (0 + 1))
noncomputable abbrev zNxF13 := Sp.rad (-Sp.mkB (Sp.qi 1) (Sp.qi 2) * Sp.ivn (Sp.mkA (Sp.qi 1) (Sp.qi 1) (Sp.qi 2)) (Sp.mkB (Sp.qi 1) (Sp.qi 2)) (Sp.mkC (Sp.qi 1) (Sp.qi 2))) (Sp.mkC (Sp.qi 1) (Sp.qi 2))
noncomputable abbrev zNxF14 := Sp.mkA (Sp.qi 1) (Sp.qi 1) (Sp.qi 2) * Sp.ivn (Sp.mkA (Sp.qi 1) (Sp.qi 1) (Sp.qi 2)) (Sp.mkB (Sp.qi 1) (Sp.qi 2)) (Sp.mkC (Sp.qi 1) (Sp.qi 2))
noncomputable abbrev zNxF15 := ag [AV.int IntKind.i16 (-1), AV.int IntKind.i16 1, AV.int IntKind.u16 2, AV.int IntKind.u8 0, AV.int IntKind.u8 0, AV.int IntKind.u8 0]
noncomputable abbrev zNxF16 := ag [AV.int IntKind.i16 0, AV.int IntKind.i16 1, AV.int IntKind.u16 8, AV.int IntKind.u8 0, AV.int IntKind.u8 0, AV.int IntKind.u8 0]
noncomputable abbrev zNxF17 := bif bif bif decide zNxF1 then decide zNxF4 else false then decide zNxF6 else false then Sp.sgO (Sp.mkA (Sp.qi 3) (Sp.qi (-2)) (Sp.qi 2)) (Sp.mkB (Sp.qi (-2)) (Sp.qi 2)) (Sp.mkC (Sp.qi (-2)) (Sp.qi 2)) == 1 else false
theorem lAwake   (dq : AV) (H :
  (Sp.inI 1) /\
  (Sp.inI 2) /\
  (Sp.okF 9 4) /\
  ((Sp.isNN (Sp.qf 9 4)) -> (Sp.okO (Sp.qi 1) (Sp.qi 2) (Sp.qf 9 4)) /\
   (Sp.okM 0 1 8) /\
   (Sp.okM 1 1 2) /\
   (Sp.okM 1 (-1) 2) /\
   ((¬(false = true)) -> (Sp.inI 4)) /\
   (Sp.okO (Sp.mkA (Sp.qi 1) (Sp.qi 2) (Sp.qf 9 4)) (Sp.mkB (Sp.qi 2) (Sp.qf 9 4)) (Sp.mkC (Sp.qi 2) (Sp.qf 9 4)) /\ Sp.okO (Sp.qi 4) (Sp.qi 0) (Sp.qi 0)) /\
   ((¬(¬(Sp.mkA (Sp.qi 1) (Sp.qi 2) (Sp.qf 9 4) = Sp.qi 4 /\ Sp.mkB (Sp.qi 2) (Sp.qf 9 4) = Sp.qi 0 /\ Sp.mkC (Sp.qi 2) (Sp.qf 9 4) = Sp.qi 0))) -> (Sp.okSd 0 1 8 0 0 0)) /\
   ((¬(¬(Sp.mkA (Sp.qi 1) (Sp.qi 2) (Sp.qf 9 4) = Sp.qi 4 /\ Sp.mkB (Sp.qi 2) (Sp.qf 9 4) = Sp.qi 0 /\ Sp.mkC (Sp.qi 2) (Sp.qf 9 4) = Sp.qi 0))) -> (Sp.okO (Sp.mkA (Sp.qi 0) (Sp.qi 1) (Sp.qi 8)) (Sp.mkB (Sp.qi 1) (Sp.qi 8)) (Sp.mkC (Sp.qi 1) (Sp.qi 8)) /\ Sp.okO (Sp.mkA (Sp.qf 0 (0 + 1)) (Sp.qf 1 (0 + 1)) (Sp.qf 8 (0 + 1))) (Sp.mkB (Sp.qf 1 (0 + 1)) (Sp.qf 8 (0 + 1))) (Sp.mkC (Sp.qf 1 (0 + 1)) (Sp.qf 8 (0 + 1))))) /\
   (((¬(Sp.mkA (Sp.qi 1) (Sp.qi 2) (Sp.qf 9 4) = Sp.qi 4 /\ Sp.mkB (Sp.qi 2) (Sp.qf 9 4) = Sp.qi 0 /\ Sp.mkC (Sp.qi 2) (Sp.qf 9 4) = Sp.qi 0)) \/ (¬(Sp.mkA (Sp.qi 0) (Sp.qi 1) (Sp.qi 8) = Sp.mkA (Sp.qf 0 (0 + 1)) (Sp.qf 1 (0 + 1)) (Sp.qf 8 (0 + 1)) /\ Sp.mkB (Sp.qi 1) (Sp.qi 8) = Sp.mkB (Sp.qf 1 (0 + 1)) (Sp.qf 8 (0 + 1)) /\ Sp.mkC (Sp.qi 1) (Sp.qi 8) = Sp.mkC (Sp.qf 1 (0 + 1)) (Sp.qf 8 (0 + 1))))) -> vb false = dq) /\
   (¬((¬(Sp.mkA (Sp.qi 1) (Sp.qi 2) (Sp.qf 9 4) = Sp.qi 4 /\ Sp.mkB (Sp.qi 2) (Sp.qf 9 4) = Sp.qi 0 /\ Sp.mkC (Sp.qi 2) (Sp.qf 9 4) = Sp.qi 0)) \/ (¬(Sp.mkA (Sp.qi 0) (Sp.qi 1) (Sp.qi 8) = Sp.mkA (Sp.qf 0 (0 + 1)) (Sp.qf 1 (0 + 1)) (Sp.qf 8 (0 + 1)) /\ Sp.mkB (Sp.qi 1) (Sp.qi 8) = Sp.mkB (Sp.qf 1 (0 + 1)) (Sp.qf 8 (0 + 1)) /\ Sp.mkC (Sp.qi 1) (Sp.qi 8) = Sp.mkC (Sp.qf 1 (0 + 1)) (Sp.qf 8 (0 + 1))))) -> ((Sp.sgO (Sp.mkA (Sp.qi 1) (Sp.qi 1) (Sp.qi 2)) (Sp.mkB (Sp.qi 1) (Sp.qi 2)) (Sp.mkC (Sp.qi 1) (Sp.qi 2)) = 0) -> (Sp.okO (Sp.mkA (Sp.qi 1) (Sp.qi 1) (Sp.qi 2)) (Sp.mkB (Sp.qi 1) (Sp.qi 2)) (Sp.mkC (Sp.qi 1) (Sp.qi 2))) /\
     (Sp.okM 3 (-2) 2) /\
     (Sp.okM 4 (-3) 2) /\
     ((false = true) -> (Sp.okSd (-1) 1 2 0 0 0)) /\
     ∃ (b1 : Bool),
     ((false = true) -> (Ev M1 (Conf.pure 22 [ag [vb false, vf [], vb false, vf [], vb false, vf [], vb false, vf [], vb false, vf [], vb false, vf []], rootF (Sp.mkA (Sp.qf (-1) (0 + 1)) (Sp.qf 1 (0 + 1)) (Sp.qf 2 (0 + 1))) (Sp.mkB (Sp.qf 1 (0 + 1)) (Sp.qf 2 (0 + 1))) (Sp.mkC (Sp.qf 1 (0 + 1)) (Sp.qf 2 (0 + 1)))]) (vb b1) [])) /\
     ((false = true) -> (Sp.ok (Sp.fl (Sp.mkA (Sp.qi 1) (Sp.qi 1) (Sp.qi 2)) (Sp.mkB (Sp.qi 1) (Sp.qi 2)) (Sp.mkC (Sp.qi 1) (Sp.qi 2))) /\ Sp.inI 2)) /\
     ((false = true) -> (Sp.okO (Sp.mkA (Sp.qi 1) (Sp.qi (-1)) (Sp.qi 2)) (Sp.mkB (Sp.qi (-1)) (Sp.qi 2)) (Sp.mkC (Sp.qi (-1)) (Sp.qi 2)))) /\
     ((false = true) -> (Sp.ok (Sp.fl (Sp.mkA (Sp.qi 1) (Sp.qi (-1)) (Sp.qi 2)) (Sp.mkB (Sp.qi (-1)) (Sp.qi 2)) (Sp.mkC (Sp.qi (-1)) (Sp.qi 2))) /\ Sp.inI (-1))) /\
     ((false = true) -> (Sp.okO (Sp.mkA (Sp.qi 3) (Sp.qi (-2)) (Sp.qi 2)) (Sp.mkB (Sp.qi (-2)) (Sp.qi 2)) (Sp.mkC (Sp.qi (-2)) (Sp.qi 2)))) /\
     ((false = true) -> (Sp.okO (Sp.mkA (Sp.qi 4) (Sp.qi (-3)) (Sp.qi 2)) (Sp.mkB (Sp.qi (-3)) (Sp.qi 2)) (Sp.mkC (Sp.qi (-3)) (Sp.qi 2)))) /\
     vb false = dq) /\
    (¬(Sp.sgO (Sp.mkA (Sp.qi 1) (Sp.qi 1) (Sp.qi 2)) (Sp.mkB (Sp.qi 1) (Sp.qi 2)) (Sp.mkC (Sp.qi 1) (Sp.qi 2)) = 0) -> (Sp.okO (Sp.mkA (Sp.qi 1) (Sp.qi 1) (Sp.qi 2)) (Sp.mkB (Sp.qi 1) (Sp.qi 2)) (Sp.mkC (Sp.qi 1) (Sp.qi 2)) /\ Sp.nrm (Sp.mkA (Sp.qi 1) (Sp.qi 1) (Sp.qi 2)) (Sp.mkB (Sp.qi 1) (Sp.qi 2)) (Sp.mkC (Sp.qi 1) (Sp.qi 2))) /\
     (Sp.okM 3 (-2) 2) /\
     (Sp.okM 4 (-3) 2) /\
     ((true = true) -> (Sp.okSd (-1) 1 2 0 0 0)) /\
     (Sp.okO (Sp.mkA (Sp.qi 1) (Sp.qi 1) (Sp.qi 2) * Sp.ivn (Sp.mkA (Sp.qi 1) (Sp.qi 1) (Sp.qi 2)) (Sp.mkB (Sp.qi 1) (Sp.qi 2)) (Sp.mkC (Sp.qi 1) (Sp.qi 2))) (-Sp.mkB (Sp.qi 1) (Sp.qi 2) * Sp.ivn (Sp.mkA (Sp.qi 1) (Sp.qi 1) (Sp.qi 2)) (Sp.mkB (Sp.qi 1) (Sp.qi 2)) (Sp.mkC (Sp.qi 1) (Sp.qi 2))) (Sp.rad (-Sp.mkB (Sp.qi 1) (Sp.qi 2) * Sp.ivn (Sp.mkA (Sp.qi 1) (Sp.qi 1) (Sp.qi 2)) (Sp.mkB (Sp.qi 1) (Sp.qi 2)) (Sp.mkC (Sp.qi 1) (Sp.qi 2))) (Sp.mkC (Sp.qi 1) (Sp.qi 2))) /\ Sp.okO (Sp.mkA (Sp.qf (-1) (0 + 1)) (Sp.qf 1 (0 + 1)) (Sp.qf 2 (0 + 1))) (Sp.mkB (Sp.qf 1 (0 + 1)) (Sp.qf 2 (0 + 1))) (Sp.mkC (Sp.qf 1 (0 + 1)) (Sp.qf 2 (0 + 1)))) /\
     ((Sp.mkA (Sp.qi 1) (Sp.qi 1) (Sp.qi 2) * Sp.ivn (Sp.mkA (Sp.qi 1) (Sp.qi 1) (Sp.qi 2)) (Sp.mkB (Sp.qi 1) (Sp.qi 2)) (Sp.mkC (Sp.qi 1) (Sp.qi 2)) = Sp.mkA (Sp.qf (-1) (0 + 1)) (Sp.qf 1 (0 + 1)) (Sp.qf 2 (0 + 1)) /\ -Sp.mkB (Sp.qi 1) (Sp.qi 2) * Sp.ivn (Sp.mkA (Sp.qi 1) (Sp.qi 1) (Sp.qi 2)) (Sp.mkB (Sp.qi 1) (Sp.qi 2)) (Sp.mkC (Sp.qi 1) (Sp.qi 2)) = Sp.mkB (Sp.qf 1 (0 + 1)) (Sp.qf 2 (0 + 1)) /\ Sp.rad (-Sp.mkB (Sp.qi 1) (Sp.qi 2) * Sp.ivn (Sp.mkA (Sp.qi 1) (Sp.qi 1) (Sp.qi 2)) (Sp.mkB (Sp.qi 1) (Sp.qi 2)) (Sp.mkC (Sp.qi 1) (Sp.qi 2))) (Sp.mkC (Sp.qi 1) (Sp.qi 2)) = Sp.mkC (Sp.qf 1 (0 + 1)) (Sp.qf 2 (0 + 1))) -> (Sp.okO (Sp.mkA (Sp.qi 1) (Sp.qi 1) (Sp.qi 2)) (Sp.mkB (Sp.qi 1) (Sp.qi 2)) (Sp.mkC (Sp.qi 1) (Sp.qi 2)))) /\
     ((Sp.mkA (Sp.qi 1) (Sp.qi 1) (Sp.qi 2) * Sp.ivn (Sp.mkA (Sp.qi 1) (Sp.qi 1) (Sp.qi 2)) (Sp.mkB (Sp.qi 1) (Sp.qi 2)) (Sp.mkC (Sp.qi 1) (Sp.qi 2)) = Sp.mkA (Sp.qf (-1) (0 + 1)) (Sp.qf 1 (0 + 1)) (Sp.qf 2 (0 + 1)) /\ -Sp.mkB (Sp.qi 1) (Sp.qi 2) * Sp.ivn (Sp.mkA (Sp.qi 1) (Sp.qi 1) (Sp.qi 2)) (Sp.mkB (Sp.qi 1) (Sp.qi 2)) (Sp.mkC (Sp.qi 1) (Sp.qi 2)) = Sp.mkB (Sp.qf 1 (0 + 1)) (Sp.qf 2 (0 + 1)) /\ Sp.rad (-Sp.mkB (Sp.qi 1) (Sp.qi 2) * Sp.ivn (Sp.mkA (Sp.qi 1) (Sp.qi 1) (Sp.qi 2)) (Sp.mkB (Sp.qi 1) (Sp.qi 2)) (Sp.mkC (Sp.qi 1) (Sp.qi 2))) (Sp.mkC (Sp.qi 1) (Sp.qi 2)) = Sp.mkC (Sp.qf 1 (0 + 1)) (Sp.qf 2 (0 + 1))) -> (Sp.ok (Sp.fl (Sp.mkA (Sp.qi 1) (Sp.qi 1) (Sp.qi 2)) (Sp.mkB (Sp.qi 1) (Sp.qi 2)) (Sp.mkC (Sp.qi 1) (Sp.qi 2))) /\ Sp.inI 2)) /\
     (((Sp.mkA (Sp.qi 1) (Sp.qi 1) (Sp.qi 2) * Sp.ivn (Sp.mkA (Sp.qi 1) (Sp.qi 1) (Sp.qi 2)) (Sp.mkB (Sp.qi 1) (Sp.qi 2)) (Sp.mkC (Sp.qi 1) (Sp.qi 2)) = Sp.mkA (Sp.qf (-1) (0 + 1)) (Sp.qf 1 (0 + 1)) (Sp.qf 2 (0 + 1)) /\ -Sp.mkB (Sp.qi 1) (Sp.qi 2) * Sp.ivn (Sp.mkA (Sp.qi 1) (Sp.qi 1) (Sp.qi 2)) (Sp.mkB (Sp.qi 1) (Sp.qi 2)) (Sp.mkC (Sp.qi 1) (Sp.qi 2)) = Sp.mkB (Sp.qf 1 (0 + 1)) (Sp.qf 2 (0 + 1)) /\ Sp.rad (-Sp.mkB (Sp.qi 1) (Sp.qi 2) * Sp.ivn (Sp.mkA (Sp.qi 1) (Sp.qi 1) (Sp.qi 2)) (Sp.mkB (Sp.qi 1) (Sp.qi 2)) (Sp.mkC (Sp.qi 1) (Sp.qi 2))) (Sp.mkC (Sp.qi 1) (Sp.qi 2)) = Sp.mkC (Sp.qf 1 (0 + 1)) (Sp.qf 2 (0 + 1))) /\ (Sp.fl (Sp.mkA (Sp.qi 1) (Sp.qi 1) (Sp.qi 2)) (Sp.mkB (Sp.qi 1) (Sp.qi 2)) (Sp.mkC (Sp.qi 1) (Sp.qi 2)) = 2)) -> (Sp.okO (Sp.mkA (Sp.qi 1) (Sp.qi (-1)) (Sp.qi 2)) (Sp.mkB (Sp.qi (-1)) (Sp.qi 2)) (Sp.mkC (Sp.qi (-1)) (Sp.qi 2)))) /\
     (((Sp.mkA (Sp.qi 1) (Sp.qi 1) (Sp.qi 2) * Sp.ivn (Sp.mkA (Sp.qi 1) (Sp.qi 1) (Sp.qi 2)) (Sp.mkB (Sp.qi 1) (Sp.qi 2)) (Sp.mkC (Sp.qi 1) (Sp.qi 2)) = Sp.mkA (Sp.qf (-1) (0 + 1)) (Sp.qf 1 (0 + 1)) (Sp.qf 2 (0 + 1)) /\ -Sp.mkB (Sp.qi 1) (Sp.qi 2) * Sp.ivn (Sp.mkA (Sp.qi 1) (Sp.qi 1) (Sp.qi 2)) (Sp.mkB (Sp.qi 1) (Sp.qi 2)) (Sp.mkC (Sp.qi 1) (Sp.qi 2)) = Sp.mkB (Sp.qf 1 (0 + 1)) (Sp.qf 2 (0 + 1)) /\ Sp.rad (-Sp.mkB (Sp.qi 1) (Sp.qi 2) * Sp.ivn (Sp.mkA (Sp.qi 1) (Sp.qi 1) (Sp.qi 2)) (Sp.mkB (Sp.qi 1) (Sp.qi 2)) (Sp.mkC (Sp.qi 1) (Sp.qi 2))) (Sp.mkC (Sp.qi 1) (Sp.qi 2)) = Sp.mkC (Sp.qf 1 (0 + 1)) (Sp.qf 2 (0 + 1))) /\ (Sp.fl (Sp.mkA (Sp.qi 1) (Sp.qi 1) (Sp.qi 2)) (Sp.mkB (Sp.qi 1) (Sp.qi 2)) (Sp.mkC (Sp.qi 1) (Sp.qi 2)) = 2)) -> (Sp.ok (Sp.fl (Sp.mkA (Sp.qi 1) (Sp.qi (-1)) (Sp.qi 2)) (Sp.mkB (Sp.qi (-1)) (Sp.qi 2)) (Sp.mkC (Sp.qi (-1)) (Sp.qi 2))) /\ Sp.inI (-1))) /\
     ((((Sp.mkA (Sp.qi 1) (Sp.qi 1) (Sp.qi 2) * Sp.ivn (Sp.mkA (Sp.qi 1) (Sp.qi 1) (Sp.qi 2)) (Sp.mkB (Sp.qi 1) (Sp.qi 2)) (Sp.mkC (Sp.qi 1) (Sp.qi 2)) = Sp.mkA (Sp.qf (-1) (0 + 1)) (Sp.qf 1 (0 + 1)) (Sp.qf 2 (0 + 1)) /\ -Sp.mkB (Sp.qi 1) (Sp.qi 2) * Sp.ivn (Sp.mkA (Sp.qi 1) (Sp.qi 1) (Sp.qi 2)) (Sp.mkB (Sp.qi 1) (Sp.qi 2)) (Sp.mkC (Sp.qi 1) (Sp.qi 2)) = Sp.mkB (Sp.qf 1 (0 + 1)) (Sp.qf 2 (0 + 1)) /\ Sp.rad (-Sp.mkB (Sp.qi 1) (Sp.qi 2) * Sp.ivn (Sp.mkA (Sp.qi 1) (Sp.qi 1) (Sp.qi 2)) (Sp.mkB (Sp.qi 1) (Sp.qi 2)) (Sp.mkC (Sp.qi 1) (Sp.qi 2))) (Sp.mkC (Sp.qi 1) (Sp.qi 2)) = Sp.mkC (Sp.qf 1 (0 + 1)) (Sp.qf 2 (0 + 1))) /\ (Sp.fl (Sp.mkA (Sp.qi 1) (Sp.qi 1) (Sp.qi 2)) (Sp.mkB (Sp.qi 1) (Sp.qi 2)) (Sp.mkC (Sp.qi 1) (Sp.qi 2)) = 2)) /\ (Sp.fl (Sp.mkA (Sp.qi 1) (Sp.qi (-1)) (Sp.qi 2)) (Sp.mkB (Sp.qi (-1)) (Sp.qi 2)) (Sp.mkC (Sp.qi (-1)) (Sp.qi 2)) = -1)) -> (Sp.okO (Sp.mkA (Sp.qi 3) (Sp.qi (-2)) (Sp.qi 2)) (Sp.mkB (Sp.qi (-2)) (Sp.qi 2)) (Sp.mkC (Sp.qi (-2)) (Sp.qi 2)))) /\
     (((((Sp.mkA (Sp.qi 1) (Sp.qi 1) (Sp.qi 2) * Sp.ivn (Sp.mkA (Sp.qi 1) (Sp.qi 1) (Sp.qi 2)) (Sp.mkB (Sp.qi 1) (Sp.qi 2)) (Sp.mkC (Sp.qi 1) (Sp.qi 2)) = Sp.mkA (Sp.qf (-1) (0 + 1)) (Sp.qf 1 (0 + 1)) (Sp.qf 2 (0 + 1)) /\ -Sp.mkB (Sp.qi 1) (Sp.qi 2) * Sp.ivn (Sp.mkA (Sp.qi 1) (Sp.qi 1) (Sp.qi 2)) (Sp.mkB (Sp.qi 1) (Sp.qi 2)) (Sp.mkC (Sp.qi 1) (Sp.qi 2)) = Sp.mkB (Sp.qf 1 (0 + 1)) (Sp.qf 2 (0 + 1)) /\ Sp.rad (-Sp.mkB (Sp.qi 1) (Sp.qi 2) * Sp.ivn (Sp.mkA (Sp.qi 1) (Sp.qi 1) (Sp.qi 2)) (Sp.mkB (Sp.qi 1) (Sp.qi 2)) (Sp.mkC (Sp.qi 1) (Sp.qi 2))) (Sp.mkC (Sp.qi 1) (Sp.qi 2)) = Sp.mkC (Sp.qf 1 (0 + 1)) (Sp.qf 2 (0 + 1))) /\ (Sp.fl (Sp.mkA (Sp.qi 1) (Sp.qi 1) (Sp.qi 2)) (Sp.mkB (Sp.qi 1) (Sp.qi 2)) (Sp.mkC (Sp.qi 1) (Sp.qi 2)) = 2)) /\ (Sp.fl (Sp.mkA (Sp.qi 1) (Sp.qi (-1)) (Sp.qi 2)) (Sp.mkB (Sp.qi (-1)) (Sp.qi 2)) (Sp.mkC (Sp.qi (-1)) (Sp.qi 2)) = -1)) /\ (Sp.sgO (Sp.mkA (Sp.qi 3) (Sp.qi (-2)) (Sp.qi 2)) (Sp.mkB (Sp.qi (-2)) (Sp.qi 2)) (Sp.mkC (Sp.qi (-2)) (Sp.qi 2)) = 1)) -> (Sp.okO (Sp.mkA (Sp.qi 4) (Sp.qi (-3)) (Sp.qi 2)) (Sp.mkB (Sp.qi (-3)) (Sp.qi 2)) (Sp.mkC (Sp.qi (-3)) (Sp.qi 2)))) /\
     vb (bif bif bif bif decide (Sp.mkA (Sp.qi 1) (Sp.qi 1) (Sp.qi 2) * Sp.ivn (Sp.mkA (Sp.qi 1) (Sp.qi 1) (Sp.qi 2)) (Sp.mkB (Sp.qi 1) (Sp.qi 2)) (Sp.mkC (Sp.qi 1) (Sp.qi 2)) = Sp.mkA (Sp.qf (-1) (0 + 1)) (Sp.qf 1 (0 + 1)) (Sp.qf 2 (0 + 1)) /\ -Sp.mkB (Sp.qi 1) (Sp.qi 2) * Sp.ivn (Sp.mkA (Sp.qi 1) (Sp.qi 1) (Sp.qi 2)) (Sp.mkB (Sp.qi 1) (Sp.qi 2)) (Sp.mkC (Sp.qi 1) (Sp.qi 2)) = Sp.mkB (Sp.qf 1 (0 + 1)) (Sp.qf 2 (0 + 1)) /\ Sp.rad (-Sp.mkB (Sp.qi 1) (Sp.qi 2) * Sp.ivn (Sp.mkA (Sp.qi 1) (Sp.qi 1) (Sp.qi 2)) (Sp.mkB (Sp.qi 1) (Sp.qi 2)) (Sp.mkC (Sp.qi 1) (Sp.qi 2))) (Sp.mkC (Sp.qi 1) (Sp.qi 2)) = Sp.mkC (Sp.qf 1 (0 + 1)) (Sp.qf 2 (0 + 1))) then decide (Sp.fl (Sp.mkA (Sp.qi 1) (Sp.qi 1) (Sp.qi 2)) (Sp.mkB (Sp.qi 1) (Sp.qi 2)) (Sp.mkC (Sp.qi 1) (Sp.qi 2)) = 2) else false then decide (Sp.fl (Sp.mkA (Sp.qi 1) (Sp.qi (-1)) (Sp.qi 2)) (Sp.mkB (Sp.qi (-1)) (Sp.qi 2)) (Sp.mkC (Sp.qi (-1)) (Sp.qi 2)) = -1) else false then Sp.sgO (Sp.mkA (Sp.qi 3) (Sp.qi (-2)) (Sp.qi 2)) (Sp.mkB (Sp.qi (-2)) (Sp.qi 2)) (Sp.mkC (Sp.qi (-2)) (Sp.qi 2)) == 1 else false then Sp.sgO (Sp.mkA (Sp.qi 4) (Sp.qi (-3)) (Sp.qi 2)) (Sp.mkB (Sp.qi (-3)) (Sp.qi 2)) (Sp.mkC (Sp.qi (-3)) (Sp.qi 2)) == -1 else false) = dq))) /\
  (¬(Sp.isNN (Sp.qf 9 4)) -> (Sp.okO (Sp.qi 1) (Sp.qi 2) (Sp.qf 9 4)) /\
   (Sp.okM 0 1 8) /\
   (Sp.okM 1 1 2) /\
   (Sp.okM 1 (-1) 2) /\
   ((¬(true = true)) -> (Sp.inI 4)) /\
   ∃ (b2 : Bool),
   ((false = true) -> (Ev M1 (Conf.pure 22 [ag [vb false, vf [], vb false, vf [], vb false, vf [], vb false, vf [], vb false, vf [], vb false, vf []], rootF (Sp.qi 4) (Sp.qi 0) (Sp.qi 0)]) (vb b2) [])) /\
   ((false = true) -> (Sp.okSd 0 1 8 0 0 0)) /\
   ((false = true) -> (Sp.okO (Sp.mkA (Sp.qi 0) (Sp.qi 1) (Sp.qi 8)) (Sp.mkB (Sp.qi 1) (Sp.qi 8)) (Sp.mkC (Sp.qi 1) (Sp.qi 8)) /\ Sp.okO (Sp.mkA (Sp.qf 0 (0 + 1)) (Sp.qf 1 (0 + 1)) (Sp.qf 8 (0 + 1))) (Sp.mkB (Sp.qf 1 (0 + 1)) (Sp.qf 8 (0 + 1))) (Sp.mkC (Sp.qf 1 (0 + 1)) (Sp.qf 8 (0 + 1))))) /\
   vb false = dq)) :
 lAwake_at  (PureQ dq) := by
 unfold lAwake_at
 obtain ⟨k1, H⟩ := H
 obtain ⟨k2, H⟩ := H
 obtain ⟨k3, H⟩ := H
 rcases xm (Sp.isNN (Sp.qf 9 4)) with d4 | d4
 ·have H := H.1 d4
  obtain ⟨k5, H⟩ := H
  obtain ⟨k6, H⟩ := H
  obtain ⟨k7, H⟩ := H
  obtain ⟨k8, H⟩ := H
  obtain ⟨k10, H⟩ := H
  obtain ⟨k11, H⟩ := H
  obtain ⟨k13, H⟩ := H
  obtain ⟨k15, H⟩ := H
  refine path_wp (G := given kp9 [(1, 0, .call (ratA false false (Sp.qi 1)) none), (1, 1, .call (ratA false false (Sp.qi 2)) none), (1, 2, .call (ratA false false (Sp.qf 9 4)) none), (1, 3, .call (tu [rootF (Sp.mkA (Sp.qi 1) (Sp.qi 2) (Sp.qf 9 4)) (Sp.mkB (Sp.qi 2) (Sp.qf 9 4)) (Sp.mkC (Sp.qi 2) (Sp.qf 9 4)), vi 0]) none), (2, 0, .call (tu [rootF (Sp.mkA (Sp.qi 0) (Sp.qi 1) (Sp.qi 8)) (Sp.mkB (Sp.qi 1) (Sp.qi 8)) (Sp.mkC (Sp.qi 1) (Sp.qi 8)), vb true]) none), (3, 0, .call (tu [rootF (Sp.mkA (Sp.qi 1) (Sp.qi 1) (Sp.qi 2)) (Sp.mkB (Sp.qi 1) (Sp.qi 2)) (Sp.mkC (Sp.qi 1) (Sp.qi 2)), vb true]) none), (4, 0, .call (tu [rootF (Sp.mkA (Sp.qi 1) (Sp.qi (-1)) (Sp.qi 2)) (Sp.mkB (Sp.qi (-1)) (Sp.qi 2)) (Sp.mkC (Sp.qi (-1)) (Sp.qi 2)), vb true]) none), (5, 16, .call (rootF (Sp.qi 4) (Sp.qi 0) (Sp.qi 0)) none), (5, 17, .call (vb (decide zNxF8)) none), (5, 23, .call (rootF zNxF9 (Sp.mkB (Sp.qf 1 (0 + 1)) (Sp.qf 8 (0 + 1))) (Sp.mkC (Sp.qf 1 (0 + 1)) (Sp.qf 8 (0 + 1)))) none), (5, 24, .call (vb (decide zNxF2)) none)] []) 13 [] ⟨(atC (cd Tryz.f9) [1, 1, 1, 1, 1, 0, 1]), [(5, AV.ptr 2 0 0 0), (7, AV.ptr 3 0 0 0), (60, vb (bif !decide zNxF8 then true else !decide zNxF2))], [⟨[rootF (Sp.mkA (Sp.qi 1) (Sp.qi 2) (Sp.qf 9 4)) (Sp.mkB (Sp.qi 2) (Sp.qf 9 4)) (Sp.mkC (Sp.qi 2) (Sp.qf 9 4))], 12, 0, false, false⟩, ⟨[rootF (Sp.mkA (Sp.qi 0) (Sp.qi 1) (Sp.qi 8)) (Sp.mkB (Sp.qi 1) (Sp.qi 8)) (Sp.mkC (Sp.qi 1) (Sp.qi 8))], 12, 0, false, false⟩, ⟨[rootF (Sp.mkA (Sp.qi 1) (Sp.qi 1) (Sp.qi 2)) (Sp.mkB (Sp.qi 1) (Sp.qi 2)) (Sp.mkC (Sp.qi 1) (Sp.qi 2))], 12, 0, false, false⟩, ⟨[rootF (Sp.mkA (Sp.qi 1) (Sp.qi (-1)) (Sp.qi 2)) (Sp.mkB (Sp.qi (-1)) (Sp.qi 2)) (Sp.mkC (Sp.qi (-1)) (Sp.qi 2))], 12, 0, false, false⟩], [true, true, true, true, true, !((!decide zNxF8) == false && true) || true], [], [⟨true, false, 18, [vi 1], [], ratA false false (Sp.qi 1), []⟩, ⟨true, false, 18, [vi 2], [], ratA false false (Sp.qi 2), []⟩, ⟨true, false, 43, [vi 9, vi 4], [], ratA false false (Sp.qf 9 4), []⟩, ⟨true, false, 42, [ratA false false (Sp.qi 1), ratA false false (Sp.qi 2), ratA false false (Sp.qf 9 4)], [], tu [rootF (Sp.mkA (Sp.qi 1) (Sp.qi 2) (Sp.qf 9 4)) (Sp.mkB (Sp.qi 2) (Sp.qf 9 4)) (Sp.mkC (Sp.qi 2) (Sp.qf 9 4)), vi 0], []⟩, ⟨true, false, 44, [vi 0, vi 1, vi 8], [], tu [rootF (Sp.mkA (Sp.qi 0) (Sp.qi 1) (Sp.qi 8)) (Sp.mkB (Sp.qi 1) (Sp.qi 8)) (Sp.mkC (Sp.qi 1) (Sp.qi 8)), vb true], []⟩, ⟨true, false, 44, [vi 1, vi 1, vi 2], [], tu [rootF (Sp.mkA (Sp.qi 1) (Sp.qi 1) (Sp.qi 2)) (Sp.mkB (Sp.qi 1) (Sp.qi 2)) (Sp.mkC (Sp.qi 1) (Sp.qi 2)), vb true], []⟩, ⟨true, false, 44, [vi 1, vi (-1), vi 2], [], tu [rootF (Sp.mkA (Sp.qi 1) (Sp.qi (-1)) (Sp.qi 2)) (Sp.mkB (Sp.qi (-1)) (Sp.qi 2)) (Sp.mkC (Sp.qi (-1)) (Sp.qi 2)), vb true], []⟩, ⟨false == false && true && true, false, 41, [vi 4], [], rootF (Sp.qi 4) (Sp.qi 0) (Sp.qi 0), []⟩, ⟨true, false, 22, [rootF (Sp.mkA (Sp.qi 1) (Sp.qi 2) (Sp.qf 9 4)) (Sp.mkB (Sp.qi 2) (Sp.qf 9 4)) (Sp.mkC (Sp.qi 2) (Sp.qf 9 4)), rootF (Sp.qi 4) (Sp.qi 0) (Sp.qi 0)], [], vb (decide zNxF8), []⟩, ⟨(!decide zNxF8) == false && true && true, false, 45, [zNxF16], [], rootF zNxF9 (Sp.mkB (Sp.qf 1 (0 + 1)) (Sp.qf 8 (0 + 1))) (Sp.mkC (Sp.qf 1 (0 + 1)) (Sp.qf 8 (0 + 1))), []⟩, ⟨(!decide zNxF8) == false && true && true, false, 22, [rootF (Sp.mkA (Sp.qi 0) (Sp.qi 1) (Sp.qi 8)) (Sp.mkB (Sp.qi 1) (Sp.qi 8)) (Sp.mkC (Sp.qi 1) (Sp.qi 8)), rootF zNxF9 (Sp.mkB (Sp.qf 1 (0 + 1)) (Sp.qf 8 (0 + 1))) (Sp.mkC (Sp.qf 1 (0 + 1)) (Sp.qf 8 (0 + 1)))], [], vb (decide zNxF2), []⟩]⟩ (by kernel_rfl) (bc rfl (bc rfl (bc rfl (bc rfl (bc rfl (bc (Bool.or_true _) b0)))))) q0 (cc (fun _ => (@ev18 (1) k1)) (cc (fun _ => (@ev18 (2) k2)) (cc (fun _ => (@ev43 (9) (4) k3)) (cc (fun _ => (@ev42_y (false) (false) (false) (false) (false) (false) (Sp.qi 1) (Sp.qi 2) (Sp.qf 9 4) k5 d4)) (cc (fun _ => (@ev44 (0) (1) (8) k6)) (cc (fun _ => (@ev44 (1) (1) (2) k7)) (cc (fun _ => (@ev44 (1) (-1) (2) k8)) (cc (fun hc => ((@ev41 (4) (k10 ((i_at (i_at (i_bf (i_var _)))).1 hc))) : Ev M1 (Conf.pure 41 [vi 4]) (rootF (Sp.qi 4) (Sp.qi 0) (Sp.qi 0)) [])) (cc (fun _ => (@ev22 (false) (false) (false) (false) (false) (false) (false) (false) (false) (false) (false) (false) (Sp.mkA (Sp.qi 1) (Sp.qi 2) (Sp.qf 9 4)) (Sp.mkB (Sp.qi 2) (Sp.qf 9 4)) (Sp.mkC (Sp.qi 2) (Sp.qf 9 4)) (Sp.qi 4) (Sp.qi 0) (Sp.qi 0) k11)) (cc (fun hc => ((@ev45 (0) (1) (8) (0) (0) (0) (k13 ((i_at (i_at (i_bf (i_not i_dec)))).1 hc))) : Ev M1 (Conf.pure 45 [zNxF16]) (rootF zNxF9 (Sp.mkB (Sp.qf 1 (0 + 1)) (Sp.qf 8 (0 + 1))) (Sp.mkC (Sp.qf 1 (0 + 1)) (Sp.qf 8 (0 + 1)))) [])) (cc (fun hc => ((@ev22 (false) (false) (false) (false) (false) (false) (false) (false) (false) (false) (false) (false) (Sp.mkA (Sp.qi 0) (Sp.qi 1) (Sp.qi 8)) (Sp.mkB (Sp.qi 1) (Sp.qi 8)) (Sp.mkC (Sp.qi 1) (Sp.qi 8)) zNxF9 (Sp.mkB (Sp.qf 1 (0 + 1)) (Sp.qf 8 (0 + 1))) (Sp.mkC (Sp.qf 1 (0 + 1)) (Sp.qf 8 (0 + 1))) (k15 ((i_at (i_at (i_bf (i_not i_dec)))).1 hc))) : Ev M1 (Conf.pure 22 [rootF (Sp.mkA (Sp.qi 0) (Sp.qi 1) (Sp.qi 8)) (Sp.mkB (Sp.qi 1) (Sp.qi 8)) (Sp.mkC (Sp.qi 1) (Sp.qi 8)), rootF zNxF9 (Sp.mkB (Sp.qf 1 (0 + 1)) (Sp.qf 8 (0 + 1))) (Sp.mkC (Sp.qf 1 (0 + 1)) (Sp.qf 8 (0 + 1)))]) (vb (decide zNxF2)) [])) c0))))))))))) ?_
  rcases xm ((¬zNxF8) \/ (¬zNxF2)) with d17 | d17
  ·have H := H.1 d17
   exact path_re (G := given kp9 [] []) 1000 [true] (vb false) (by kernel_rfl) (bc (beq_t ((i_bor (i_not i_dec) (i_not i_dec)).2 d17)) b0) q0 c0 H
  ·have H := H.2 d17
   rcases xm (Sp.sgO (Sp.mkA (Sp.qi 1) (Sp.qi 1) (Sp.qi 2)) (Sp.mkB (Sp.qi 1) (Sp.qi 2)) (Sp.mkC (Sp.qi 1) (Sp.qi 2)) = 0) with d18 | d18
   ·have H := H.1 d18
    obtain ⟨k19, H⟩ := H
    obtain ⟨k20, H⟩ := H
    obtain ⟨k21, H⟩ := H
    obtain ⟨k23, H⟩ := H
    obtain ⟨b1, H⟩ := H
    obtain ⟨k25, H⟩ := H
    obtain ⟨k28, H⟩ := H
    obtain ⟨k30, H⟩ := H
    obtain ⟨k32, H⟩ := H
    obtain ⟨k34, H⟩ := H
    obtain ⟨k36, H⟩ := H
    exact path_re (G := given kp9 [(7, 1, .call (tu [zNxF3, vi 6]) none), (8, 0, .call (tu [rootF (Sp.mkA (Sp.qi 3) (Sp.qi (-2)) (Sp.qi 2)) (Sp.mkB (Sp.qi (-2)) (Sp.qi 2)) (Sp.mkC (Sp.qi (-2)) (Sp.qi 2)), vb true]) none), (9, 0, .call (tu [rootF (Sp.mkA (Sp.qi 4) (Sp.qi (-3)) (Sp.qi 2)) (Sp.mkB (Sp.qi (-3)) (Sp.qi 2)) (Sp.mkC (Sp.qi (-3)) (Sp.qi 2)), vb true]) none), (10, 5, .call (rootF zNxF12 (Sp.mkB (Sp.qf 1 (0 + 1)) (Sp.qf 2 (0 + 1))) (Sp.mkC (Sp.qf 1 (0 + 1)) (Sp.qf 2 (0 + 1)))) none), (10, 6, .call (vb b1) none), (10, 10, .call (bigA false zNxF7) none), (10, 11, .call (vb (decide zNxF4)) none), (10, 15, .call (bigA false zNxF5) none), (10, 16, .call (vb (decide zNxF6)) none), (10, 20, .call (vi zNxF10) none), (10, 25, .call (vi zNxF11) none)] []) 1000 [false] (calls := [⟨true, false, 39, [rootF (Sp.mkA (Sp.qi 1) (Sp.qi 1) (Sp.qi 2)) (Sp.mkB (Sp.qi 1) (Sp.qi 2)) (Sp.mkC (Sp.qi 1) (Sp.qi 2))], [], tu [zNxF3, vi 6], []⟩, ⟨true, false, 44, [vi 3, vi (-2), vi 2], [], tu [rootF (Sp.mkA (Sp.qi 3) (Sp.qi (-2)) (Sp.qi 2)) (Sp.mkB (Sp.qi (-2)) (Sp.qi 2)) (Sp.mkC (Sp.qi (-2)) (Sp.qi 2)), vb true], []⟩, ⟨true, false, 44, [vi 4, vi (-3), vi 2], [], tu [rootF (Sp.mkA (Sp.qi 4) (Sp.qi (-3)) (Sp.qi 2)) (Sp.mkB (Sp.qi (-3)) (Sp.qi 2)) (Sp.mkC (Sp.qi (-3)) (Sp.qi 2)), vb true], []⟩, ⟨false == true && true && true, false, 45, [zNxF15], [], rootF zNxF12 (Sp.mkB (Sp.qf 1 (0 + 1)) (Sp.qf 2 (0 + 1))) (Sp.mkC (Sp.qf 1 (0 + 1)) (Sp.qf 2 (0 + 1))), []⟩, ⟨false, false, 22, [zNxF3, rootF zNxF12 (Sp.mkB (Sp.qf 1 (0 + 1)) (Sp.qf 2 (0 + 1))) (Sp.mkC (Sp.qf 1 (0 + 1)) (Sp.qf 2 (0 + 1)))], [], vb b1, []⟩, ⟨false, false, 11, [rootF (Sp.mkA (Sp.qi 1) (Sp.qi 1) (Sp.qi 2)) (Sp.mkB (Sp.qi 1) (Sp.qi 2)) (Sp.mkC (Sp.qi 1) (Sp.qi 2))], [], bigA false zNxF7, []⟩, ⟨false, false, 46, [bigA false zNxF7, vi 2], [], vb (decide zNxF4), []⟩, ⟨false, false, 11, [rootF (Sp.mkA (Sp.qi 1) (Sp.qi (-1)) (Sp.qi 2)) (Sp.mkB (Sp.qi (-1)) (Sp.qi 2)) (Sp.mkC (Sp.qi (-1)) (Sp.qi 2))], [], bigA false zNxF5, []⟩, ⟨false, false, 46, [bigA false zNxF5, vi (-1)], [], vb (decide zNxF6), []⟩, ⟨false, false, 20, [rootF (Sp.mkA (Sp.qi 3) (Sp.qi (-2)) (Sp.qi 2)) (Sp.mkB (Sp.qi (-2)) (Sp.qi 2)) (Sp.mkC (Sp.qi (-2)) (Sp.qi 2))], [], vi zNxF10, []⟩, ⟨false, false, 20, [rootF (Sp.mkA (Sp.qi 4) (Sp.qi (-3)) (Sp.qi 2)) (Sp.mkB (Sp.qi (-3)) (Sp.qi 2)) (Sp.mkC (Sp.qi (-3)) (Sp.qi 2))], [], vi zNxF11, []⟩]) (vb false) (by kernel_rfl) (bc (beq_f (fun h => d17 ((i_bor (i_not i_dec) (i_not i_dec)).1 h))) (bc rfl (bc rfl (bc rfl (bc rfl (bc rfl (bc rfl (bc rfl (bc rfl (bc rfl b0)))))))))) q0 (cc (fun _ => (@ev39_y (false) (false) (false) (false) (false) (false) (Sp.mkA (Sp.qi 1) (Sp.qi 1) (Sp.qi 2)) (Sp.mkB (Sp.qi 1) (Sp.qi 2)) (Sp.mkC (Sp.qi 1) (Sp.qi 2)) k19 d18)) (cc (fun _ => (@ev44 (3) (-2) (2) k20)) (cc (fun _ => (@ev44 (4) (-3) (2) k21)) (cc (fun hc => ((@ev45 (-1) (1) (2) (0) (0) (0) (k23 ((i_at (i_at (i_bt (i_var _)))).1 hc))) : Ev M1 (Conf.pure 45 [zNxF15]) (rootF zNxF12 (Sp.mkB (Sp.qf 1 (0 + 1)) (Sp.qf 2 (0 + 1))) (Sp.mkC (Sp.qf 1 (0 + 1)) (Sp.qf 2 (0 + 1)))) [])) (cc (fun hc => ((k25 ((i_var _).1 hc)) : Ev M1 (Conf.pure 22 [zNxF3, rootF zNxF12 (Sp.mkB (Sp.qf 1 (0 + 1)) (Sp.qf 2 (0 + 1))) (Sp.mkC (Sp.qf 1 (0 + 1)) (Sp.qf 2 (0 + 1)))]) (vb b1) [])) (cc (fun hc => ((@ev11 (false) (false) (false) (false) (false) (false) (Sp.mkA (Sp.qi 1) (Sp.qi 1) (Sp.qi 2)) (Sp.mkB (Sp.qi 1) (Sp.qi 2)) (Sp.mkC (Sp.qi 1) (Sp.qi 2)) k19) : Ev M1 (Conf.pure 11 [rootF (Sp.mkA (Sp.qi 1) (Sp.qi 1) (Sp.qi 2)) (Sp.mkB (Sp.qi 1) (Sp.qi 2)) (Sp.mkC (Sp.qi 1) (Sp.qi 2))]) (bigA false zNxF7) [])) (cc (fun hc => ((@ev46 (false) zNxF7 (2) (k28 ((i_var _).1 hc))) : Ev M1 (Conf.pure 46 [bigA false zNxF7, vi 2]) (vb (decide zNxF4)) [])) (cc (fun hc => ((@ev11 (false) (false) (false) (false) (false) (false) (Sp.mkA (Sp.qi 1) (Sp.qi (-1)) (Sp.qi 2)) (Sp.mkB (Sp.qi (-1)) (Sp.qi 2)) (Sp.mkC (Sp.qi (-1)) (Sp.qi 2)) (k30 ((i_var _).1 hc))) : Ev M1 (Conf.pure 11 [rootF (Sp.mkA (Sp.qi 1) (Sp.qi (-1)) (Sp.qi 2)) (Sp.mkB (Sp.qi (-1)) (Sp.qi 2)) (Sp.mkC (Sp.qi (-1)) (Sp.qi 2))]) (bigA false zNxF5) [])) (cc (fun hc => ((@ev46 (false) zNxF5 (-1) (k32 ((i_var _).1 hc))) : Ev M1 (Conf.pure 46 [bigA false zNxF5, vi (-1)]) (vb (decide zNxF6)) [])) (cc (fun hc => ((@ev20 (false) (false) (false) (false) (false) (false) (Sp.mkA (Sp.qi 3) (Sp.qi (-2)) (Sp.qi 2)) (Sp.mkB (Sp.qi (-2)) (Sp.qi 2)) (Sp.mkC (Sp.qi (-2)) (Sp.qi 2)) (k34 ((i_var _).1 hc))) : Ev M1 (Conf.pure 20 [rootF (Sp.mkA (Sp.qi 3) (Sp.qi (-2)) (Sp.qi 2)) (Sp.mkB (Sp.qi (-2)) (Sp.qi 2)) (Sp.mkC (Sp.qi (-2)) (Sp.qi 2))]) (vi zNxF10) [])) (cc (fun hc => ((@ev20 (false) (false) (false) (false) (false) (false) (Sp.mkA (Sp.qi 4) (Sp.qi (-3)) (Sp.qi 2)) (Sp.mkB (Sp.qi (-3)) (Sp.qi 2)) (Sp.mkC (Sp.qi (-3)) (Sp.qi 2)) (k36 ((i_var _).1 hc))) : Ev M1 (Conf.pure 20 [rootF (Sp.mkA (Sp.qi 4) (Sp.qi (-3)) (Sp.qi 2)) (Sp.mkB (Sp.qi (-3)) (Sp.qi 2)) (Sp.mkC (Sp.qi (-3)) (Sp.qi 2))]) (vi zNxF11) [])) c0))))))))))) H
   ·have H := H.2 d18
    obtain ⟨k37, H⟩ := H
    obtain ⟨k38, H⟩ := H
    obtain ⟨k39, H⟩ := H
    obtain ⟨k41, H⟩ := H
    obtain ⟨k42, H⟩ := H
    obtain ⟨k44, H⟩ := H
    obtain ⟨k46, H⟩ := H
    obtain ⟨k48, H⟩ := H
    obtain ⟨k50, H⟩ := H
    obtain ⟨k52, H⟩ := H
    obtain ⟨k54, H⟩ := H
    exact path_re (G := given kp9 [(7, 1, .call (tu [rootF zNxF14 (-Sp.mkB (Sp.qi 1) (Sp.qi 2) * Sp.ivn (Sp.mkA (Sp.qi 1) (Sp.qi 1) (Sp.qi 2)) (Sp.mkB (Sp.qi 1) (Sp.qi 2)) (Sp.mkC (Sp.qi 1) (Sp.qi 2))) zNxF13, vi 0]) none), (8, 0, .call (tu [rootF (Sp.mkA (Sp.qi 3) (Sp.qi (-2)) (Sp.qi 2)) (Sp.mkB (Sp.qi (-2)) (Sp.qi 2)) (Sp.mkC (Sp.qi (-2)) (Sp.qi 2)), vb true]) none), (9, 0, .call (tu [rootF (Sp.mkA (Sp.qi 4) (Sp.qi (-3)) (Sp.qi 2)) (Sp.mkB (Sp.qi (-3)) (Sp.qi 2)) (Sp.mkC (Sp.qi (-3)) (Sp.qi 2)), vb true]) none), (10, 5, .call (rootF zNxF12 (Sp.mkB (Sp.qf 1 (0 + 1)) (Sp.qf 2 (0 + 1))) (Sp.mkC (Sp.qf 1 (0 + 1)) (Sp.qf 2 (0 + 1)))) none), (10, 6, .call (vb (decide zNxF1)) none), (10, 10, .call (bigA false zNxF7) none), (10, 11, .call (vb (decide zNxF4)) none), (10, 15, .call (bigA false zNxF5) none), (10, 16, .call (vb (decide zNxF6)) none), (10, 20, .call (vi zNxF10) none), (10, 25, .call (vi zNxF11) none)] []) 1000 [false] (asm := [(bif !decide zNxF8 then true else !decide zNxF2) == false, true, true, true, true, true, !(decide zNxF1 == true && true) || true, !((bif decide zNxF1 then decide zNxF4 else false) == true && true) || true, !((bif bif decide zNxF1 then decide zNxF4 else false then decide zNxF6 else false) == true && true) || true, !(zNxF17 == true && true) || true]) (calls := [⟨true, false, 39, [rootF (Sp.mkA (Sp.qi 1) (Sp.qi 1) (Sp.qi 2)) (Sp.mkB (Sp.qi 1) (Sp.qi 2)) (Sp.mkC (Sp.qi 1) (Sp.qi 2))], [], tu [rootF zNxF14 (-Sp.mkB (Sp.qi 1) (Sp.qi 2) * Sp.ivn (Sp.mkA (Sp.qi 1) (Sp.qi 1) (Sp.qi 2)) (Sp.mkB (Sp.qi 1) (Sp.qi 2)) (Sp.mkC (Sp.qi 1) (Sp.qi 2))) zNxF13, vi 0], []⟩, ⟨true, false, 44, [vi 3, vi (-2), vi 2], [], tu [rootF (Sp.mkA (Sp.qi 3) (Sp.qi (-2)) (Sp.qi 2)) (Sp.mkB (Sp.qi (-2)) (Sp.qi 2)) (Sp.mkC (Sp.qi (-2)) (Sp.qi 2)), vb true], []⟩, ⟨true, false, 44, [vi 4, vi (-3), vi 2], [], tu [rootF (Sp.mkA (Sp.qi 4) (Sp.qi (-3)) (Sp.qi 2)) (Sp.mkB (Sp.qi (-3)) (Sp.qi 2)) (Sp.mkC (Sp.qi (-3)) (Sp.qi 2)), vb true], []⟩, ⟨true == true && true && true, false, 45, [zNxF15], [], rootF zNxF12 (Sp.mkB (Sp.qf 1 (0 + 1)) (Sp.qf 2 (0 + 1))) (Sp.mkC (Sp.qf 1 (0 + 1)) (Sp.qf 2 (0 + 1))), []⟩, ⟨true, false, 22, [rootF zNxF14 (-Sp.mkB (Sp.qi 1) (Sp.qi 2) * Sp.ivn (Sp.mkA (Sp.qi 1) (Sp.qi 1) (Sp.qi 2)) (Sp.mkB (Sp.qi 1) (Sp.qi 2)) (Sp.mkC (Sp.qi 1) (Sp.qi 2))) zNxF13, rootF zNxF12 (Sp.mkB (Sp.qf 1 (0 + 1)) (Sp.qf 2 (0 + 1))) (Sp.mkC (Sp.qf 1 (0 + 1)) (Sp.qf 2 (0 + 1)))], [], vb (decide zNxF1), []⟩, ⟨decide zNxF1 == true && true && true, false, 11, [rootF (Sp.mkA (Sp.qi 1) (Sp.qi 1) (Sp.qi 2)) (Sp.mkB (Sp.qi 1) (Sp.qi 2)) (Sp.mkC (Sp.qi 1) (Sp.qi 2))], [], bigA false zNxF7, []⟩, ⟨decide zNxF1 == true && true && true, false, 46, [bigA false zNxF7, vi 2], [], vb (decide zNxF4), []⟩, ⟨(bif decide zNxF1 then decide zNxF4 else false) == true && true && true, false, 11, [rootF (Sp.mkA (Sp.qi 1) (Sp.qi (-1)) (Sp.qi 2)) (Sp.mkB (Sp.qi (-1)) (Sp.qi 2)) (Sp.mkC (Sp.qi (-1)) (Sp.qi 2))], [], bigA false zNxF5, []⟩, ⟨(bif decide zNxF1 then decide zNxF4 else false) == true && true && true, false, 46, [bigA false zNxF5, vi (-1)], [], vb (decide zNxF6), []⟩, ⟨(bif bif decide zNxF1 then decide zNxF4 else false then decide zNxF6 else false) == true && true && true, false, 20, [rootF (Sp.mkA (Sp.qi 3) (Sp.qi (-2)) (Sp.qi 2)) (Sp.mkB (Sp.qi (-2)) (Sp.qi 2)) (Sp.mkC (Sp.qi (-2)) (Sp.qi 2))], [], vi zNxF10, []⟩, ⟨zNxF17 == true && true && true, false, 20, [rootF (Sp.mkA (Sp.qi 4) (Sp.qi (-3)) (Sp.qi 2)) (Sp.mkB (Sp.qi (-3)) (Sp.qi 2)) (Sp.mkC (Sp.qi (-3)) (Sp.qi 2))], [], vi zNxF11, []⟩]) (vb (bif bif bif bif decide zNxF1 then decide zNxF4 else false then decide zNxF6 else false then Sp.sgO (Sp.mkA (Sp.qi 3) (Sp.qi (-2)) (Sp.qi 2)) (Sp.mkB (Sp.qi (-2)) (Sp.qi 2)) (Sp.mkC (Sp.qi (-2)) (Sp.qi 2)) == 1 else false then Sp.sgO (Sp.mkA (Sp.qi 4) (Sp.qi (-3)) (Sp.qi 2)) (Sp.mkB (Sp.qi (-3)) (Sp.qi 2)) (Sp.mkC (Sp.qi (-3)) (Sp.qi 2)) == -1 else false)) (by kernel_rfl) (bc (beq_f (fun h => d17 ((i_bor (i_not i_dec) (i_not i_dec)).1 h))) (bc rfl (bc rfl (bc rfl (bc rfl (bc rfl (bc (Bool.or_true _) (bc (Bool.or_true _) (bc (Bool.or_true _) (bc (Bool.or_true _) b0)))))))))) q0 (cc (fun _ => (@ev39_n (false) (false) (false) (false) (false) (false) (Sp.mkA (Sp.qi 1) (Sp.qi 1) (Sp.qi 2)) (Sp.mkB (Sp.qi 1) (Sp.qi 2)) (Sp.mkC (Sp.qi 1) (Sp.qi 2)) k37 d18)) (cc (fun _ => (@ev44 (3) (-2) (2) k38)) (cc (fun _ => (@ev44 (4) (-3) (2) k39)) (cc (fun hc => ((@ev45 (-1) (1) (2) (0) (0) (0) (k41 ((i_at (i_at (i_bt (i_var _)))).1 hc))) : Ev M1 (Conf.pure 45 [zNxF15]) (rootF zNxF12 (Sp.mkB (Sp.qf 1 (0 + 1)) (Sp.qf 2 (0 + 1))) (Sp.mkC (Sp.qf 1 (0 + 1)) (Sp.qf 2 (0 + 1)))) [])) (cc (fun _ => (@ev22 (false) (false) (false) (false) (false) (false) (false) (false) (false) (false) (false) (false) zNxF14 (-Sp.mkB (Sp.qi 1) (Sp.qi 2) * Sp.ivn (Sp.mkA (Sp.qi 1) (Sp.qi 1) (Sp.qi 2)) (Sp.mkB (Sp.qi 1) (Sp.qi 2)) (Sp.mkC (Sp.qi 1) (Sp.qi 2))) zNxF13 zNxF12 (Sp.mkB (Sp.qf 1 (0 + 1)) (Sp.qf 2 (0 + 1))) (Sp.mkC (Sp.qf 1 (0 + 1)) (Sp.qf 2 (0 + 1))) k42)) (cc (fun hc => ((@ev11 (false) (false) (false) (false) (false) (false) (Sp.mkA (Sp.qi 1) (Sp.qi 1) (Sp.qi 2)) (Sp.mkB (Sp.qi 1) (Sp.qi 2)) (Sp.mkC (Sp.qi 1) (Sp.qi 2)) (k44 ((i_at (i_at (i_bt i_dec))).1 hc))) : Ev M1 (Conf.pure 11 [rootF (Sp.mkA (Sp.qi 1) (Sp.qi 1) (Sp.qi 2)) (Sp.mkB (Sp.qi 1) (Sp.qi 2)) (Sp.mkC (Sp.qi 1) (Sp.qi 2))]) (bigA false zNxF7) [])) (cc (fun hc => ((@ev46 (false) zNxF7 (2) (k46 ((i_at (i_at (i_bt i_dec))).1 hc))) : Ev M1 (Conf.pure 46 [bigA false zNxF7, vi 2]) (vb (decide zNxF4)) [])) (cc (fun hc => ((@ev11 (false) (false) (false) (false) (false) (false) (Sp.mkA (Sp.qi 1) (Sp.qi (-1)) (Sp.qi 2)) (Sp.mkB (Sp.qi (-1)) (Sp.qi 2)) (Sp.mkC (Sp.qi (-1)) (Sp.qi 2)) (k48 ((i_at (i_at (i_bt (i_band i_dec i_dec)))).1 hc))) : Ev M1 (Conf.pure 11 [rootF (Sp.mkA (Sp.qi 1) (Sp.qi (-1)) (Sp.qi 2)) (Sp.mkB (Sp.qi (-1)) (Sp.qi 2)) (Sp.mkC (Sp.qi (-1)) (Sp.qi 2))]) (bigA false zNxF5) [])) (cc (fun hc => ((@ev46 (false) zNxF5 (-1) (k50 ((i_at (i_at (i_bt (i_band i_dec i_dec)))).1 hc))) : Ev M1 (Conf.pure 46 [bigA false zNxF5, vi (-1)]) (vb (decide zNxF6)) [])) (cc (fun hc => ((@ev20 (false) (false) (false) (false) (false) (false) (Sp.mkA (Sp.qi 3) (Sp.qi (-2)) (Sp.qi 2)) (Sp.mkB (Sp.qi (-2)) (Sp.qi 2)) (Sp.mkC (Sp.qi (-2)) (Sp.qi 2)) (k52 ((i_at (i_at (i_bt (i_band (i_band i_dec i_dec) i_dec)))).1 hc))) : Ev M1 (Conf.pure 20 [rootF (Sp.mkA (Sp.qi 3) (Sp.qi (-2)) (Sp.qi 2)) (Sp.mkB (Sp.qi (-2)) (Sp.qi 2)) (Sp.mkC (Sp.qi (-2)) (Sp.qi 2))]) (vi zNxF10) [])) (cc (fun hc => ((@ev20 (false) (false) (false) (false) (false) (false) (Sp.mkA (Sp.qi 4) (Sp.qi (-3)) (Sp.qi 2)) (Sp.mkB (Sp.qi (-3)) (Sp.qi 2)) (Sp.mkC (Sp.qi (-3)) (Sp.qi 2)) (k54 ((i_at (i_at (i_bt (i_band (i_band (i_band i_dec i_dec) i_dec) i_eq)))).1 hc))) : Ev M1 (Conf.pure 20 [rootF (Sp.mkA (Sp.qi 4) (Sp.qi (-3)) (Sp.qi 2)) (Sp.mkB (Sp.qi (-3)) (Sp.qi 2)) (Sp.mkC (Sp.qi (-3)) (Sp.qi 2))]) (vi zNxF11) [])) c0))))))))))) H
 ·have H := H.2 d4
  obtain ⟨k55, H⟩ := H
  obtain ⟨k56, H⟩ := H
  obtain ⟨k57, H⟩ := H
  obtain ⟨k58, H⟩ := H
  obtain ⟨k60, H⟩ := H
  obtain ⟨b2, H⟩ := H
  obtain ⟨k62, H⟩ := H
  obtain ⟨k64, H⟩ := H
  obtain ⟨k66, H⟩ := H
  exact path_re (G := given kp9 [(1, 0, .call (ratA false false (Sp.qi 1)) none), (1, 1, .call (ratA false false (Sp.qi 2)) none), (1, 2, .call (ratA false false (Sp.qf 9 4)) none), (1, 3, .call (tu [zNxF3, vi 7]) none), (2, 0, .call (tu [rootF (Sp.mkA (Sp.qi 0) (Sp.qi 1) (Sp.qi 8)) (Sp.mkB (Sp.qi 1) (Sp.qi 8)) (Sp.mkC (Sp.qi 1) (Sp.qi 8)), vb true]) none), (3, 0, .call (tu [rootF (Sp.mkA (Sp.qi 1) (Sp.qi 1) (Sp.qi 2)) (Sp.mkB (Sp.qi 1) (Sp.qi 2)) (Sp.mkC (Sp.qi 1) (Sp.qi 2)), vb true]) none), (4, 0, .call (tu [rootF (Sp.mkA (Sp.qi 1) (Sp.qi (-1)) (Sp.qi 2)) (Sp.mkB (Sp.qi (-1)) (Sp.qi 2)) (Sp.mkC (Sp.qi (-1)) (Sp.qi 2)), vb true]) none), (5, 16, .call (rootF (Sp.qi 4) (Sp.qi 0) (Sp.qi 0)) none), (5, 17, .call (vb b2) none), (5, 23, .call (rootF zNxF9 (Sp.mkB (Sp.qf 1 (0 + 1)) (Sp.qf 8 (0 + 1))) (Sp.mkC (Sp.qf 1 (0 + 1)) (Sp.qf 8 (0 + 1)))) none), (5, 24, .call (vb (decide zNxF2)) none)] []) 1000 [true] (calls := [⟨true, false, 18, [vi 1], [], ratA false false (Sp.qi 1), []⟩, ⟨true, false, 18, [vi 2], [], ratA false false (Sp.qi 2), []⟩, ⟨true, false, 43, [vi 9, vi 4], [], ratA false false (Sp.qf 9 4), []⟩, ⟨true, false, 42, [ratA false false (Sp.qi 1), ratA false false (Sp.qi 2), ratA false false (Sp.qf 9 4)], [], tu [zNxF3, vi 7], []⟩, ⟨true, false, 44, [vi 0, vi 1, vi 8], [], tu [rootF (Sp.mkA (Sp.qi 0) (Sp.qi 1) (Sp.qi 8)) (Sp.mkB (Sp.qi 1) (Sp.qi 8)) (Sp.mkC (Sp.qi 1) (Sp.qi 8)), vb true], []⟩, ⟨true, false, 44, [vi 1, vi 1, vi 2], [], tu [rootF (Sp.mkA (Sp.qi 1) (Sp.qi 1) (Sp.qi 2)) (Sp.mkB (Sp.qi 1) (Sp.qi 2)) (Sp.mkC (Sp.qi 1) (Sp.qi 2)), vb true], []⟩, ⟨true, false, 44, [vi 1, vi (-1), vi 2], [], tu [rootF (Sp.mkA (Sp.qi 1) (Sp.qi (-1)) (Sp.qi 2)) (Sp.mkB (Sp.qi (-1)) (Sp.qi 2)) (Sp.mkC (Sp.qi (-1)) (Sp.qi 2)), vb true], []⟩, ⟨true == false && true && true, false, 41, [vi 4], [], rootF (Sp.qi 4) (Sp.qi 0) (Sp.qi 0), []⟩, ⟨false, false, 22, [zNxF3, rootF (Sp.qi 4) (Sp.qi 0) (Sp.qi 0)], [], vb b2, []⟩, ⟨false, false, 45, [zNxF16], [], rootF zNxF9 (Sp.mkB (Sp.qf 1 (0 + 1)) (Sp.qf 8 (0 + 1))) (Sp.mkC (Sp.qf 1 (0 + 1)) (Sp.qf 8 (0 + 1))), []⟩, ⟨false, false, 22, [rootF (Sp.mkA (Sp.qi 0) (Sp.qi 1) (Sp.qi 8)) (Sp.mkB (Sp.qi 1) (Sp.qi 8)) (Sp.mkC (Sp.qi 1) (Sp.qi 8)), rootF zNxF9 (Sp.mkB (Sp.qf 1 (0 + 1)) (Sp.qf 8 (0 + 1))) (Sp.mkC (Sp.qf 1 (0 + 1)) (Sp.qf 8 (0 + 1)))], [], vb (decide zNxF2), []⟩]) (vb false) (by kernel_rfl) (bc rfl (bc rfl (bc rfl (bc rfl (bc rfl (bc rfl (bc rfl b0))))))) q0 (cc (fun _ => (@ev18 (1) k1)) (cc (fun _ => (@ev18 (2) k2)) (cc (fun _ => (@ev43 (9) (4) k3)) (cc (fun _ => (@ev42_n (false) (false) (false) (false) (false) (false) (Sp.qi 1) (Sp.qi 2) (Sp.qf 9 4) k55 d4)) (cc (fun _ => (@ev44 (0) (1) (8) k56)) (cc (fun _ => (@ev44 (1) (1) (2) k57)) (cc (fun _ => (@ev44 (1) (-1) (2) k58)) (cc (fun hc => ((@ev41 (4) (k60 ((i_at (i_at (i_bf (i_var _)))).1 hc))) : Ev M1 (Conf.pure 41 [vi 4]) (rootF (Sp.qi 4) (Sp.qi 0) (Sp.qi 0)) [])) (cc (fun hc => ((k62 ((i_var _).1 hc)) : Ev M1 (Conf.pure 22 [zNxF3, rootF (Sp.qi 4) (Sp.qi 0) (Sp.qi 0)]) (vb b2) [])) (cc (fun hc => ((@ev45 (0) (1) (8) (0) (0) (0) (k64 ((i_var _).1 hc))) : Ev M1 (Conf.pure 45 [zNxF16]) (rootF zNxF9 (Sp.mkB (Sp.qf 1 (0 + 1)) (Sp.qf 8 (0 + 1))) (Sp.mkC (Sp.qf 1 (0 + 1)) (Sp.qf 8 (0 + 1)))) [])) (cc (fun hc => ((@ev22 (false) (false) (false) (false) (false) (false) (false) (false) (false) (false) (false) (false) (Sp.mkA (Sp.qi 0) (Sp.qi 1) (Sp.qi 8)) (Sp.mkB (Sp.qi 1) (Sp.qi 8)) (Sp.mkC (Sp.qi 1) (Sp.qi 8)) zNxF9 (Sp.mkB (Sp.qf 1 (0 + 1)) (Sp.qf 8 (0 + 1))) (Sp.mkC (Sp.qf 1 (0 + 1)) (Sp.qf 8 (0 + 1))) (k66 ((i_var _).1 hc))) : Ev M1 (Conf.pure 22 [rootF (Sp.mkA (Sp.qi 0) (Sp.qi 1) (Sp.qi 8)) (Sp.mkB (Sp.qi 1) (Sp.qi 8)) (Sp.mkC (Sp.qi 1) (Sp.qi 8)), rootF zNxF9 (Sp.mkB (Sp.qf 1 (0 + 1)) (Sp.qf 8 (0 + 1))) (Sp.mkC (Sp.qf 1 (0 + 1)) (Sp.qf 8 (0 + 1)))]) (vb (decide zNxF2)) [])) c0))))))))))) H
end Go.Av

namespace Go.Av
open Go.Proofs
theorem sq_of {a r : Nat} (h1 : r * r <= a) (h2 : a < (r + 1) * (r + 1)) : Sp.sq (a : Int) = r := by
 unfold Sp.sq
 rw [if_neg (by omega), Int.natAbs_natCast, isqrt_eq ⟨h1, h2⟩]
theorem nsq_int {n r : Nat} (h1 : r * r < n) (h2 : n < (r + 1) * (r + 1)) : ¬Sp.rsq (Sp.qi (n : Int)) := by
 intro h
 have := ((isSq_iff _).1 h.1).2
 rw [qi_eq, Rat.num_intCast, sq_of (Nat.le_of_lt h1) h2] at this
 have e : ((r * r : Nat) : Int) = (n : Int) := by rw [Int.natCast_mul]; exact this
 omega
theorem mk_ns {c : Rat} (h : ¬Sp.rsq c) (a b : Rat) : Sp.mkA a b c = a /\ Sp.mkB b c = b /\ Sp.mkC b c = Sp.rad b c := ⟨if_neg h, if_neg h, if_neg h⟩
theorem qf_one (n : Int) : Sp.qf n (0 + 1) = Sp.qi n := by
 rw [qf_eq, qi_eq]
 have e : ((0 : Int) + 1) = 1 := rfl
 rw [e]
 obtain ⟨e1, e2⟩ := rat_pos (a := n) (b := 1) (by omega)
 apply Rat.ext
 ·rw [e1, Int.gcd_one]; simp
 ·rw [Int.gcd_one] at e2
  have : ((n : Rat).den : Int) = 1 := by rw [Rat.den_intCast]; rfl
  simp at e2
  omega
theorem qi_mul (a b : Int) : Sp.qi a * Sp.qi b = Sp.qi (a * b) := by rw [qi_eq, qi_eq, qi_eq, Rat.intCast_mul]
theorem qi_sub (a b : Int) : Sp.qi a - Sp.qi b = Sp.qi (a - b) := by rw [qi_eq, qi_eq, qi_eq, Rat.intCast_sub]
theorem qi_neg (a : Int) : -Sp.qi a = Sp.qi (-a) := by rw [qi_eq, qi_eq, Rat.intCast_neg]
theorem qi_num (a : Int) : (Sp.qi a).num = a /\ ((Sp.qi a).den : Int) = 1 := by rw [qi_eq, Rat.num_intCast, Rat.den_intCast]; exact ⟨rfl, rfl⟩
theorem qi_ne {a : Int} (h : a ≠ 0) : Sp.qi a ≠ 0 := fun e => h (by have := (qi_num a).1; rw [e] at this; exact this.symm)
theorem rad_ne {b : Int} (h : b ≠ 0) (c : Rat) : Sp.rad (Sp.qi b) c = c := if_neg (qi_ne h)
theorem sgR_int (a : Int) : Sp.sgR (Sp.qi a) = Sp.sgnI a := by unfold Sp.sgR; rw [(qi_num a).1]
theorem sgO_int (a b c : Int) : Sp.sgO (Sp.qi a) (Sp.qi b) (Sp.qi c) = if Sp.sgnI b = 0 \/ Sp.sgnI a = Sp.sgnI b then Sp.sgnI a else if Sp.sgnI a = 0 then Sp.sgnI b else Sp.sgnI a * Sp.sgnI (a * a - b * b * c) := by
 unfold Sp.sgO
 rw [qi_mul, qi_mul, qi_mul, qi_sub, sgR_int, sgR_int, sgR_int]
theorem fl_int {a b c : Int} (hb : b ≠ 0) : Sp.fl (Sp.qi a) (Sp.qi b) (Sp.qi c) = Sp.flo (a * 1 + (if b < 0 then -(Sp.sq (1 * 1 * (b * b * c * 1)) + 1) else Sp.sq (1 * 1 * (b * b * c * 1)))) (1 * 1) := by
 unfold Sp.fl Sp.flW
 rw [if_neg (qi_ne hb), qi_mul, qi_mul]
 simp only [qi_num]
theorem nn94 : Sp.isNN (Sp.qf 9 4) := nn_qf (by omega) (by omega)
theorem rsq94 : Sp.rsq (Sp.qf 9 4) := rsq_of (s := Rat.divInt 3 2) (by rw [qf_eq, Rat.divInt_mul_divInt]; rfl)
theorem rt94 : Sp.rt (Sp.qf 9 4) = Rat.divInt 3 2 := by
 have e : (Sp.qf 9 4).num = 9 /\ ((Sp.qf 9 4).den : Int) = 4 := by rw [qf_eq]; decide
 unfold Sp.rt
 rw [e.1, e.2]
 have h9 : Sp.sq 9 = 3 := sq_of (a := 9) (r := 3) (by decide) (by decide)
 have h4 : Sp.sq 4 = 2 := sq_of (a := 4) (r := 2) (by decide) (by decide)
 rw [h9, h4]
theorem mk94 : Sp.mkA (Sp.qi 1) (Sp.qi 2) (Sp.qf 9 4) = Sp.qi 4 /\ Sp.mkB (Sp.qi 2) (Sp.qf 9 4) = Sp.qi 0 /\ Sp.mkC (Sp.qi 2) (Sp.qf 9 4) = Sp.qi 0 := by
 refine ⟨?_, if_pos rsq94, if_pos rsq94⟩
 unfold Sp.mkA
 have d : (Rat.divInt 3 2).num = 3 /\ ((Rat.divInt 3 2).den : Int) = 2 := by decide
 have d2 : (Rat.divInt (2 * 3) (1 * 2)).num = 3 /\ ((Rat.divInt (2 * 3) (1 * 2)).den : Int) = 1 := by decide
 rw [if_pos rsq94, rt94, <- rat_mul, d.1, d.2, (qi_num 2).1, (qi_num 2).2, <- rat_add, d2.1, d2.2, (qi_num 1).1, (qi_num 1).2, qi_eq]
 decide
theorem okO_int {a b c : Int} (ha : Sp.inI a) (hb : Sp.inI b) (hc : Sp.inI c) : Sp.okO (Sp.qi a) (Sp.qi b) (Sp.qi c) := okT_O (okT_int ha) (okT_int hb) (okT_int hc) (by omega)
theorem ivn_int : Sp.ivn (Sp.qi 1) (Sp.qi 1) (Sp.qi 2) = Sp.qi (-1) := by
 unfold Sp.ivn
 rw [qi_mul, qi_mul, qi_sub, <- rat_div, (qi_num 1).1, (qi_num 1).2, (qi_num _).1, (qi_num _).2, qi_eq]
 decide
theorem okO_of94 : Sp.okO (Sp.qi 1) (Sp.qi 2) (Sp.qf 9 4) := okT_O (okT_int (by unfold Sp.inI; omega)) (okT_int (by unfold Sp.inI; omega)) (okT_qf (by unfold Sp.okF Sp.inI; omega)) (by omega)
end Go.Av

namespace Go.Av
open Go.Proofs
theorem inI_small {n : Int} (h : -100 <= n /\ n <= 100) : Sp.inI n := by unfold Sp.inI; omega
theorem ev9 : Ev M1 (.pure 9 []) (.bool true) [] := by
 have n2 : ¬Sp.rsq (Sp.qi 2) := nsq_int (n := 2) (r := 1) (by decide) (by decide)
 have n8 : ¬Sp.rsq (Sp.qi 8) := nsq_int (n := 8) (r := 2) (by decide) (by decide)
 have s2 : Sp.sq 2 = 1 := sq_of (a := 2) (r := 1) (by decide) (by decide)
 have a2 : ∀ a b, Sp.mkA a b (Sp.qi 2) = a := fun a b => (mk_ns n2 a b).1
 have b2 : ∀ b, Sp.mkB b (Sp.qi 2) = b := fun b => (mk_ns n2 b b).2.1
 have c2 : ∀ b, Sp.mkC b (Sp.qi 2) = Sp.rad b (Sp.qi 2) := fun b => (mk_ns n2 b b).2.2
 have a8 : ∀ a b, Sp.mkA a b (Sp.qi 8) = a := fun a b => (mk_ns n8 a b).1
 have b8 : ∀ b, Sp.mkB b (Sp.qi 8) = b := fun b => (mk_ns n8 b b).2.1
 have c8 : ∀ b, Sp.mkC b (Sp.qi 8) = Sp.rad b (Sp.qi 8) := fun b => (mk_ns n8 b b).2.2
 have r1 : ∀ c, Sp.rad (Sp.qi 1) c = c := rad_ne (by decide)
 have r2 : ∀ c, Sp.rad (Sp.qi (-1)) c = c := rad_ne (by decide)
 have r3 : ∀ c, Sp.rad (Sp.qi (-2)) c = c := rad_ne (by decide)
 have r4 : ∀ c, Sp.rad (Sp.qi (-3)) c = c := rad_ne (by decide)
 have m1 : Sp.qi 1 * Sp.qi (-1) = Sp.qi (-1) := qi_mul 1 (-1)
 have m2 : -Sp.qi 1 * Sp.qi (-1) = Sp.qi 1 := by rw [qi_neg, qi_mul]; rfl
 have g1 : Sp.sgO (Sp.qi 1) (Sp.qi 1) (Sp.qi 2) = 1 := by rw [sgO_int]; decide
 have g2 : Sp.sgO (Sp.qi 3) (Sp.qi (-2)) (Sp.qi 2) = 1 := by rw [sgO_int]; decide
 have g3 : Sp.sgO (Sp.qi 4) (Sp.qi (-3)) (Sp.qi 2) = -1 := by rw [sgO_int]; decide
 have f1 : Sp.fl (Sp.qi 1) (Sp.qi 1) (Sp.qi 2) = 2 := by
  rw [fl_int (by decide), show (1 : Int) * 1 * (1 * 1 * 2 * 1) = 2 from rfl, s2]; decide
 have f2 : Sp.fl (Sp.qi 1) (Sp.qi (-1)) (Sp.qi 2) = -1 := by
  rw [fl_int (by decide), show (1 : Int) * 1 * (-1 * -1 * 2 * 1) = 2 from rfl, s2]; decide
 have nm : Sp.nrm (Sp.qi 1) (Sp.qi 1) (Sp.qi 2) := by
  unfold Sp.nrm
  rw [qi_mul, qi_mul, qi_sub]
  exact qi_ne (by decide)
 refine call9 (lAwake _ ?_)
 simp only [mk94.1, mk94.2.1, mk94.2.2, qf_one, a2, b2, c2, a8, b8, c8, r1, r2, r3, r4, ivn_int, m1, m2, g1, g2, g3, f1, f2]
 have i (n : Int) (h : -100 <= n /\ n <= 100 := by decide) : Sp.inI n := inI_small h
 have o (a b c : Int) (h : (-100 <= a /\ a <= 100) /\ (-100 <= b /\ b <= 100) /\ (-100 <= c /\ c <= 100) := by decide) : Sp.okO (Sp.qi a) (Sp.qi b) (Sp.qi c) := okO_int (inI_small h.1) (inI_small h.2.1) (inI_small h.2.2)
 have m (a b c : Int) (h : (-100 <= a /\ a <= 100) /\ (-100 <= b /\ b <= 100) /\ (0 <= c /\ c <= 100) := by decide) : Sp.okM a b c := ⟨inI_small h.1, inI_small h.2.1, inI_small (by omega), h.2.2.1⟩
 have ok (a : Int) (h : -100 <= a /\ a <= 100 := by decide) : Sp.ok a := ok_inI (inI_small h)
 have d (a b c : Int) (h : (-100 <= a /\ a <= 100) /\ (-100 <= b /\ b <= 100) /\ (0 <= c /\ c <= 100) := by decide) : Sp.okSd a b c 0 0 0 := by unfold Sp.okSd; omega
 have okf : Sp.okF 9 4 := ⟨inI_small (by decide), inI_small (by decide), by decide⟩
 refine ⟨i 1, i 2, okf, fun _ => ⟨okO_of94, m 0 1 8, m 1 1 2, m 1 (-1) 2, fun _ => i 4, ⟨o 4 0 0, o 4 0 0⟩, fun _ => d 0 1 8, fun _ => ⟨o 0 1 8, o 0 1 8⟩, fun k => ?_, fun _ => ⟨fun k => ?_, fun _ => ⟨⟨o 1 1 2, nm⟩, m 3 (-2) 2, m 4 (-3) 2, fun _ => d (-1) 1 2, ⟨o (-1) 1 2, o (-1) 1 2⟩, fun _ => o 1 1 2, fun _ => ⟨ok 2, i 2⟩, fun _ => o 1 (-1) 2, fun _ => ⟨ok (-1), i (-1)⟩, fun _ => o 3 (-2) 2, fun _ => o 4 (-3) 2, ?_⟩⟩⟩, fun k => absurd nn94 k⟩
 ·exfalso
  rcases k with k | k
  ·exact k (by simp)
  ·exact k (by simp)
 ·exact absurd k (by decide)
 ·simp
end Go.Av

namespace Go.Av
open Go.Proofs
set_option maxRecDepth 100000
def fi21 : Fi := ⟨28, [.tmp 2]⟩
def kp21 : List (Nat × List Nat) := [(0, [1]), (1, [1, 3, 4]), (2, [1, 3, 4, 17]), (3, [2]), (4, [1, 3, 4, 20]), (5, [2]), (6, [3, 4, 25]), (7, [2]), (8, [2])]
def fi26 : Fi := ⟨16, [.cell 4 28]⟩
def kp26 : List (Nat × List Nat) := [(0, [2, 3, 4]), (1, [4])]
def fi47 : Fi := ⟨25, [.tmp 4]⟩
def kp47 : List (Nat × List Nat) := [(0, [1, 2]), (1, [4])]
def pSign_at (f1 f2 f3 f4 f5 f6 : Bool) (a b c : Rat) (Q : AV -> Heap -> Prop) : Prop := Wp M1 (.run fi21 (atC (cd Tryz.f21) []) [(0, .agg [.bool (Sp.isNeg a.num), .vec f1 1 ((Sp.limI a.num).map (.int .u32)), .bool (Sp.isNeg (a.den : Int)), .vec f2 1 ((Sp.limI (a.den : Int)).map (.int .u32)), .bool (Sp.isNeg b.num), .vec f3 1 ((Sp.limI b.num).map (.int .u32)), .bool (Sp.isNeg (b.den : Int)), .vec f4 1 ((Sp.limI (b.den : Int)).map (.int .u32)), .bool (Sp.isNeg c.num), .vec f5 1 ((Sp.limI c.num).map (.int .u32)), .bool (Sp.isNeg (c.den : Int)), .vec f6 1 ((Sp.limI (c.den : Int)).map (.int .u32))])] []) Q
def pScale_at (f1 f2 f3 f4 f5 f6 : Bool) (k l : Bool) (a b c r : Rat) (Q : AV -> Heap -> Prop) : Prop := Wp M1 (.run fi26 (atC (cd Tryz.f26) []) [(0, .agg [.bool (Sp.isNeg a.num), .vec f1 1 ((Sp.limI a.num).map (.int .u32)), .bool (Sp.isNeg (a.den : Int)), .vec f2 1 ((Sp.limI (a.den : Int)).map (.int .u32)), .bool (Sp.isNeg b.num), .vec f3 1 ((Sp.limI b.num).map (.int .u32)), .bool (Sp.isNeg (b.den : Int)), .vec f4 1 ((Sp.limI (b.den : Int)).map (.int .u32)), .bool (Sp.isNeg c.num), .vec f5 1 ((Sp.limI c.num).map (.int .u32)), .bool (Sp.isNeg (c.den : Int)), .vec f6 1 ((Sp.limI (c.den : Int)).map (.int .u32))]), (1, .agg [.bool (Sp.isNeg r.num), .vec k 1 ((Sp.limI r.num).map (.int .u32)), .bool (Sp.isNeg (r.den : Int)), .vec l 1 ((Sp.limI (r.den : Int)).map (.int .u32))])] []) Q
def pSmall_at (f1 f2 f3 f4 f5 f6 : Bool) (a b c : Rat) (n : Int) (Q : AV -> Heap -> Prop) : Prop := Wp M1 (.run fi47 (atC (cd Tryz.f47) []) [(0, .agg [.bool (Sp.isNeg a.num), .vec f1 1 ((Sp.limI a.num).map (.int .u32)), .bool (Sp.isNeg (a.den : Int)), .vec f2 1 ((Sp.limI (a.den : Int)).map (.int .u32)), .bool (Sp.isNeg b.num), .vec f3 1 ((Sp.limI b.num).map (.int .u32)), .bool (Sp.isNeg (b.den : Int)), .vec f4 1 ((Sp.limI (b.den : Int)).map (.int .u32)), .bool (Sp.isNeg c.num), .vec f5 1 ((Sp.limI c.num).map (.int .u32)), .bool (Sp.isNeg (c.den : Int)), .vec f6 1 ((Sp.limI (c.den : Int)).map (.int .u32))]), (1, .int .i64 n)] []) Q
def pSmallR_at (s1 s2 s3 t1 t2 t3 f1 f2 f3 g1 g2 g3 : Bool) (x1 x2 x3 y1 y2 y3 : List Int) (n : Int) (Q : AV -> Heap -> Prop) : Prop := Wp M1 (.run fi47 (atC (cd Tryz.f47) []) [(0, .agg [.bool s1, .vec f1 1 (x1.map (.int .u32)), .bool t1, .vec g1 1 (y1.map (.int .u32)), .bool s2, .vec f2 1 (x2.map (.int .u32)), .bool t2, .vec g2 1 (y2.map (.int .u32)), .bool s3, .vec f3 1 (x3.map (.int .u32)), .bool t3, .vec g3 1 (y3.map (.int .u32))]), (1, .int .i64 n)] []) Q
theorem call21 {args : List AV} {d : AV} (h : wc M1 fi21 Tryz.f21 args d) : Ev M1 (.pure 21 args) d [] := pcl _ _ (by kernel_rfl) h
theorem call26 {args : List AV} {d : AV} (h : wc M1 fi26 Tryz.f26 args d) : Ev M1 (.pure 26 args) d [] := pcl _ _ (by kernel_rfl) h
theorem call47 {args : List AV} {d : AV} (h : wc M1 fi47 Tryz.f47 args d) : Ev M1 (.pure 47 args) d [] := pcl _ _ (by kernel_rfl) h
theorem pSign (f1 f2 f3 f4 f5 f6 : Bool) (a b c : Rat)  (dq : AV) (H :
  (((Sp.sgnI a.num = Sp.sgnI b.num) \/ (Sp.sgnI b.num = 0)) -> vi (Sp.sgnI a.num) = dq) /\
  (¬((Sp.sgnI a.num = Sp.sgnI b.num) \/ (Sp.sgnI b.num = 0)) -> ((Sp.sgnI a.num = 0) -> vi (Sp.sgnI b.num) = dq) /\
   (¬(Sp.sgnI a.num = 0) -> (Sp.okO a b c) /\
    ((Sp.sgnI (a * a - b * b * c).num > 0) -> vi (Sp.sgnI a.num) = dq) /\
    (¬(Sp.sgnI (a * a - b * b * c).num > 0) -> vi (Sp.sgnI b.num) = dq)))) :
 pSign_at f1 f2 f3 f4 f5 f6 a b c (PureQ dq) := by
 unfold pSign_at
 refine path_wp (G := given kp21 [(1, 2, .call (vi (Sp.sgnI a.num)) none), (1, 5, .call (vi (Sp.sgnI b.num)) none)] []) 7 [] ⟨(atC (cd Tryz.f21) [1, 1, 0, 1]), [(1, AV.ptr 0 0 0 0), (3, vi (Sp.sgnI a.num)), (4, vi (Sp.sgnI b.num)), (17, vb (bif Sp.sgnI a.num == Sp.sgnI b.num then true else Sp.sgnI b.num == 0))], [⟨[rootA f1 f2 f3 f4 f5 f6 a b c], 12, 0, false, false⟩], _, [], _⟩ (by kernel_rfl) (bc rfl (bc rfl b0)) q0 (ce (@ev27 (f1) (f2) (a.num) ((↑a.den : Int))) (ce (@ev27 (f3) (f4) (b.num) ((↑b.den : Int))) c0)) ?_
 rcases xm ((Sp.sgnI a.num = Sp.sgnI b.num) \/ (Sp.sgnI b.num = 0)) with d2 | d2
 ·have H := H.1 d2
  exact path_re (G := given kp21 [] []) 1000 [true] (vi (Sp.sgnI a.num)) (by kernel_rfl) (bc (beq_t ((i_bor i_eq i_eq).2 d2)) b0) q0 c0 H
 ·have H := H.2 d2
  rcases xm (Sp.sgnI a.num = 0) with d4 | d4
  ·have H := H.1 d4
   exact path_re (G := given kp21 [] []) 1000 [false, true] (vi (Sp.sgnI b.num)) (by kernel_rfl) (bc (beq_f (fun h => d2 ((i_bor i_eq i_eq).1 h))) (bc (beq_t (i_eq.2 d4)) b0)) q0 c0 H
  ·have H := H.2 d4
   obtain ⟨k5, H⟩ := H
   refine path_wp (G := given kp21 [(6, 1, .call (ratA false false (a * a - b * b * c)) none), (6, 2, .call (vi (Sp.sgnI (a * a - b * b * c).num)) none)] []) 10 [false, false] ⟨(atC (cd Tryz.f21) [1, 1, 1, 1, 0, 1]), [(3, vi (Sp.sgnI a.num)), (4, vi (Sp.sgnI b.num)), (25, vb (decide (Sp.sgnI (a * a - b * b * c).num > 0)))], [⟨[rootA f1 f2 f3 f4 f5 f6 a b c], 12, 0, false, false⟩], _, [], _⟩ (by kernel_rfl) (bc (beq_f (fun h => d2 ((i_bor i_eq i_eq).1 h))) (bc (beq_f (fun h => d4 (i_eq.1 h))) (bc rfl b0))) q0 (ce (@ev73 (f1) (f2) (f3) (f4) (f5) (f6) (a) (b) (c) k5) (ce (@ev27 (false) (false) ((a * a - b * b * c).num) ((↑(a * a - b * b * c).den : Int))) c0)) ?_
   rcases xm (Sp.sgnI (a * a - b * b * c).num > 0) with d7 | d7
   ·have H := H.1 d7
    exact path_re (G := given kp21 [] []) 1000 [true] (vi (Sp.sgnI a.num)) (by kernel_rfl) (bc (beq_t (i_dec.2 d7)) b0) q0 c0 H
   ·have H := H.2 d7
    exact path_re (G := given kp21 [] []) 1000 [false] (vi (Sp.sgnI b.num)) (by kernel_rfl) (bc (beq_f (fun h => d7 (i_dec.1 h))) b0) q0 c0 H
theorem pScale (f1 f2 f3 f4 f5 f6 : Bool) (k l : Bool) (a b c r : Rat)  (dq : AV) (H :
  (Sp.okR a /\ Sp.okR r) /\
  (Sp.okR b /\ Sp.okR r) /\
  Weak (rootF (a * r) (Sp.prB (b * r) c) (Sp.prC (b * r) c)) dq) :
 pScale_at f1 f2 f3 f4 f5 f6 k l a b c r (PureQ dq) := by
 unfold pScale_at
 obtain ⟨k1, H⟩ := H
 obtain ⟨k2, H⟩ := H
 exact path_rq (G := given kp26 [(1, 3, .call (ratA false false (a * r)) none), (1, 7, .call (ratA false false (b * r)) none), (1, 10, .call (rootF (a * r) (Sp.prB (b * r) c) (Sp.prC (b * r) c)) none)] []) 1000 [] (rootF (a * r) (Sp.prB (b * r) c) (Sp.prC (b * r) c)) (by kernel_rfl) (bc rfl (bc rfl (bc rfl (bc rfl (bc rfl (bc rfl b0)))))) q0 (ce (@ev32 (f1) (f2) (k) (l) (a) (r) k1) (ce (@ev32 (f3) (f4) (k) (l) (b) (r) k2) (ce (@ev77 (false) (false) (false) (false) (f5) (f6) (a * r) (b * r) (c)) c0))) H
noncomputable abbrev zNyA3 (n : Int) (a : Rat) (b : Rat) (c : Rat) := bif bif Sp.smallB n (Sp.isNeg a.num) (Sp.limI a.num) (Sp.isNeg (↑a.den : Int)) (Sp.limI (↑a.den : Int)) then Sp.smallB n (Sp.isNeg b.num) (Sp.limI b.num) (Sp.isNeg (↑b.den : Int)) (Sp.limI (↑b.den : Int)) else false then Sp.smallB n (Sp.isNeg c.num) (Sp.limI c.num) (Sp.isNeg (↑c.den : Int)) (Sp.limI (↑c.den : Int)) else false
noncomputable abbrev zNyA4 (n : Int) (a : Rat) (b : Rat) := bif Sp.smallB n (Sp.isNeg a.num) (Sp.limI a.num) (Sp.isNeg (↑a.den : Int)) (Sp.limI (↑a.den : Int)) then Sp.smallB n (Sp.isNeg b.num) (Sp.limI b.num) (Sp.isNeg (↑b.den : Int)) (Sp.limI (↑b.den : Int)) else false
noncomputable abbrev zNyA5 (n : Int) (b : Rat) := Sp.smallB n (Sp.isNeg b.num) (Sp.limI b.num) (Sp.isNeg (↑b.den : Int)) (Sp.limI (↑b.den : Int))
noncomputable abbrev zNyA6 (n : Int) (c : Rat) := Sp.smallB n (Sp.isNeg c.num) (Sp.limI c.num) (Sp.isNeg (↑c.den : Int)) (Sp.limI (↑c.den : Int))
theorem pSmall (f1 f2 f3 f4 f5 f6 : Bool) (a b c : Rat) (n : Int)  (dq : AV) (H :
  (Sp.okU n (Sp.limI a.num) (Sp.limI (↑a.den : Int))) /\
  ((Sp.smallB n (Sp.isNeg a.num) (Sp.limI a.num) (Sp.isNeg (↑a.den : Int)) (Sp.limI (↑a.den : Int)) = true) -> (Sp.okU n (Sp.limI b.num) (Sp.limI (↑b.den : Int)))) /\
  (((Sp.smallB n (Sp.isNeg a.num) (Sp.limI a.num) (Sp.isNeg (↑a.den : Int)) (Sp.limI (↑a.den : Int)) = true) /\ (Sp.smallB n (Sp.isNeg b.num) (Sp.limI b.num) (Sp.isNeg (↑b.den : Int)) (Sp.limI (↑b.den : Int)) = true)) -> (Sp.okU n (Sp.limI c.num) (Sp.limI (↑c.den : Int)))) /\
  ((((Sp.smallB n (Sp.isNeg a.num) (Sp.limI a.num) (Sp.isNeg (↑a.den : Int)) (Sp.limI (↑a.den : Int)) = true) /\ (Sp.smallB n (Sp.isNeg b.num) (Sp.limI b.num) (Sp.isNeg (↑b.den : Int)) (Sp.limI (↑b.den : Int)) = true)) /\ (Sp.smallB n (Sp.isNeg c.num) (Sp.limI c.num) (Sp.isNeg (↑c.den : Int)) (Sp.limI (↑c.den : Int)) = true)) -> (Sp.okO a b c)) /\
  vb (bif bif bif Sp.smallB n (Sp.isNeg a.num) (Sp.limI a.num) (Sp.isNeg (↑a.den : Int)) (Sp.limI (↑a.den : Int)) then Sp.smallB n (Sp.isNeg b.num) (Sp.limI b.num) (Sp.isNeg (↑b.den : Int)) (Sp.limI (↑b.den : Int)) else false then Sp.smallB n (Sp.isNeg c.num) (Sp.limI c.num) (Sp.isNeg (↑c.den : Int)) (Sp.limI (↑c.den : Int)) else false then Sp.vroot b c else false) = dq) :
 pSmall_at f1 f2 f3 f4 f5 f6 a b c n (PureQ dq) := by
 unfold pSmall_at
 obtain ⟨k1, H⟩ := H
 obtain ⟨k3, H⟩ := H
 obtain ⟨k5, H⟩ := H
 obtain ⟨k7, H⟩ := H
 exact path_re (G := given kp47 [(1, 3, .call (vb (Sp.smallB n (Sp.isNeg a.num) (Sp.limI a.num) (Sp.isNeg (↑a.den : Int)) (Sp.limI (↑a.den : Int)))) none), (1, 8, .call (vb (zNyA5 n b)) none), (1, 14, .call (vb (zNyA6 n c)) none), (1, 18, .call (vb (Sp.vroot b c)) none)] []) 1000 [] (asm := [true, !(Sp.smallB n (Sp.isNeg a.num) (Sp.limI a.num) (Sp.isNeg (↑a.den : Int)) (Sp.limI (↑a.den : Int)) == true && true) || true, !((zNyA4 n a b) == true && true) || true, !((zNyA3 n a b c) == true && true) || true]) (calls := [⟨true, false, 19, [ratA f1 f2 a, vi n], [], vb (Sp.smallB n (Sp.isNeg a.num) (Sp.limI a.num) (Sp.isNeg (↑a.den : Int)) (Sp.limI (↑a.den : Int))), []⟩, ⟨Sp.smallB n (Sp.isNeg a.num) (Sp.limI a.num) (Sp.isNeg (↑a.den : Int)) (Sp.limI (↑a.den : Int)) == true && true && true, false, 19, [ratA f3 f4 b, vi n], [], vb (zNyA5 n b), []⟩, ⟨(zNyA4 n a b) == true && true && true, false, 19, [ratA f5 f6 c, vi n], [], vb (zNyA6 n c), []⟩, ⟨(zNyA3 n a b c) == true && true && true, false, 93, [rootA f1 f2 f3 f4 f5 f6 a b c], [], vb (Sp.vroot b c), []⟩]) (vb (bif bif bif Sp.smallB n (Sp.isNeg a.num) (Sp.limI a.num) (Sp.isNeg (↑a.den : Int)) (Sp.limI (↑a.den : Int)) then Sp.smallB n (Sp.isNeg b.num) (Sp.limI b.num) (Sp.isNeg (↑b.den : Int)) (Sp.limI (↑b.den : Int)) else false then Sp.smallB n (Sp.isNeg c.num) (Sp.limI c.num) (Sp.isNeg (↑c.den : Int)) (Sp.limI (↑c.den : Int)) else false then Sp.vroot b c else false)) (by kernel_rfl) (bc rfl (bc (Bool.or_true _) (bc (Bool.or_true _) (bc (Bool.or_true _) b0)))) q0 (cc (fun _ => (@ev19 (Sp.isNeg a.num) (f1) (Sp.isNeg (↑a.den : Int)) (f2) (Sp.limI a.num) (Sp.limI (↑a.den : Int)) (n) k1)) (cc (fun hc => ((@ev19 (Sp.isNeg b.num) (f3) (Sp.isNeg (↑b.den : Int)) (f4) (Sp.limI b.num) (Sp.limI (↑b.den : Int)) (n) (k3 ((i_at (i_at (i_bt (i_var _)))).1 hc))) : Ev M1 (Conf.pure 19 [ratA f3 f4 b, vi n]) (vb (zNyA5 n b)) [])) (cc (fun hc => ((@ev19 (Sp.isNeg c.num) (f5) (Sp.isNeg (↑c.den : Int)) (f6) (Sp.limI c.num) (Sp.limI (↑c.den : Int)) (n) (k5 ((i_at (i_at (i_bt (i_band (i_var _) (i_var _))))).1 hc))) : Ev M1 (Conf.pure 19 [ratA f5 f6 c, vi n]) (vb (zNyA6 n c)) [])) (cc (fun hc => ((@ev93 (f1) (f2) (f3) (f4) (f5) (f6) (a) (b) (c) (k7 ((i_at (i_at (i_bt (i_band (i_band (i_var _) (i_var _)) (i_var _))))).1 hc))) : Ev M1 (Conf.pure 93 [rootA f1 f2 f3 f4 f5 f6 a b c]) (vb (Sp.vroot b c)) [])) c0)))) H
theorem pSmallR (s1 s2 s3 t1 t2 t3 f1 f2 f3 g1 g2 g3 : Bool) (x1 x2 x3 y1 y2 y3 : List Int) (n : Int)  (dq : AV) (H :
  (Sp.okU n x1 y1) /\
  ((Sp.smallB n s1 x1 t1 y1 = true) -> (Sp.okU n x2 y2)) /\
  (((Sp.smallB n s1 x1 t1 y1 = true) /\ (Sp.smallB n s2 x2 t2 y2 = true)) -> (Sp.okU n x3 y3)) /\
  ∃ (b1 : Bool),
  ((((Sp.smallB n s1 x1 t1 y1 = true) /\ (Sp.smallB n s2 x2 t2 y2 = true)) /\ (Sp.smallB n s3 x3 t3 y3 = true)) -> (Ev M1 (Conf.pure 93 [ag [vb s1, AV.vec f1 1 (us x1), vb t1, AV.vec g1 1 (us y1), vb s2, AV.vec f2 1 (us x2), vb t2, AV.vec g2 1 (us y2), vb s3, AV.vec f3 1 (us x3), vb t3, AV.vec g3 1 (us y3)]]) (vb b1) [])) /\
  vb (bif bif bif Sp.smallB n s1 x1 t1 y1 then Sp.smallB n s2 x2 t2 y2 else false then Sp.smallB n s3 x3 t3 y3 else false then b1 else false) = dq) :
 pSmallR_at s1 s2 s3 t1 t2 t3 f1 f2 f3 g1 g2 g3 x1 x2 x3 y1 y2 y3 n (PureQ dq) := by
 unfold pSmallR_at
 obtain ⟨k1, H⟩ := H
 obtain ⟨k3, H⟩ := H
 obtain ⟨k5, H⟩ := H
 obtain ⟨b1, H⟩ := H
 obtain ⟨k7, H⟩ := H
 exact path_re (G := given kp47 [(1, 3, .call (vb (Sp.smallB n s1 x1 t1 y1)) none), (1, 8, .call (vb (Sp.smallB n s2 x2 t2 y2)) none), (1, 14, .call (vb (Sp.smallB n s3 x3 t3 y3)) none), (1, 18, .call (vb b1) none)] []) 1000 [] (asm := [true, !(Sp.smallB n s1 x1 t1 y1 == true && true) || true, !((bif Sp.smallB n s1 x1 t1 y1 then Sp.smallB n s2 x2 t2 y2 else false) == true && true) || true, !((bif bif Sp.smallB n s1 x1 t1 y1 then Sp.smallB n s2 x2 t2 y2 else false then Sp.smallB n s3 x3 t3 y3 else false) == true && true) || true]) (calls := [⟨true, false, 19, [ag [vb s1, AV.vec f1 1 (us x1), vb t1, AV.vec g1 1 (us y1)], vi n], [], vb (Sp.smallB n s1 x1 t1 y1), []⟩, ⟨Sp.smallB n s1 x1 t1 y1 == true && true && true, false, 19, [ag [vb s2, AV.vec f2 1 (us x2), vb t2, AV.vec g2 1 (us y2)], vi n], [], vb (Sp.smallB n s2 x2 t2 y2), []⟩, ⟨(bif Sp.smallB n s1 x1 t1 y1 then Sp.smallB n s2 x2 t2 y2 else false) == true && true && true, false, 19, [ag [vb s3, AV.vec f3 1 (us x3), vb t3, AV.vec g3 1 (us y3)], vi n], [], vb (Sp.smallB n s3 x3 t3 y3), []⟩, ⟨(bif bif Sp.smallB n s1 x1 t1 y1 then Sp.smallB n s2 x2 t2 y2 else false then Sp.smallB n s3 x3 t3 y3 else false) == true && true && true, false, 93, [ag [vb s1, AV.vec f1 1 (us x1), vb t1, AV.vec g1 1 (us y1), vb s2, AV.vec f2 1 (us x2), vb t2, AV.vec g2 1 (us y2), vb s3, AV.vec f3 1 (us x3), vb t3, AV.vec g3 1 (us y3)]], [], vb b1, []⟩]) (vb (bif bif bif Sp.smallB n s1 x1 t1 y1 then Sp.smallB n s2 x2 t2 y2 else false then Sp.smallB n s3 x3 t3 y3 else false then b1 else false)) (by kernel_rfl) (bc rfl (bc (Bool.or_true _) (bc (Bool.or_true _) (bc (Bool.or_true _) b0)))) q0 (cc (fun _ => (@ev19 (s1) (f1) (t1) (g1) (x1) (y1) (n) k1)) (cc (fun hc => ((@ev19 (s2) (f2) (t2) (g2) (x2) (y2) (n) (k3 ((i_at (i_at (i_bt (i_var _)))).1 hc))) : Ev M1 (Conf.pure 19 [ag [vb s2, AV.vec f2 1 (us x2), vb t2, AV.vec g2 1 (us y2)], vi n]) (vb (Sp.smallB n s2 x2 t2 y2)) [])) (cc (fun hc => ((@ev19 (s3) (f3) (t3) (g3) (x3) (y3) (n) (k5 ((i_at (i_at (i_bt (i_band (i_var _) (i_var _))))).1 hc))) : Ev M1 (Conf.pure 19 [ag [vb s3, AV.vec f3 1 (us x3), vb t3, AV.vec g3 1 (us y3)], vi n]) (vb (Sp.smallB n s3 x3 t3 y3)) [])) (cc (fun hc => ((k7 ((i_at (i_at (i_bt (i_band (i_band (i_var _) (i_var _)) (i_var _))))).1 hc)) : Ev M1 (Conf.pure 93 [ag [vb s1, AV.vec f1 1 (us x1), vb t1, AV.vec g1 1 (us y1), vb s2, AV.vec f2 1 (us x2), vb t2, AV.vec g2 1 (us y2), vb s3, AV.vec f3 1 (us x3), vb t3, AV.vec g3 1 (us y3)]]) (vb b1) [])) c0)))) H
end Go.Av

namespace Go.Av
open Go.Proofs
theorem okU_rat (r : Rat) : Sp.okU 4 (Sp.limI r.num) (Sp.limI (r.den : Int)) := ⟨by omega, fun x hx => (lim_ok _ x hx).1, fun x hx => (lim_ok _ x hx).1⟩
theorem small_rat {s t : Bool} {x y : List Int} (h : Sp.smallB 4 s x t y = true) : ∃ r : Rat, Sp.okT 4 r /\ s = Sp.isNeg r.num /\ x = Sp.limI r.num /\ t = Sp.isNeg (r.den : Int) /\ y = Sp.limI (r.den : Int) := by
 obtain ⟨h1, h2, r, rfl, rfl, rfl, rfl⟩ := smallB_iff.1 h
 rw [limI_len] at h1 h2
 rw [Int.natAbs_natCast] at h2
 exact ⟨r, ⟨by omega, by omega⟩, rfl, rfl, rfl, rfl⟩
theorem okT_q0 : Sp.okT 1 (Sp.qi 0) := by rw [qi_zero]; exact okT_zero
theorem okT_rad {k : Nat} {b c : Rat} (hc : Sp.okT k c) : Sp.okT (k + 1) (Sp.rad b c) := by
 unfold Sp.rad
 split
 ·exact okT_le okT_q0 (by omega)
 ·exact okT_le hc (by omega)
end Go.Av

namespace Go.Av
open Go.Proofs
noncomputable def Sp.sgP (a b c : Rat) : Int := if Sp.sgR a = Sp.sgR b \/ Sp.sgR b = 0 then Sp.sgR a else if Sp.sgR a = 0 then Sp.sgR b else if Sp.sgR (a * a - b * b * c) > 0 then Sp.sgR a else Sp.sgR b
theorem ev21 (f1 f2 f3 f4 f5 f6 : Bool) (a b c : Rat) (h : Sp.okO a b c) : Ev M1 (.pure 21 [rootA f1 f2 f3 f4 f5 f6 a b c]) (.int .i64 (Sp.sgP a b c)) [] := by
 refine call21 (pSign _ _ _ _ _ _ _ _ _ _ ⟨fun k => ?_, fun k => ⟨fun k2 => ?_, fun k2 => ⟨h, fun k3 => ?_, fun k3 => ?_⟩⟩⟩)
 ·unfold Sp.sgP Sp.sgR; rw [if_pos k]
 ·unfold Sp.sgP Sp.sgR; rw [if_neg k, if_pos k2]
 ·unfold Sp.sgP Sp.sgR; rw [if_neg k, if_neg k2, if_pos k3]
 ·unfold Sp.sgP Sp.sgR; rw [if_neg k, if_neg k2, if_neg k3]
theorem ev26 (f1 f2 f3 f4 f5 f6 l1 l2 : Bool) (a b c r : Rat) (h : Sp.okP a b /\ Sp.okR r) : Ev M1 (.pure 26 [rootA f1 f2 f3 f4 f5 f6 a b c, ratA l1 l2 r]) (rootF (a * r) (Sp.prB (b * r) c) (Sp.prC (b * r) c)) [] := by
 obtain ⟨⟨h1, h2⟩, h3⟩ := h
 exact call26 (pScale _ _ _ _ _ _ _ _ _ _ _ _ _ ⟨⟨okT_R h1 (by omega), h3⟩, ⟨okT_R h2 (by omega), h3⟩, .refl _⟩)
def Sp.smO (n : Int) (s1 : Bool) (x1 : List Int) (t1 : Bool) (y1 : List Int) (s2 : Bool) (x2 : List Int) (t2 : Bool) (y2 : List Int) (s3 : Bool) (x3 : List Int) (t3 : Bool) (y3 : List Int) : Prop :=
 Sp.smallB n s1 x1 t1 y1 = true /\ Sp.smallB n s2 x2 t2 y2 = true /\ Sp.smallB n s3 x3 t3 y3 = true /\ ∀ b c : Rat, Sp.isNeg b.num = s2 -> Sp.limI b.num = x2 -> Sp.isNeg (b.den : Int) = t2 -> Sp.limI (b.den : Int) = y2 -> Sp.isNeg c.num = s3 -> Sp.limI c.num = x3 -> Sp.isNeg (c.den : Int) = t3 -> Sp.limI (c.den : Int) = y3 -> Sp.vroot b c = true
open Classical in
noncomputable def Sp.smOB (n : Int) (s1 : Bool) (x1 : List Int) (t1 : Bool) (y1 : List Int) (s2 : Bool) (x2 : List Int) (t2 : Bool) (y2 : List Int) (s3 : Bool) (x3 : List Int) (t3 : Bool) (y3 : List Int) : Bool := decide (Sp.smO n s1 x1 t1 y1 s2 x2 t2 y2 s3 x3 t3 y3)
theorem rat_inj {r s : Rat} (h1 : Sp.isNeg r.num = Sp.isNeg s.num) (h2 : Sp.limI r.num = Sp.limI s.num) (h3 : Sp.isNeg (r.den : Int) = Sp.isNeg (s.den : Int)) (h4 : Sp.limI (r.den : Int) = Sp.limI (s.den : Int)) : r = s := by
 have e1 := big_inj h2 h1
 have e2 := big_inj h4 h3
 exact Rat.ext e1 (by omega)
theorem small_ratN {n : Int} {s t : Bool} {x y : List Int} (h : Sp.smallB n s x t y = true) : ∃ r : Rat, Sp.okT n.toNat r /\ s = Sp.isNeg r.num /\ x = Sp.limI r.num /\ t = Sp.isNeg (r.den : Int) /\ y = Sp.limI (r.den : Int) := by
 obtain ⟨h1, h2, r, rfl, rfl, rfl, rfl⟩ := smallB_iff.1 h
 rw [limI_len] at h1 h2
 rw [Int.natAbs_natCast] at h2
 exact ⟨r, ⟨by omega, by omega⟩, rfl, rfl, rfl, rfl⟩
def Sp.okN (n : Int) : Prop := 0 <= n /\ n <= 9000
def Sp.okU3 (n : Int) (x1 y1 x2 y2 x3 y3 : List Int) : Prop := Sp.okN n /\ ((∀ v ∈ x1, 0 <= v) /\ ∀ v ∈ y1, 0 <= v) /\ ((∀ v ∈ x2, 0 <= v) /\ ∀ v ∈ y2, 0 <= v) /\ ((∀ v ∈ x3, 0 <= v) /\ ∀ v ∈ y3, 0 <= v)
theorem ev47 (s1 s2 s3 t1 t2 t3 f1 f2 f3 g1 g2 g3 : Bool) (x1 x2 x3 y1 y2 y3 : List Int) (n : Int) (h : Sp.okU3 n x1 y1 x2 y2 x3 y3) : Ev M1 (.pure 47 [.agg [.bool s1, .vec f1 1 (x1.map (.int .u32)), .bool t1, .vec g1 1 (y1.map (.int .u32)), .bool s2, .vec f2 1 (x2.map (.int .u32)), .bool t2, .vec g2 1 (y2.map (.int .u32)), .bool s3, .vec f3 1 (x3.map (.int .u32)), .bool t3, .vec g3 1 (y3.map (.int .u32))], .int .i64 n]) (.bool (Sp.smOB n s1 x1 t1 y1 s2 x2 t2 y2 s3 x3 t3 y3)) [] := by
 obtain ⟨⟨hn0, hn⟩, p1, p2, p3⟩ := h
 have u1 : Sp.okU n x1 y1 := ⟨by omega, p1⟩
 have u2 : Sp.okU n x2 y2 := ⟨by omega, p2⟩
 have u3 : Sp.okU n x3 y3 := ⟨by omega, p3⟩
 by_cases k : Sp.smallB n s1 x1 t1 y1 = true /\ Sp.smallB n s2 x2 t2 y2 = true /\ Sp.smallB n s3 x3 t3 y3 = true
 ·obtain ⟨k1, k2, k3⟩ := k
  obtain ⟨a, ha, rfl, rfl, rfl, rfl⟩ := small_ratN k1
  obtain ⟨b, hb, rfl, rfl, rfl, rfl⟩ := small_ratN k2
  obtain ⟨c, hc, rfl, rfl, rfl, rfl⟩ := small_ratN k3
  refine call47 (pSmall _ _ _ _ _ _ _ _ _ _ _ ⟨u1, fun _ => u2, fun _ => u3, fun _ => okT_O ha hb hc (by omega), ?_⟩)
  rw [k1, k2, k3]
  simp only [cond_true]
  congr 1
  have : Sp.smOB n (Sp.isNeg a.num) (Sp.limI a.num) (Sp.isNeg (a.den : Int)) (Sp.limI (a.den : Int)) (Sp.isNeg b.num) (Sp.limI b.num) (Sp.isNeg (b.den : Int)) (Sp.limI (b.den : Int)) (Sp.isNeg c.num) (Sp.limI c.num) (Sp.isNeg (c.den : Int)) (Sp.limI (c.den : Int)) = true ↔ Sp.vroot b c = true := by
   unfold Sp.smOB
   simp only [decide_eq_true_eq]
   constructor
   ·intro h; exact h.2.2.2 b c rfl rfl rfl rfl rfl rfl rfl rfl
   ·intro h
    refine ⟨k1, k2, k3, fun b' c' e1 e2 e3 e4 e5 e6 e7 e8 => ?_⟩
    rw [rat_inj e1 e2 e3 e4, rat_inj e5 e6 e7 e8]; exact h
  exact Bool.eq_iff_iff.2 this.symm
 ·have hf : Sp.smOB n s1 x1 t1 y1 s2 x2 t2 y2 s3 x3 t3 y3 = false := by
   unfold Sp.smOB
   simp only [decide_eq_false_iff_not]
   exact fun h => k ⟨h.1, h.2.1, h.2.2.1⟩
  rw [hf]
  refine call47 (pSmallR _ _ _ _ _ _ _ _ _ _ _ _ _ _ _ _ _ _ _ _ ⟨u1, fun _ => u2, fun _ => u3, false, fun h => absurd ⟨h.1.1, h.1.2, h.2⟩ k, ?_⟩)
  cases Sp.smallB n s1 x1 t1 y1 <;> cases Sp.smallB n s2 x2 t2 y2 <;> cases Sp.smallB n s3 x3 t3 y3 <;> rfl
theorem smOB_rat {n : Int} {s1 s2 s3 t1 t2 t3 : Bool} {x1 x2 x3 y1 y2 y3 : List Int} (h : Sp.smOB n s1 x1 t1 y1 s2 x2 t2 y2 s3 x3 t3 y3 = true) : ∃ a b c : Rat, (Sp.okT n.toNat a /\ Sp.okT n.toNat b /\ Sp.okT n.toNat c) /\ Sp.vroot b c = true /\ (s1 = Sp.isNeg a.num /\ x1 = Sp.limI a.num /\ t1 = Sp.isNeg (a.den : Int) /\ y1 = Sp.limI (a.den : Int)) /\ (s2 = Sp.isNeg b.num /\ x2 = Sp.limI b.num /\ t2 = Sp.isNeg (b.den : Int) /\ y2 = Sp.limI (b.den : Int)) /\ s3 = Sp.isNeg c.num /\ x3 = Sp.limI c.num /\ t3 = Sp.isNeg (c.den : Int) /\ y3 = Sp.limI (c.den : Int) := by
 unfold Sp.smOB at h
 simp only [decide_eq_true_eq] at h
 obtain ⟨k1, k2, k3, k⟩ := h
 obtain ⟨a, ha, rfl, rfl, rfl, rfl⟩ := small_ratN k1
 obtain ⟨b, hb, rfl, rfl, rfl, rfl⟩ := small_ratN k2
 obtain ⟨c, hc, rfl, rfl, rfl, rfl⟩ := small_ratN k3
 exact ⟨a, b, c, ⟨ha, hb, hc⟩, k b c rfl rfl rfl rfl rfl rfl rfl rfl, ⟨rfl, rfl, rfl, rfl⟩, ⟨rfl, rfl, rfl, rfl⟩, rfl, rfl, rfl, rfl⟩
end Go.Av

namespace Go.Av
open Go.Proofs
set_option maxRecDepth 100000
def fi10 : Fi := ⟨15, [.tmp 2]⟩
def kp10 : List (Nat × List Nat) := [(0, [0]), (1, [5, 6, 7]), (2, [5, 6, 7, 8]), (3, [4, 5, 6, 7]), (4, [5, 6, 7, 13]), (5, [2]), (6, [5, 6, 7]), (7, [2])]
def lSm1_at (h : Bool) (s1 t1 f1 g1 s2 t2 f2 g2 s3 t3 f3 g3 : Bool) (x1 y1 x2 y2 x3 y3 : List Int) (Q : AV -> Heap -> Prop) : Prop := Wp M1 (.run fi10 (atC (cd Tryz.f10) []) [(0, .vec h 12 [.agg [.bool s1, .vec f1 1 (x1.map (.int .u32)), .bool t1, .vec g1 1 (y1.map (.int .u32)), .bool s2, .vec f2 1 (x2.map (.int .u32)), .bool t2, .vec g2 1 (y2.map (.int .u32)), .bool s3, .vec f3 1 (x3.map (.int .u32)), .bool t3, .vec g3 1 (y3.map (.int .u32))]])] []) Q
def lSm1a_at (h : Bool) (s1 t1 f1 g1 s2 t2 f2 g2 s3 t3 f3 g3 : Bool) (x1 y1 x2 y2 x3 y3 : List Int) (Q : AV -> Heap -> Prop) : Prop := Wp M1 (.run fi10 (atC (cd Tryz.f10) [1, 0, 1, 0, 0]) [(5, .vec h 12 [.agg [.bool s1, .vec f1 1 (x1.map (.int .u32)), .bool t1, .vec g1 1 (y1.map (.int .u32)), .bool s2, .vec f2 1 (x2.map (.int .u32)), .bool t2, .vec g2 1 (y2.map (.int .u32)), .bool s3, .vec f3 1 (x3.map (.int .u32)), .bool t3, .vec g3 1 (y3.map (.int .u32))]]), (6, .int .i64 1), (7, .int .i64 0)] []) Q
def lSm1b_at (h : Bool) (s1 t1 f1 g1 s2 t2 f2 g2 s3 t3 f3 g3 : Bool) (x1 y1 x2 y2 x3 y3 : List Int) (Q : AV -> Heap -> Prop) : Prop := Wp M1 (.run fi10 (atC (cd Tryz.f10) [1, 0, 1, 0, 0]) [(5, .vec h 12 [.agg [.bool s1, .vec f1 1 (x1.map (.int .u32)), .bool t1, .vec g1 1 (y1.map (.int .u32)), .bool s2, .vec f2 1 (x2.map (.int .u32)), .bool t2, .vec g2 1 (y2.map (.int .u32)), .bool s3, .vec f3 1 (x3.map (.int .u32)), .bool t3, .vec g3 1 (y3.map (.int .u32))]]), (6, .int .i64 1), (7, .int .i64 1)] []) Q
theorem call10 {args : List AV} {d : AV} (h : wc M1 fi10 Tryz.f10 args d) : Ev M1 (.pure 10 args) d [] := pcl _ _ (by kernel_rfl) h
theorem lSm1 (h : Bool) (s1 t1 f1 g1 s2 t2 f2 g2 s3 t3 f3 g3 : Bool) (x1 y1 x2 y2 x3 y3 : List Int)  (dq : AV) (H :
  lSm1a_at (h) (s1) (t1) (f1) (g1) (s2) (t2) (f2) (g2) (s3) (t3) (f3) (g3) (x1) (y1) (x2) (y2) (x3) (y3) (PureQ dq)) :
 lSm1_at h s1 t1 f1 g1 s2 t2 f2 g2 s3 t3 f3 g3 x1 y1 x2 y2 x3 y3 (PureQ dq) := by
 unfold lSm1_at
 exact path_wp (G := given kp10 [] []) 1000 [] ⟨(atC (cd Tryz.f10) [1, 0, 1, 0, 0]), [(5, AV.vec h 12 [ag [vb s1, AV.vec f1 1 (us x1), vb t1, AV.vec g1 1 (us y1), vb s2, AV.vec f2 1 (us x2), vb t2, AV.vec g2 1 (us y2), vb s3, AV.vec f3 1 (us x3), vb t3, AV.vec g3 1 (us y3)]]), (6, vi 1), (7, vi 0)], [], _, [], _⟩ (by kernel_rfl) b0 q0 c0 (H)
noncomputable abbrev zNyB1 (s1 : Bool) (f1 : Bool) (x1 : List Int) (t1 : Bool) (g1 : Bool) (y1 : List Int) (s2 : Bool) (f2 : Bool) (x2 : List Int) (t2 : Bool) (g2 : Bool) (y2 : List Int) (s3 : Bool) (f3 : Bool) (x3 : List Int) (t3 : Bool) (g3 : Bool) (y3 : List Int) := ag [vb s1, AV.vec f1 1 (us x1), vb t1, AV.vec g1 1 (us y1), vb s2, AV.vec f2 1 (us x2), vb t2, AV.vec g2 1 (us y2), vb s3, AV.vec f3 1 (us x3), vb t3, AV.vec g3 1 (us y3)]
theorem lSm1a (h : Bool) (s1 t1 f1 g1 s2 t2 f2 g2 s3 t3 f3 g3 : Bool) (x1 y1 x2 y2 x3 y3 : List Int)  (dq : AV) (H :
  (Sp.okU3 4 x1 y1 x2 y2 x3 y3) /\
  ((¬(Sp.smOB 4 s1 x1 t1 y1 s2 x2 t2 y2 s3 x3 t3 y3 = true)) -> vb false = dq) /\
  (¬(¬(Sp.smOB 4 s1 x1 t1 y1 s2 x2 t2 y2 s3 x3 t3 y3 = true)) -> lSm1b_at (h) (s1) (t1) (f1) (g1) (s2) (t2) (f2) (g2) (s3) (t3) (f3) (g3) (x1) (y1) (x2) (y2) (x3) (y3) (PureQ dq))) :
 lSm1a_at h s1 t1 f1 g1 s2 t2 f2 g2 s3 t3 f3 g3 x1 y1 x2 y2 x3 y3 (PureQ dq) := by
 unfold lSm1a_at
 obtain ⟨k1, H⟩ := H
 refine path_wp (G := given kp10 [(4, 1, .call (vb (Sp.smOB 4 s1 x1 t1 y1 s2 x2 t2 y2 s3 x3 t3 y3)) none)] []) 11 [true] ⟨(atC (cd Tryz.f10) [1, 0, 1, 0, 0, 1, 1, 0, 0, 1, 1]), [(5, AV.vec h 12 [(zNyB1 s1 f1 x1 t1 g1 y1 s2 f2 x2 t2 g2 y2 s3 f3 x3 t3 g3 y3)]), (6, vi 1), (7, vi 0), (13, vb !Sp.smOB 4 s1 x1 t1 y1 s2 x2 t2 y2 s3 x3 t3 y3)], [⟨[(zNyB1 s1 f1 x1 t1 g1 y1 s2 f2 x2 t2 g2 y2 s3 f3 x3 t3 g3 y3)], 12, 0, false, false⟩], _, [], _⟩ (by kernel_rfl) (bc rfl (bc rfl (bc rfl (bc rfl (bc rfl b0))))) q0 (ce (@ev47 (s1) (s2) (s3) (t1) (t2) (t3) (f1) (f2) (f3) (g1) (g2) (g3) (x1) (x2) (x3) (y1) (y2) (y3) (4) k1) c0) ?_
 rcases xm (¬(Sp.smOB 4 s1 x1 t1 y1 s2 x2 t2 y2 s3 x3 t3 y3 = true)) with d3 | d3
 ·have H := H.1 d3
  exact path_re (G := given kp10 [] []) 1000 [true] (asm := [(!Sp.smOB 4 s1 x1 t1 y1 s2 x2 t2 y2 s3 x3 t3 y3) == true]) (vb false) (by kernel_rfl) (bc (beq_t ((i_not (i_var _)).2 d3)) b0) q0 c0 H
 ·have H := H.2 d3
  exact path_wp (G := given kp10 [] []) 1000 [false] ⟨(atC (cd Tryz.f10) [1, 0, 1, 0, 0]), [(5, AV.vec h 12 [(zNyB1 s1 f1 x1 t1 g1 y1 s2 f2 x2 t2 g2 y2 s3 f3 x3 t3 g3 y3)]), (6, vi 1), (7, vi 1)], [⟨[(zNyB1 s1 f1 x1 t1 g1 y1 s2 f2 x2 t2 g2 y2 s3 f3 x3 t3 g3 y3)], 12, 0, false, false⟩], [(!Sp.smOB 4 s1 x1 t1 y1 s2 x2 t2 y2 s3 x3 t3 y3) == false], [], _⟩ (by kernel_rfl) (bc (beq_f (fun h => d3 ((i_not (i_var _)).1 h))) b0) q0 c0 (wp_narrow [] (by kernel_rfl) H)
theorem lSm1b (h : Bool) (s1 t1 f1 g1 s2 t2 f2 g2 s3 t3 f3 g3 : Bool) (x1 y1 x2 y2 x3 y3 : List Int)  (dq : AV) (H :
  vb true = dq) :
 lSm1b_at h s1 t1 f1 g1 s2 t2 f2 g2 s3 t3 f3 g3 x1 y1 x2 y2 x3 y3 (PureQ dq) := by
 unfold lSm1b_at
 exact path_re (G := given kp10 [] []) 1000 [false] (vb true) (by kernel_rfl) (bc rfl b0) q0 c0 H
end Go.Av

namespace Go.Av
open Go.Proofs
theorem ev10_r (h : Bool) (s1 t1 f1 g1 s2 t2 f2 g2 s3 t3 f3 g3 : Bool) (x1 y1 x2 y2 x3 y3 : List Int) (k : Sp.okU3 4 x1 y1 x2 y2 x3 y3) : Ev M1 (.pure 10 [.vec h 12 [.agg [.bool s1, .vec f1 1 (x1.map (.int .u32)), .bool t1, .vec g1 1 (y1.map (.int .u32)), .bool s2, .vec f2 1 (x2.map (.int .u32)), .bool t2, .vec g2 1 (y2.map (.int .u32)), .bool s3, .vec f3 1 (x3.map (.int .u32)), .bool t3, .vec g3 1 (y3.map (.int .u32))]]]) (.bool (Sp.smOB 4 s1 x1 t1 y1 s2 x2 t2 y2 s3 x3 t3 y3)) [] := by
 refine call10 (lSm1 _ _ _ _ _ _ _ _ _ _ _ _ _ _ _ _ _ _ _ _ (lSm1a _ _ _ _ _ _ _ _ _ _ _ _ _ _ _ _ _ _ _ _ ⟨k, fun c => ?_, fun c => lSm1b _ _ _ _ _ _ _ _ _ _ _ _ _ _ _ _ _ _ _ _ ?_⟩))
 ·rw [Bool.eq_false_iff.2 c]
 ·rw [Classical.not_not.1 c]
theorem okU3_rat (a b c : Rat) : Sp.okU3 4 (Sp.limI a.num) (Sp.limI (a.den : Int)) (Sp.limI b.num) (Sp.limI (b.den : Int)) (Sp.limI c.num) (Sp.limI (c.den : Int)) :=
 ⟨by unfold Sp.okN; omega, ⟨fun v hv => (lim_ok _ v hv).1, fun v hv => (lim_ok _ v hv).1⟩, ⟨fun v hv => (lim_ok _ v hv).1, fun v hv => (lim_ok _ v hv).1⟩, fun v hv => (lim_ok _ v hv).1, fun v hv => (lim_ok _ v hv).1⟩
noncomputable def Sp.smR (a b c : Rat) : Bool := Sp.smOB 4 (Sp.isNeg a.num) (Sp.limI a.num) (Sp.isNeg (a.den : Int)) (Sp.limI (a.den : Int)) (Sp.isNeg b.num) (Sp.limI b.num) (Sp.isNeg (b.den : Int)) (Sp.limI (b.den : Int)) (Sp.isNeg c.num) (Sp.limI c.num) (Sp.isNeg (c.den : Int)) (Sp.limI (c.den : Int))
theorem ev10 (h : Bool) (f1 f2 f3 f4 f5 f6 : Bool) (a b c : Rat) : Ev M1 (.pure 10 [.vec h 12 [rootA f1 f2 f3 f4 f5 f6 a b c]]) (.bool (Sp.smR a b c)) [] :=
 ev10_r _ _ _ _ _ _ _ _ _ _ _ _ _ _ _ _ _ _ _ (okU3_rat a b c)
end Go.Av

namespace Go.Av
open Go.Proofs
set_option maxRecDepth 100000
def fi4 : Fi := ⟨53, [.tmp 4]⟩
def kp4 : List (Nat × List Nat) := [(0, [2, 3]), (1, [2, 3, 18]), (2, [4]), (3, [2, 3, 5]), (4, [4])]
def lwSign_at (f1 f2 f3 f4 f5 f6 : Bool) (k l : Bool) (a b c r : Rat) (Q : AV -> Heap -> Prop) : Prop := Wp M1 (.run fi4 (atC (cd Tryz.f4) []) [(0, .agg [.bool (Sp.isNeg a.num), .vec f1 1 ((Sp.limI a.num).map (.int .u32)), .bool (Sp.isNeg (a.den : Int)), .vec f2 1 ((Sp.limI (a.den : Int)).map (.int .u32)), .bool (Sp.isNeg b.num), .vec f3 1 ((Sp.limI b.num).map (.int .u32)), .bool (Sp.isNeg (b.den : Int)), .vec f4 1 ((Sp.limI (b.den : Int)).map (.int .u32)), .bool (Sp.isNeg c.num), .vec f5 1 ((Sp.limI c.num).map (.int .u32)), .bool (Sp.isNeg (c.den : Int)), .vec f6 1 ((Sp.limI (c.den : Int)).map (.int .u32))]), (1, .agg [.bool (Sp.isNeg r.num), .vec k 1 ((Sp.limI r.num).map (.int .u32)), .bool (Sp.isNeg (r.den : Int)), .vec l 1 ((Sp.limI (r.den : Int)).map (.int .u32))])] []) Q
def lwSignR_at (s1 t1 f1 g1 s2 t2 f2 g2 s3 t3 f3 g3 s4 t4 f4 g4 : Bool) (x1 y1 x2 y2 x3 y3 x4 y4 : List Int) (Q : AV -> Heap -> Prop) : Prop := Wp M1 (.run fi4 (atC (cd Tryz.f4) []) [(0, .agg [.bool s1, .vec f1 1 (x1.map (.int .u32)), .bool t1, .vec g1 1 (y1.map (.int .u32)), .bool s2, .vec f2 1 (x2.map (.int .u32)), .bool t2, .vec g2 1 (y2.map (.int .u32)), .bool s3, .vec f3 1 (x3.map (.int .u32)), .bool t3, .vec g3 1 (y3.map (.int .u32))]), (1, .agg [.bool s4, .vec f4 1 (x4.map (.int .u32)), .bool t4, .vec g4 1 (y4.map (.int .u32))])] []) Q
theorem call4 {args : List AV} {d : AV} (h : wc M1 fi4 Tryz.f4 args d) : Ev M1 (.pure 4 args) d [] := pcl _ _ (by kernel_rfl) h
noncomputable abbrev zNyC2 (a : Rat) (b : Rat) (c : Rat) (r : Rat) := bif bif Sp.sgO a b c == Sp.sgP a b c then decide (-a = -a /\ -b = -b /\ c = c) else false then decide (a * r = a * r /\ b * r = Sp.prB (b * r) c /\ Sp.rad (b * r) c = Sp.prC (b * r) c) else false
noncomputable abbrev zNyC3 (a : Rat) (b : Rat) (c : Rat) := bif Sp.sgO a b c == Sp.sgP a b c then decide (-a = -a /\ -b = -b /\ c = c) else false
noncomputable abbrev zNyC4 (a : Rat) (b : Rat) (c : Rat) (r : Rat) := bif !Sp.smR a b c then true else !Sp.smallB 4 (Sp.isNeg r.num) (Sp.limI r.num) (Sp.isNeg (↑r.den : Int)) (Sp.limI (↑r.den : Int))
noncomputable abbrev zNyC5 (r : Rat) := Sp.smallB 4 (Sp.isNeg r.num) (Sp.limI r.num) (Sp.isNeg (↑r.den : Int)) (Sp.limI (↑r.den : Int))
theorem lwSign (f1 f2 f3 f4 f5 f6 : Bool) (k l : Bool) (a b c r : Rat)  (dq : AV) (H :
  ((¬(¬(Sp.smR a b c = true))) -> (Sp.okU 4 (Sp.limI r.num) (Sp.limI (↑r.den : Int)))) /\
  (((¬(Sp.smR a b c = true)) \/ (¬(Sp.smallB 4 (Sp.isNeg r.num) (Sp.limI r.num) (Sp.isNeg (↑r.den : Int)) (Sp.limI (↑r.den : Int)) = true))) -> vb true = dq) /\
  (¬((¬(Sp.smR a b c = true)) \/ (¬(Sp.smallB 4 (Sp.isNeg r.num) (Sp.limI r.num) (Sp.isNeg (↑r.den : Int)) (Sp.limI (↑r.den : Int)) = true))) -> (Sp.okO a b c) /\
   ((Sp.sgO a b c = Sp.sgP a b c) -> (Sp.okP a b)) /\
   ((Sp.sgO a b c = Sp.sgP a b c) -> (Sp.okO (-a) (-b) c /\ Sp.okO (-a) (-b) c)) /\
   (((Sp.sgO a b c = Sp.sgP a b c) /\ (-a = -a /\ -b = -b /\ c = c)) -> (Sp.okP a b /\ Sp.okR r)) /\
   (((Sp.sgO a b c = Sp.sgP a b c) /\ (-a = -a /\ -b = -b /\ c = c)) -> (Sp.okO (a * r) (b * r) (Sp.rad (b * r) c) /\ Sp.okO (a * r) (Sp.prB (b * r) c) (Sp.prC (b * r) c))) /\
   ((((Sp.sgO a b c = Sp.sgP a b c) /\ (-a = -a /\ -b = -b /\ c = c)) /\ (a * r = a * r /\ b * r = Sp.prB (b * r) c /\ Sp.rad (b * r) c = Sp.prC (b * r) c)) -> (Sp.okP a b /\ Sp.okR r)) /\
   ((((Sp.sgO a b c = Sp.sgP a b c) /\ (-a = -a /\ -b = -b /\ c = c)) /\ (a * r = a * r /\ b * r = Sp.prB (b * r) c /\ Sp.rad (b * r) c = Sp.prC (b * r) c)) -> (Sp.okO (a * r) (b * r) (Sp.rad (b * r) c))) /\
   vb (bif bif bif Sp.sgO a b c == Sp.sgP a b c then decide (-a = -a /\ -b = -b /\ c = c) else false then decide (a * r = a * r /\ b * r = Sp.prB (b * r) c /\ Sp.rad (b * r) c = Sp.prC (b * r) c) else false then Sp.sgO (a * r) (b * r) (Sp.rad (b * r) c) == IntKind.i64.wrap (Sp.sgO a b c * Sp.sgnI r.num) else false) = dq)) :
 lwSign_at f1 f2 f3 f4 f5 f6 k l a b c r (PureQ dq) := by
 unfold lwSign_at
 obtain ⟨k2, H⟩ := H
 refine path_wp (G := given kp4 [(1, 0, .call (vb true) none), (1, 5, .call (vb (Sp.smR a b c)) none), (1, 10, .call (vb (zNyC5 r)) none)] []) 5 [] ⟨(atC (cd Tryz.f4) [1, 0, 1]), [(2, AV.ptr 0 0 0 0), (3, AV.ptr 1 0 0 0), (18, vb (zNyC4 a b c r))], [⟨[rootA f1 f2 f3 f4 f5 f6 a b c], 12, 0, false, false⟩, ⟨[ratA k l r], 4, 0, false, false⟩], [true, !((!Sp.smR a b c) == false && true) || true], [], [⟨true, false, 9, [], [], vb true, []⟩, ⟨true, false, 10, [AV.vec true 12 [rootA f1 f2 f3 f4 f5 f6 a b c]], [], vb (Sp.smR a b c), []⟩, ⟨(!Sp.smR a b c) == false && true && true, false, 19, [ratA k l r, vi 4], [], vb (zNyC5 r), []⟩]⟩ (by kernel_rfl) (bc rfl (bc (Bool.or_true _) b0)) q0 (cc (fun _ => (@ev9 )) (cc (fun _ => (@ev10 (true) (f1) (f2) (f3) (f4) (f5) (f6) (a) (b) (c))) (cc (fun hc => ((@ev19 (Sp.isNeg r.num) (k) (Sp.isNeg (↑r.den : Int)) (l) (Sp.limI r.num) (Sp.limI (↑r.den : Int)) (4) (k2 ((i_at (i_at (i_bf (i_not (i_var _))))).1 hc))) : Ev M1 (Conf.pure 19 [ratA k l r, vi 4]) (vb (zNyC5 r)) [])) c0))) ?_
 rcases xm ((¬(Sp.smR a b c = true)) \/ (¬(Sp.smallB 4 (Sp.isNeg r.num) (Sp.limI r.num) (Sp.isNeg (↑r.den : Int)) (Sp.limI (↑r.den : Int)) = true))) with d4 | d4
 ·have H := H.1 d4
  exact path_re (G := given kp4 [(2, 0, .call (vb true) none)] []) 1000 [true] (asm := [(zNyC4 a b c r) == true]) (vb true) (by kernel_rfl) (bc (beq_t ((i_bor (i_not (i_var _)) (i_not (i_var _))).2 d4)) b0) q0 (ce (@ev9 ) c0) H
 ·have H := H.2 d4
  obtain ⟨k5, H⟩ := H
  obtain ⟨k7, H⟩ := H
  obtain ⟨k10, H⟩ := H
  obtain ⟨k12, H⟩ := H
  obtain ⟨k15, H⟩ := H
  obtain ⟨k17, H⟩ := H
  obtain ⟨k19, H⟩ := H
  exact path_re (G := given kp4 [(3, 1, .call (vi (Sp.sgO a b c)) none), (4, 2, .call (vi (Sp.sgP a b c)) none), (4, 6, .call (rootF (-a) (-b) c) none), (4, 8, .call (rootF (-a) (-b) c) none), (4, 9, .call (vb (decide (-a = -a /\ -b = -b /\ c = c))) none), (4, 14, .call (rootF (a * r) (b * r) (Sp.rad (b * r) c)) none), (4, 17, .call (rootF (a * r) (Sp.prB (b * r) c) (Sp.prC (b * r) c)) none), (4, 18, .call (vb (decide (a * r = a * r /\ b * r = Sp.prB (b * r) c /\ Sp.rad (b * r) c = Sp.prC (b * r) c))) none), (4, 23, .call (rootF (a * r) (b * r) (Sp.rad (b * r) c)) none), (4, 24, .call (vi (Sp.sgO (a * r) (b * r) (Sp.rad (b * r) c))) none), (4, 27, .call (vi (Sp.sgnI r.num)) none)] []) 1000 [false] (asm := [(zNyC4 a b c r) == false, true, true, !((Sp.sgO a b c == Sp.sgP a b c) == true && true) || true, !((Sp.sgO a b c == Sp.sgP a b c) == true && true) || true, !((zNyC3 a b c) == true && true) || true, !((zNyC3 a b c) == true && true) || true, !((zNyC3 a b c) == true && true) || true, !((zNyC3 a b c) == true && true) || true, !((zNyC2 a b c r) == true && true) || true, !((zNyC2 a b c r) == true && true) || true, !((zNyC2 a b c r) == true && true) || true]) (calls := [⟨true, false, 20, [rootA f1 f2 f3 f4 f5 f6 a b c], [], vi (Sp.sgO a b c), []⟩, ⟨true, false, 21, [rootA f1 f2 f3 f4 f5 f6 a b c], [], vi (Sp.sgP a b c), []⟩, ⟨(Sp.sgO a b c == Sp.sgP a b c) == true && true && true, false, 23, [rootA f1 f2 f3 f4 f5 f6 a b c], [], rootF (-a) (-b) c, []⟩, ⟨(Sp.sgO a b c == Sp.sgP a b c) == true && true && true, false, 24, [rootA f1 f2 f3 f4 f5 f6 a b c], [], rootF (-a) (-b) c, []⟩, ⟨(Sp.sgO a b c == Sp.sgP a b c) == true && true && true, false, 22, [rootF (-a) (-b) c, rootF (-a) (-b) c], [], vb (decide (-a = -a /\ -b = -b /\ c = c)), []⟩, ⟨(zNyC3 a b c) == true && true && true, false, 25, [rootA f1 f2 f3 f4 f5 f6 a b c, ratA k l r], [], rootF (a * r) (b * r) (Sp.rad (b * r) c), []⟩, ⟨(zNyC3 a b c) == true && true && true, false, 26, [rootA f1 f2 f3 f4 f5 f6 a b c, ratA k l r], [], rootF (a * r) (Sp.prB (b * r) c) (Sp.prC (b * r) c), []⟩, ⟨(zNyC3 a b c) == true && true && true, false, 22, [rootF (a * r) (b * r) (Sp.rad (b * r) c), rootF (a * r) (Sp.prB (b * r) c) (Sp.prC (b * r) c)], [], vb (decide (a * r = a * r /\ b * r = Sp.prB (b * r) c /\ Sp.rad (b * r) c = Sp.prC (b * r) c)), []⟩, ⟨(zNyC2 a b c r) == true && true && true, false, 25, [rootA f1 f2 f3 f4 f5 f6 a b c, ratA k l r], [], rootF (a * r) (b * r) (Sp.rad (b * r) c), []⟩, ⟨(zNyC2 a b c r) == true && true && true, false, 20, [rootF (a * r) (b * r) (Sp.rad (b * r) c)], [], vi (Sp.sgO (a * r) (b * r) (Sp.rad (b * r) c)), []⟩, ⟨(zNyC2 a b c r) == true && true && true, false, 27, [ratA k l r], [], vi (Sp.sgnI r.num), []⟩]) (vb (bif bif bif Sp.sgO a b c == Sp.sgP a b c then decide (-a = -a /\ -b = -b /\ c = c) else false then decide (a * r = a * r /\ b * r = Sp.prB (b * r) c /\ Sp.rad (b * r) c = Sp.prC (b * r) c) else false then Sp.sgO (a * r) (b * r) (Sp.rad (b * r) c) == wi (Sp.sgO a b c * Sp.sgnI r.num) else false)) (by kernel_rfl) (bc (beq_f (fun h => d4 ((i_bor (i_not (i_var _)) (i_not (i_var _))).1 h))) (bc rfl (bc rfl (bc (Bool.or_true _) (bc (Bool.or_true _) (bc (Bool.or_true _) (bc (Bool.or_true _) (bc (Bool.or_true _) (bc (Bool.or_true _) (bc (Bool.or_true _) (bc (Bool.or_true _) (bc (Bool.or_true _) b0)))))))))))) q0 (cc (fun _ => (@ev20 (f1) (f2) (f3) (f4) (f5) (f6) (a) (b) (c) k5)) (cc (fun _ => (@ev21 (f1) (f2) (f3) (f4) (f5) (f6) (a) (b) (c) k5)) (cc (fun hc => ((@ev23 (f1) (f2) (f3) (f4) (f5) (f6) (a) (b) (c) (k7 ((i_at (i_at (i_bt i_eq))).1 hc))) : Ev M1 (Conf.pure 23 [rootA f1 f2 f3 f4 f5 f6 a b c]) (rootF (-a) (-b) c) [])) (cc (fun hc => ((@ev24 (f1) (f2) (f3) (f4) (f5) (f6) (a) (b) (c) (k7 ((i_at (i_at (i_bt i_eq))).1 hc))) : Ev M1 (Conf.pure 24 [rootA f1 f2 f3 f4 f5 f6 a b c]) (rootF (-a) (-b) c) [])) (cc (fun hc => ((@ev22 (false) (false) (false) (false) (false) (false) (false) (false) (false) (false) (false) (false) (-a) (-b) (c) (-a) (-b) (c) (k10 ((i_at (i_at (i_bt i_eq))).1 hc))) : Ev M1 (Conf.pure 22 [rootF (-a) (-b) c, rootF (-a) (-b) c]) (vb (decide (-a = -a /\ -b = -b /\ c = c))) [])) (cc (fun hc => ((@ev25 (f1) (f2) (f3) (f4) (f5) (f6) (k) (l) (a) (b) (c) (r) (k12 ((i_at (i_at (i_bt (i_band i_eq i_dec)))).1 hc))) : Ev M1 (Conf.pure 25 [rootA f1 f2 f3 f4 f5 f6 a b c, ratA k l r]) (rootF (a * r) (b * r) (Sp.rad (b * r) c)) [])) (cc (fun hc => ((@ev26 (f1) (f2) (f3) (f4) (f5) (f6) (k) (l) (a) (b) (c) (r) (k12 ((i_at (i_at (i_bt (i_band i_eq i_dec)))).1 hc))) : Ev M1 (Conf.pure 26 [rootA f1 f2 f3 f4 f5 f6 a b c, ratA k l r]) (rootF (a * r) (Sp.prB (b * r) c) (Sp.prC (b * r) c)) [])) (cc (fun hc => ((@ev22 (false) (false) (false) (false) (false) (false) (false) (false) (false) (false) (false) (false) (a * r) (b * r) (Sp.rad (b * r) c) (a * r) (Sp.prB (b * r) c) (Sp.prC (b * r) c) (k15 ((i_at (i_at (i_bt (i_band i_eq i_dec)))).1 hc))) : Ev M1 (Conf.pure 22 [rootF (a * r) (b * r) (Sp.rad (b * r) c), rootF (a * r) (Sp.prB (b * r) c) (Sp.prC (b * r) c)]) (vb (decide (a * r = a * r /\ b * r = Sp.prB (b * r) c /\ Sp.rad (b * r) c = Sp.prC (b * r) c))) [])) (cc (fun hc => ((@ev25 (f1) (f2) (f3) (f4) (f5) (f6) (k) (l) (a) (b) (c) (r) (k17 ((i_at (i_at (i_bt (i_band (i_band i_eq i_dec) i_dec)))).1 hc))) : Ev M1 (Conf.pure 25 [rootA f1 f2 f3 f4 f5 f6 a b c, ratA k l r]) (rootF (a * r) (b * r) (Sp.rad (b * r) c)) [])) (cc (fun hc => ((@ev20 (false) (false) (false) (false) (false) (false) (a * r) (b * r) (Sp.rad (b * r) c) (k19 ((i_at (i_at (i_bt (i_band (i_band i_eq i_dec) i_dec)))).1 hc))) : Ev M1 (Conf.pure 20 [rootF (a * r) (b * r) (Sp.rad (b * r) c)]) (vi (Sp.sgO (a * r) (b * r) (Sp.rad (b * r) c))) [])) (cc (fun hc => ((@ev27 (k) (l) (r.num) ((↑r.den : Int))) : Ev M1 (Conf.pure 27 [ratA k l r]) (vi (Sp.sgnI r.num)) [])) c0))))))))))) H
noncomputable abbrev zNyC6 (s4 : Bool) (f4 : Bool) (x4 : List Int) (t4 : Bool) (g4 : Bool) (y4 : List Int) := ag [vb s4, AV.vec f4 1 (us x4), vb t4, AV.vec g4 1 (us y4)]
theorem lwSignR (s1 t1 f1 g1 s2 t2 f2 g2 s3 t3 f3 g3 s4 t4 f4 g4 : Bool) (x1 y1 x2 y2 x3 y3 x4 y4 : List Int)  (dq : AV) (H :
  (Sp.okU3 4 x1 y1 x2 y2 x3 y3) /\
  ((¬(¬(Sp.smOB 4 s1 x1 t1 y1 s2 x2 t2 y2 s3 x3 t3 y3 = true))) -> (Sp.okU 4 x4 y4)) /\
  (((¬(Sp.smOB 4 s1 x1 t1 y1 s2 x2 t2 y2 s3 x3 t3 y3 = true)) \/ (¬(Sp.smallB 4 s4 x4 t4 y4 = true))) -> vb true = dq) /\
  (¬((¬(Sp.smOB 4 s1 x1 t1 y1 s2 x2 t2 y2 s3 x3 t3 y3 = true)) \/ (¬(Sp.smallB 4 s4 x4 t4 y4 = true))) -> False)) :
 lwSignR_at s1 t1 f1 g1 s2 t2 f2 g2 s3 t3 f3 g3 s4 t4 f4 g4 x1 y1 x2 y2 x3 y3 x4 y4 (PureQ dq) := by
 unfold lwSignR_at
 obtain ⟨k1, H⟩ := H
 obtain ⟨k3, H⟩ := H
 refine path_wp (G := given kp4 [(1, 0, .call (vb true) none), (1, 5, .call (vb (Sp.smOB 4 s1 x1 t1 y1 s2 x2 t2 y2 s3 x3 t3 y3)) none), (1, 10, .call (vb (Sp.smallB 4 s4 x4 t4 y4)) none)] []) 5 [] ⟨(atC (cd Tryz.f4) [1, 0, 1]), [(2, AV.ptr 0 0 0 0), (3, AV.ptr 1 0 0 0), (18, vb (bif !Sp.smOB 4 s1 x1 t1 y1 s2 x2 t2 y2 s3 x3 t3 y3 then true else !Sp.smallB 4 s4 x4 t4 y4))], [⟨[ag [vb s1, AV.vec f1 1 (us x1), vb t1, AV.vec g1 1 (us y1), vb s2, AV.vec f2 1 (us x2), vb t2, AV.vec g2 1 (us y2), vb s3, AV.vec f3 1 (us x3), vb t3, AV.vec g3 1 (us y3)]], 12, 0, false, false⟩, ⟨[(zNyC6 s4 f4 x4 t4 g4 y4)], 4, 0, false, false⟩], [true, !((!Sp.smOB 4 s1 x1 t1 y1 s2 x2 t2 y2 s3 x3 t3 y3) == false && true) || true], [], [⟨true, false, 9, [], [], vb true, []⟩, ⟨true, false, 10, [AV.vec true 12 [ag [vb s1, AV.vec f1 1 (us x1), vb t1, AV.vec g1 1 (us y1), vb s2, AV.vec f2 1 (us x2), vb t2, AV.vec g2 1 (us y2), vb s3, AV.vec f3 1 (us x3), vb t3, AV.vec g3 1 (us y3)]]], [], vb (Sp.smOB 4 s1 x1 t1 y1 s2 x2 t2 y2 s3 x3 t3 y3), []⟩, ⟨(!Sp.smOB 4 s1 x1 t1 y1 s2 x2 t2 y2 s3 x3 t3 y3) == false && true && true, false, 19, [(zNyC6 s4 f4 x4 t4 g4 y4), vi 4], [], vb (Sp.smallB 4 s4 x4 t4 y4), []⟩]⟩ (by kernel_rfl) (bc rfl (bc (Bool.or_true _) b0)) q0 (cc (fun _ => (@ev9 )) (cc (fun _ => (@ev10_r (true) (s1) (t1) (f1) (g1) (s2) (t2) (f2) (g2) (s3) (t3) (f3) (g3) (x1) (y1) (x2) (y2) (x3) (y3) k1)) (cc (fun hc => ((@ev19 (s4) (f4) (t4) (g4) (x4) (y4) (4) (k3 ((i_at (i_at (i_bf (i_not (i_var _))))).1 hc))) : Ev M1 (Conf.pure 19 [(zNyC6 s4 f4 x4 t4 g4 y4), vi 4]) (vb (Sp.smallB 4 s4 x4 t4 y4)) [])) c0))) ?_
 rcases xm ((¬(Sp.smOB 4 s1 x1 t1 y1 s2 x2 t2 y2 s3 x3 t3 y3 = true)) \/ (¬(Sp.smallB 4 s4 x4 t4 y4 = true))) with d5 | d5
 ·have H := H.1 d5
  exact path_re (G := given kp4 [(2, 0, .call (vb true) none)] []) 1000 [true] (asm := [(bif !Sp.smOB 4 s1 x1 t1 y1 s2 x2 t2 y2 s3 x3 t3 y3 then true else !Sp.smallB 4 s4 x4 t4 y4) == true]) (vb true) (by kernel_rfl) (bc (beq_t ((i_bor (i_not (i_var _)) (i_not (i_var _))).2 d5)) b0) q0 (ce (@ev9 ) c0) H
 ·have H := H.2 d5
  exact False.elim H
end Go.Av

namespace Go.Av
open Go.Proofs
theorem num_lt {r : Rat} : r.num < 0 ↔ r < 0 := by
 have h := @Rat.num_nonneg r
 constructor
 ·intro k
  apply Classical.byContradiction
  intro n
  have : 0 <= r := by grind
  have := h.2 this
  omega
 ·intro k
  apply Classical.byContradiction
  intro n
  have : 0 <= r := h.1 (by omega)
  grind
theorem num_gt {r : Rat} : 0 < r.num ↔ 0 < r := by
 have h := @num_lt r
 have h0 := @Rat.num_eq_zero r
 constructor
 ·intro k
  have h1 : ¬r < 0 := fun x => by have := h.2 x; omega
  have h2 : r ≠ 0 := fun x => by have := h0.2 x; omega
  grind
 ·intro k
  have h1 : ¬r.num < 0 := fun x => by have := h.1 x; grind
  have h2 : r.num ≠ 0 := fun x => by have := h0.1 x; grind
  omega
theorem sgR_pos {r : Rat} (h : 0 < r) : Sp.sgR r = 1 := by
 have := num_gt.2 h
 unfold Sp.sgR Sp.sgnI; rw [if_neg (by omega), if_pos this]
theorem sgR_neg {r : Rat} (h : r < 0) : Sp.sgR r = -1 := by
 have := num_lt.2 h
 unfold Sp.sgR Sp.sgnI; rw [if_pos this]
theorem sgR_zero : Sp.sgR 0 = 0 := rfl
theorem tri (r : Rat) : r < 0 \/ r = 0 \/ 0 < r := by grind
theorem sgR_iff {r : Rat} : (Sp.sgR r = 1 ↔ 0 < r) /\ (Sp.sgR r = 0 ↔ r = 0) /\ (Sp.sgR r = -1 ↔ r < 0) := by
 rcases tri r with h | h | h
 ·rw [sgR_neg h]
  exact ⟨⟨fun x => absurd x (by decide), fun x => by grind⟩, ⟨fun x => absurd x (by decide), fun x => by grind⟩, ⟨fun _ => h, fun _ => rfl⟩⟩
 ·subst h
  exact ⟨⟨fun x => absurd x (by decide), fun x => by grind⟩, ⟨fun _ => rfl, fun _ => rfl⟩, ⟨fun x => absurd x (by decide), fun x => by grind⟩⟩
 ·rw [sgR_pos h]
  exact ⟨⟨fun _ => h, fun _ => rfl⟩, ⟨fun x => absurd x (by decide), fun x => by grind⟩, ⟨fun x => absurd x (by decide), fun x => by grind⟩⟩
theorem mul_pp {p q : Rat} (h1 : 0 < p) (h2 : 0 < q) : 0 < p * q := Rat.mul_pos h1 h2
theorem mul_nn {p q : Rat} (h1 : p < 0) (h2 : q < 0) : 0 < p * q := by
 have := Rat.mul_pos (show 0 < -p by grind) (show 0 < -q by grind)
 grind
theorem mul_pn {p q : Rat} (h1 : 0 < p) (h2 : q < 0) : p * q < 0 := by
 have := Rat.mul_pos h1 (show 0 < -q by grind)
 grind
theorem mul_np {p q : Rat} (h1 : p < 0) (h2 : 0 < q) : p * q < 0 := by
 have := Rat.mul_pos (show 0 < -p by grind) h2
 grind
theorem sgR_mul (p q : Rat) : Sp.sgR (p * q) = Sp.sgR p * Sp.sgR q := by
 rcases tri p with h | h | h
 ·rcases tri q with k | k | k
  ·rw [sgR_neg h, sgR_neg k, sgR_pos (mul_nn h k)]; rfl
  ·subst k; rw [Rat.mul_zero, sgR_zero, Int.mul_zero]
  ·rw [sgR_neg h, sgR_pos k, sgR_neg (mul_np h k)]; rfl
 ·subst h; rw [Rat.zero_mul, sgR_zero, Int.zero_mul]
 ·rcases tri q with k | k | k
  ·rw [sgR_pos h, sgR_neg k, sgR_neg (mul_pn h k)]; rfl
  ·subst k; rw [Rat.mul_zero, sgR_zero, Int.mul_zero]
  ·rw [sgR_pos h, sgR_pos k, sgR_pos (mul_pp h k)]; rfl
theorem sq_nn (a : Rat) : 0 <= a * a := by
 rcases tri a with h | h | h
 ·have := mul_nn h h; grind
 ·subst h; grind
 ·have := mul_pp h h; grind
theorem sq_pos {a : Rat} (h : a ≠ 0) : 0 < a * a := by
 rcases tri a with k | k | k
 ·exact mul_nn k k
 ·exact absurd k h
 ·exact mul_pp k k
theorem mul_ge {p q : Rat} (h1 : 0 <= p) (h2 : 0 <= q) : 0 <= p * q := Rat.mul_nonneg h1 h2
def Sp.okC (c : Rat) : Prop := 0 < c /\ ¬Sp.rsq c
theorem norm_ne {a b c : Rat} (hc : Sp.okC c) (h : ¬(a = 0 /\ b = 0)) : a * a - b * b * c ≠ 0 := by
 intro e
 by_cases hb : b = 0
 ·subst hb
  have ha : a ≠ 0 := fun x => h ⟨x, rfl⟩
  have := sq_pos ha
  grind
 ·apply hc.2
  have hi : b * b⁻¹ = 1 := Rat.mul_inv_cancel b hb
  refine rsq_of (s := a * b⁻¹) ?_
  have e2 : a * a = b * b * c := by grind
  have : a * b⁻¹ * (a * b⁻¹) = (a * a) * (b⁻¹ * b⁻¹) := by grind
  rw [this, e2]
  have : b * b * c * (b⁻¹ * b⁻¹) = (b * b⁻¹) * (b * b⁻¹) * c := by grind
  rw [this, hi]; grind
noncomputable def Sp.sgP0 (a b c : Rat) : Int := if Sp.sgR a = Sp.sgR b \/ Sp.sgR b = 0 then Sp.sgR a else if Sp.sgR a = 0 then Sp.sgR b else if Sp.sgR (a * a - b * b * c) > 0 then Sp.sgR a else Sp.sgR b
theorem sgO_pos {a b c : Rat} (hc : 0 < c) (h : 0 < a * a - b * b * c) : Sp.sgO a b c = Sp.sgR a := by
 unfold Sp.sgO
 rw [sgR_pos h]
 split
 ·rfl
 ·split
  ·rename_i h0
   have ha := sgR_iff.2.1.1 h0
   subst ha
   have := mul_ge (sq_nn b) (show 0 <= c by grind)
   grind
  ·rw [Int.mul_one]
theorem sgO_neg {a b c : Rat} (h : a * a - b * b * c < 0) : Sp.sgO a b c = Sp.sgR b := by
 have hb : b ≠ 0 := by
  intro e; subst e
  have := sq_nn a
  grind
 unfold Sp.sgO
 rw [sgR_neg h]
 rcases tri a with ha | ha | ha
 ·rcases tri b with kb | kb | kb
  ·rw [sgR_neg ha, sgR_neg kb]; rfl
  ·exact absurd kb hb
  ·rw [sgR_neg ha, sgR_pos kb]; rfl
 ·subst ha
  rcases tri b with kb | kb | kb
  ·rw [sgR_neg kb, sgR_zero]; rfl
  ·exact absurd kb hb
  ·rw [sgR_pos kb, sgR_zero]; rfl
 ·rcases tri b with kb | kb | kb
  ·rw [sgR_pos ha, sgR_neg kb]; rfl
  ·exact absurd kb hb
  ·rw [sgR_pos ha, sgR_pos kb]; rfl
theorem sgO_00 (c : Rat) : Sp.sgO 0 0 c = 0 := by
 unfold Sp.sgO
 rw [sgR_zero]; rfl
theorem sgP_eq {a b c : Rat} (hc : Sp.okC c) : Sp.sgP0 a b c = Sp.sgO a b c := by
 by_cases h : a = 0 /\ b = 0
 ·obtain ⟨rfl, rfl⟩ := h
  rw [sgO_00]; unfold Sp.sgP0; rw [sgR_zero]; rfl
 ·have hn := norm_ne hc h
  unfold Sp.sgP0
  rcases tri (a * a - b * b * c) with k | k | k
  ·rw [sgO_neg k]
   split
   ·rename_i e
    rcases e with e | e
    ·exact e
    ·have hb := sgR_iff.2.1.1 e
     subst hb
     have := sq_nn a
     grind
   ·split
    ·rfl
    ·rw [sgR_neg k, if_neg (by decide)]
  ·exact absurd k hn
  ·rw [sgO_pos hc.1 k]
   split
   ·rfl
   ·split
    ·rename_i e
     have ha := sgR_iff.2.1.1 e
     subst ha
     have := mul_ge (sq_nn b) (show 0 <= c by have := hc.1; grind)
     grind
    ·rw [sgR_pos k, if_pos (by decide)]
theorem sgO_scale {a b c r : Rat} (hc : Sp.okC c) : Sp.sgO (a * r) (b * r) c = Sp.sgO a b c * Sp.sgR r := by
 by_cases hr : r = 0
 ·subst hr; rw [Rat.mul_zero, Rat.mul_zero, sgO_00, sgR_zero, Int.mul_zero]
 ·have h2 := sq_pos hr
  have e : a * r * (a * r) - b * r * (b * r) * c = (a * a - b * b * c) * (r * r) := by grind
  by_cases h : a = 0 /\ b = 0
  ·obtain ⟨rfl, rfl⟩ := h
   rw [Rat.zero_mul, sgO_00, Int.zero_mul]
  ·rcases tri (a * a - b * b * c) with k | k | k
   ·rw [sgO_neg k, sgO_neg (by rw [e]; exact mul_np k h2), sgR_mul]
   ·exact absurd k (norm_ne hc h)
   ·rw [sgO_pos hc.1 k, sgO_pos hc.1 (by rw [e]; exact mul_pp k h2), sgR_mul]
end Go.Av

namespace Go.Av
open Go.Proofs
end Go.Av

namespace Go.Av
open Go.Proofs
theorem okC_two : Sp.okC (Sp.qi 2) := by
 refine ⟨?_, nsq_int (n := 2) (r := 1) (by decide) (by decide)⟩
 have := (qi_num 2).1
 exact num_gt.1 (by omega)
theorem rad_zero (c : Rat) : Sp.rad 0 c = 0 := by unfold Sp.rad; rw [if_pos rfl, qi_zero]
theorem vroot_zero {b c : Rat} (h : Sp.vroot b c = true) (hb : b = 0) : c = 0 := by
 unfold Sp.vroot at h
 rw [if_pos hb] at h
 exact of_decide_eq_true h
theorem vroot_pos {b c : Rat} (h : Sp.vroot b c = true) (hb : b ≠ 0) : Sp.okC c := by
 unfold Sp.vroot at h
 rw [if_neg hb] at h
 simp only [decide_eq_true_eq] at h
 exact ⟨num_gt.1 h.1, h.2⟩
theorem vroot_ok {b c : Rat} (h : Sp.vroot b c = true) : ∃ C, Sp.okC C /\ c = Sp.rad b C := by
 by_cases hb : b = 0
 ·refine ⟨_, okC_two, ?_⟩
  rw [vroot_zero h hb, hb, rad_zero]
 ·exact ⟨c, vroot_pos h hb, (if_neg hb).symm⟩
theorem okC_ne {c : Rat} (h : Sp.okC c) : c ≠ 0 := by have := h.1; grind
theorem sq_rad (b c : Rat) : b * b * Sp.rad b c = b * b * c := by
 by_cases h : b = 0
 ·subst h; grind
 ·rw [show Sp.rad b c = c from if_neg h]
theorem sgO_rad (a b c : Rat) : Sp.sgO a b (Sp.rad b c) = Sp.sgO a b c := by
 unfold Sp.sgO; rw [sq_rad]
theorem sgP_rad {a b c : Rat} (h : Sp.okC c) : Sp.sgP a b (Sp.rad b c) = Sp.sgO a b c := by
 rw [<- sgP_eq h]
 unfold Sp.sgP Sp.sgP0; rw [sq_rad]
theorem pr_eq {b k : Rat} (h : k = 0 -> b = 0) : b = Sp.prB b k /\ Sp.rad b k = Sp.prC b k := by
 unfold Sp.prB Sp.prC Sp.rad
 by_cases hb : b = 0
 ·rw [if_pos (.inl hb), if_pos hb, if_pos (.inl hb), qi_zero]; exact ⟨hb, rfl⟩
 ·have hk : ¬(b = 0 \/ k = 0) := fun x => x.elim hb fun e => hb (h e)
  rw [if_neg hk, if_neg hb, if_neg hk]; exact ⟨rfl, rfl⟩
theorem okT_prB {k : Nat} {b c : Rat} (h : Sp.okT k b) : Sp.okT (k + 1) (Sp.prB b c) := by
 unfold Sp.prB; split
 ·exact okT_le okT_q0 (by omega)
 ·exact okT_le h (by omega)
theorem okT_prC {k : Nat} {b c : Rat} (h : Sp.okT k c) : Sp.okT (k + 1) (Sp.prC b c) := by
 unfold Sp.prC; split
 ·exact okT_le okT_q0 (by omega)
 ·exact okT_le h (by omega)
theorem okO_r {k : Nat} {a b c : Rat} (ha : Sp.okT k a) (hb : Sp.okT k b) (hc : Sp.okT k c) (hk : k <= 8000) : Sp.okO a b (Sp.rad b c) /\ Sp.okO a (Sp.prB b c) (Sp.prC b c) :=
 ⟨⟨okT_le ha (by omega), okT_le hb (by omega), okT_le (okT_rad hc) (by omega)⟩, ⟨okT_le ha (by omega), okT_le (okT_prB hb) (by omega), okT_le (okT_prC hc) (by omega)⟩⟩
theorem wrap_small {n : Int} (h : -1 <= n /\ n <= 1) : IntKind.i64.wrap n = n := w64 n (by omega)
theorem sgO_bound (a b c : Rat) : -1 <= Sp.sgO a b c /\ Sp.sgO a b c <= 1 := by
 unfold Sp.sgO Sp.sgR
 have h1 := sgnI_le a.num
 have h2 := sgnI_le b.num
 have h3 := sgn_bound h1 (sgnI_le (a * a - b * b * c).num)
 split
 ·exact h1
 ·split
  ·exact h2
  ·exact h3
theorem sign_ok {a b c r : Rat} (ha : Sp.okT 4 a /\ Sp.okT 4 b /\ Sp.okT 4 c) (hr : Sp.okT 4 r) (hv : Sp.vroot b c = true) (f1 f2 f3 f4 f5 f6 l1 l2 : Bool) :
  Ev M1 (.pure 4 [rootA f1 f2 f3 f4 f5 f6 a b c, ratA l1 l2 r]) (.bool true) [] := by
 obtain ⟨ha, hb, hc⟩ := ha
 have o1 := okT_O ha hb hc (by omega)
 have o2 := okT_O (okT_neg ha) (okT_neg hb) hc (by omega)
 have k1 := okO_r (okT_mul ha hr) (okT_mul hb hr) (okT_le hc (by omega)) (by omega)
 have op : Sp.okP a b /\ Sp.okR r := ⟨⟨okT_le ha (by omega), okT_le hb (by omega)⟩, okT_R hr (by omega)⟩
 refine call4 (lwSign _ _ _ _ _ _ _ _ _ _ _ _ _ ⟨fun _ => okU_rat r, fun _ => rfl, fun _ => ⟨o1, fun _ => op.1, fun _ => ⟨o2, o2⟩, fun _ => op, fun _ => k1, fun _ => op, fun _ => k1.1, ?_⟩⟩)
 obtain ⟨C, hC, rfl⟩ := vroot_ok hv
 have hz : Sp.rad b C = 0 -> b * r = 0 := by
  intro h
  by_cases hb0 : b = 0
  ·rw [hb0, Rat.zero_mul]
  ·unfold Sp.rad at h; rw [if_neg hb0] at h; exact absurd h (okC_ne hC)
 have e := pr_eq (b := b * r) hz
 have e3 : Sp.sgO (a * r) (b * r) (Sp.rad (b * r) (Sp.rad b C)) = Sp.sgO a b C * Sp.sgR r := by
  rw [sgO_rad]
  have : b * r * (b * r) * Sp.rad b C = b * r * (b * r) * C := by
   have := sq_rad b C
   grind
  have e4 : Sp.sgO (a * r) (b * r) (Sp.rad b C) = Sp.sgO (a * r) (b * r) C := by unfold Sp.sgO; rw [this]
  rw [e4, sgO_scale hC]
 have e5 : Sp.sgnI r.num = Sp.sgR r := rfl
 have e6 : IntKind.i64.wrap (Sp.sgO a b C * Sp.sgR r) = Sp.sgO a b C * Sp.sgR r := wrap_small (sgn_bound (sgO_bound _ _ _) (sgnI_le r.num))
 have e7 : a * r = a * r /\ b * r = Sp.prB (b * r) (Sp.rad b C) /\ Sp.rad (b * r) (Sp.rad b C) = Sp.prC (b * r) (Sp.rad b C) := ⟨rfl, e.1, e.2⟩
 rw [decide_eq_true e7, e3, sgO_rad, sgP_rad hC, e5, e6]
 simp
end Go.Av

namespace Go.Av
open Go.Proofs
theorem ev4 (s1 t1 f1 g1 s2 t2 f2 g2 s3 t3 f3 g3 s4 t4 f4 g4 : Bool) (x1 y1 x2 y2 x3 y3 x4 y4 : List Int) (h : Sp.okU3 4 x1 y1 x2 y2 x3 y3 /\ Sp.okU 4 x4 y4) : Ev M1 (.pure 4 [.agg [.bool s1, .vec f1 1 (x1.map (.int .u32)), .bool t1, .vec g1 1 (y1.map (.int .u32)), .bool s2, .vec f2 1 (x2.map (.int .u32)), .bool t2, .vec g2 1 (y2.map (.int .u32)), .bool s3, .vec f3 1 (x3.map (.int .u32)), .bool t3, .vec g3 1 (y3.map (.int .u32))], .agg [.bool s4, .vec f4 1 (x4.map (.int .u32)), .bool t4, .vec g4 1 (y4.map (.int .u32))]]) (.bool true) [] := by
 by_cases k1 : Sp.smOB 4 s1 x1 t1 y1 s2 x2 t2 y2 s3 x3 t3 y3 = true
 ·by_cases k2 : Sp.smallB 4 s4 x4 t4 y4 = true
  ·obtain ⟨a, b, c, ha, va, ⟨rfl, rfl, rfl, rfl⟩, ⟨rfl, rfl, rfl, rfl⟩, rfl, rfl, rfl, rfl⟩ := smOB_rat k1
   obtain ⟨r, hr, rfl, rfl, rfl, rfl⟩ := small_rat k2
   exact sign_ok ha hr va _ _ _ _ _ _ _ _
  ·exact call4 (lwSignR _ _ _ _ _ _ _ _ _ _ _ _ _ _ _ _ _ _ _ _ _ _ _ _ _ ⟨h.1, fun _ => h.2, fun _ => rfl, fun k => absurd (.inr k2) k⟩)
 ·exact call4 (lwSignR _ _ _ _ _ _ _ _ _ _ _ _ _ _ _ _ _ _ _ _ _ _ _ _ _ ⟨h.1, fun _ => h.2, fun _ => rfl, fun k => absurd (.inl k1) k⟩)
end Go.Av
