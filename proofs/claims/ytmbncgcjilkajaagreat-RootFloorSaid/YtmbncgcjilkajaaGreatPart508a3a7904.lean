/- PART 6 of the texts of a claim, joined by a program: what each part shows stands at its head. -/
import Derived.Test.YtmbncgcjilkajaaGreatPart196d571253

namespace Go.Av
open Go.Proofs
theorem cnt_le {n m : Nat} {k : Nat} (h : n <= m) (hm : Sp.cnt m <= k) : Sp.cnt n <= k := Nat.le_trans (cnt_mono h) hm
theorem okT_qf {n d : Int} (h : Sp.okF n d) : Sp.okT 3 (Sp.qf n d) := by
 obtain ⟨h1, h2, h3⟩ := h
 obtain ⟨e1, e2⟩ := divInt_le (p := n) h3
 rw [qf_eq]
 exact ⟨cnt_le e1 (inI_cnt h1), cnt_le e2 (inI_cnt h2)⟩
def Sp.okSd (a b c d e f : Int) : Prop := (-32768 <= a /\ a <= 32767) /\ (-32768 <= b /\ b <= 32767) /\ (0 <= c /\ c <= 65535) /\ (0 <= d /\ d <= 255) /\ (0 <= e /\ e <= 255) /\ (0 <= f /\ f <= 255)
theorem nn_qf {n d : Int} (h : 0 <= n) (hd : 0 < d) : Sp.isNN (Sp.qf n d) := by
 rw [qf_eq]
 obtain ⟨e1, _⟩ := rat_pos (a := n) hd
 unfold Sp.isNN
 rw [e1]
 exact Int.ediv_nonneg h (by omega)
theorem okT_O {a b c : Rat} {k : Nat} (h1 : Sp.okT k a) (h2 : Sp.okT k b) (h3 : Sp.okT k c) (hk : k <= 9000) : Sp.okO a b c := ⟨okT_le h1 hk, okT_le h2 hk, okT_le h3 hk⟩
theorem ev45 (a b c d e f : Int) (h : Sp.okSd a b c d e f) : Ev M1 (.pure 45 [.agg [.int .i16 a, .int .i16 b, .int .u16 c, .int .u8 d, .int .u8 e, .int .u8 f]]) (rootF (Sp.mkA (Sp.qf a (d + 1)) (Sp.qf b (e + 1)) (Sp.qf c (f + 1))) (Sp.mkB (Sp.qf b (e + 1)) (Sp.qf c (f + 1))) (Sp.mkC (Sp.qf b (e + 1)) (Sp.qf c (f + 1)))) [] := by
 obtain ⟨ha, hb, hc, hd, he, hf⟩ := h
 have f1 : Sp.okF a (d + 1) := by unfold Sp.okF Sp.inI; omega
 have f2 : Sp.okF b (e + 1) := by unfold Sp.okF Sp.inI; omega
 have f3 : Sp.okF c (f + 1) := by unfold Sp.okF Sp.inI; omega
 have nn := nn_qf (n := c) (d := f + 1) hc.1 (by omega)
 exact call45 (pOf _ _ _ _ _ _ _ ⟨by omega, by omega, by omega, f1, by omega, by omega, by omega, f2, by omega, by omega, by omega, f3, fun _ => ⟨okT_O (okT_qf f1) (okT_qf f2) (okT_qf f3) (by omega), .refl _⟩, fun x => absurd nn x⟩)
def Sp.okM (a b c : Int) : Prop := Sp.inI a /\ Sp.inI b /\ Sp.inI c /\ 0 <= c
theorem nn_qi {n : Int} (h : 0 <= n) : Sp.isNN (Sp.qi n) := by
 rw [qi_eq]
 unfold Sp.isNN
 rw [Rat.num_intCast]; exact h
theorem ev44 (a b c : Int) (h : Sp.okM a b c) : Ev M1 (.pure 44 [.int .i64 a, .int .i64 b, .int .i64 c]) (.tup [rootF (Sp.mkA (Sp.qi a) (Sp.qi b) (Sp.qi c)) (Sp.mkB (Sp.qi b) (Sp.qi c)) (Sp.mkC (Sp.qi b) (Sp.qi c)), .bool true]) [] := by
 obtain ⟨h1, h2, h3, h4⟩ := h
 exact call44 (lMake _ _ _ _ ⟨h1, h2, h3, fun _ => ⟨okT_O (okT_int h1) (okT_int h2) (okT_int h3) (by omega), .refl _⟩, fun x => absurd (nn_qi h4) x⟩)
end Go.Av

namespace Go.Av
open Go.Proofs
set_option maxRecDepth 100000
def fi9 : Fi := ⟨102, [.tmp 0]⟩
def kp9 : List (Nat × List Nat) := [(0, []), (1, [1, 2]), (2, [1, 2, 3, 4]), (3, [1, 2, 3, 4, 5, 6]), (4, [1, 2, 3, 4, 5, 6, 7, 8]), (5, [5, 7, 60]), (6, [0]), (7, [5, 7, 9, 10]), (8, [5, 7, 9, 10, 11]), (9, [5, 7, 9, 10, 11, 13]), (10, [0])]
def lAwake_at  (Q : AV -> Heap -> Prop) : Prop := Wp M1 (.run fi9 (atC (cd Tryz.f9) []) [] []) Q
theorem call9 {args : List AV} {d : AV} (h : wc M1 fi9 Tryz.f9 args d) : Ev M1 (.pure 9 args) d [] := pcl _ _ (by kernel_rfl) h
noncomputable abbrev zNxF1 := Sp.mkA (Sp.qi 1) (Sp.qi 1) (Sp.qi 2) * Sp.ivn (Sp.mkA (Sp.qi 1) (Sp.qi 1) (Sp.qi 2)) (Sp.mkB (Sp.qi 1) (Sp.qi 2)) (Sp.mkC (Sp.qi 1) (Sp.qi 2)) = Sp.mkA (Sp.qf (-1) (0 + 1)) (Sp.qf 1 (0 + 1)) (Sp.qf 2 (0 + 1)) /\ -Sp.mkB (Sp.qi 1) (Sp.qi 2) * Sp.ivn (Sp.mkA (Sp.qi 1) (Sp.qi 1) (Sp.qi 2)) (Sp.mkB (Sp.qi 1) (Sp.qi 2)) (Sp.mkC (Sp.qi 1) (Sp.qi 2)) = Sp.mkB (Sp.qf 1 (0 + 1)) (Sp.qf 2 (0 + 1)) /\ Sp.rad (-Sp.mkB (Sp.qi 1) (Sp.qi 2) * Sp.ivn (Sp.mkA (Sp.qi 1) (Sp.qi 1) (Sp.qi 2)) (Sp.mkB (Sp.qi 1) (Sp.qi 2)) (Sp.mkC (Sp.qi 1) (Sp.qi 2))) (Sp.mkC (Sp.qi 1) (Sp.qi 2)) = Sp.mkC (Sp.qf 1 (0 + 1)) (Sp.qf 2 (0 + 1))
noncomputable abbrev zNxF2 := Sp.mkA (Sp.qi 0) (Sp.qi 1) (Sp.qi 8) = Sp.mkA (Sp.qf 0 (0 + 1)) (Sp.qf 1 (0 + 1)) (Sp.qf 8 (0 + 1)) /\ Sp.mkB (Sp.qi 1) (Sp.qi 8) = Sp.mkB (Sp.qf 1 (0 + 1)) (Sp.qf 8 (0 + 1)) /\ Sp.mkC (Sp.qi 1) (Sp.qi 8) = Sp.mkC (Sp.qf 1 (0 + 1)) (Sp.qf 8 (0 + 1))
noncomputable abbrev zNxF3 := ag [vb false, vf [], vb false, vf [], vb false, vf [], vb false, vf [], vb false, vf [], vb false, vf []]
noncomputable abbrev zNxF4 := Sp.fl (Sp.mkA (Sp.qi 1) (Sp.qi 1) (Sp.qi 2)) (Sp.mkB (Sp.qi 1) (Sp.qi 2)) (Sp.mkC (Sp.qi 1) (Sp.qi 2)) = 2
noncomputable abbrev zNxF5 := Sp.fl (Sp.mkA (Sp.qi 1) (Sp.qi (-1)) (Sp.qi 2)) (Sp.mkB (Sp.qi (-1)) (Sp.qi 2)) (Sp.mkC (Sp.qi (-1)) (Sp.qi 2))
noncomputable abbrev zNxF6 := Sp.fl (Sp.mkA (Sp.qi 1) (Sp.qi (-1)) (Sp.qi 2)) (Sp.mkB (Sp.qi (-1)) (Sp.qi 2)) (Sp.mkC (Sp.qi (-1)) (Sp.qi 2)) = -1
noncomputable abbrev zNxF7 := Sp.fl (Sp.mkA (Sp.qi 1) (Sp.qi 1) (Sp.qi 2)) (Sp.mkB (Sp.qi 1) (Sp.qi 2)) (Sp.mkC (Sp.qi 1) (Sp.qi 2))
noncomputable abbrev zNxF8 := Sp.mkA (Sp.qi 1) (Sp.qi 2) (Sp.qf 9 4) = Sp.qi 4 /\ Sp.mkB (Sp.qi 2) (Sp.qf 9 4) = Sp.qi 0 /\ Sp.mkC (Sp.qi 2) (Sp.qf 9 4) = Sp.qi 0
noncomputable abbrev zNxF9 := Sp.mkA (Sp.qf 0 (0 + 1)) (Sp.qf 1 (0 + 1)) (Sp.qf 8 (0 + 1))
noncomputable abbrev zNxF10 := Sp.sgO (Sp.mkA (Sp.qi 3) (Sp.qi (-2)) (Sp.qi 2)) (Sp.mkB (Sp.qi (-2)) (Sp.qi 2)) (Sp.mkC (Sp.qi (-2)) (Sp.qi 2))
noncomputable abbrev zNxF11 := Sp.sgO (Sp.mkA (Sp.qi 4) (Sp.qi (-3)) (Sp.qi 2)) (Sp.mkB (Sp.qi (-3)) (Sp.qi 2)) (Sp.mkC (Sp.qi (-3)) (Sp.qi 2))
noncomputable abbrev zNxF12 := Sp.mkA (Sp.qf (-1) (0 + 1)) (Sp.qf 1 (0 + 1)) (Sp.qf 2 (0 + 1))
noncomputable abbrev zNxF13 := Sp.rad (-Sp.mkB (Sp.qi 1) (Sp.qi 2) * Sp.ivn (Sp.mkA (Sp.qi 1) (Sp.qi 1) (Sp.qi 2)) (Sp.mkB (Sp.qi 1) (Sp.qi 2)) (Sp.mkC (Sp.qi 1) (Sp.qi 2))) (Sp.mkC (Sp.qi 1) (Sp.qi 2))
noncomputable abbrev zNxF14 := Sp.mkA (Sp.qi 1) (Sp.qi 1) (Sp.qi 2) * Sp.ivn (Sp.mkA (Sp.qi 1) (Sp.qi 1) (Sp.qi 2)) (Sp.mkB (Sp.qi 1) (Sp.qi 2)) (Sp.mkC (Sp.qi 1) (Sp.qi 2))
noncomputable abbrev zNxF15 := ag [AV.int IntKind.i16 (-1), AV.int IntKind.i16 1, AV.int IntKind.u16 2, AV.int IntKind.u8 0, AV.int IntKind.u8 0, AV.int IntKind.u8 0]
noncomputable abbrev zNxF16 := ag [AV.int IntKind.i16 0, AV.int IntKind.i16 1, AV.int IntKind.u16 8, AV.int IntKind.u8 0, AV.int IntKind.u8 0, AV.int IntKind.u8 0]
noncomputable abbrev zNxF17 := bif bif bif decide zNxF1 then decide zNxF4 else false then decide zNxF6 else false then Sp.sgO (Sp.mkA (Sp.qi 3) (Sp.qi (-2)) (Sp.qi 2)) (Sp.mkB (Sp.qi (-2)) (Sp.qi 2)) (Sp.mkC (Sp.qi (-2)) (Sp.qi 2)) == 1 else false
theorem lAwake   (dq : AV) (H :
  (Sp.inI 1) /\
  (Sp.inI 2) /\
  (Sp.okF 9 4) /\
  ((Sp.isNN (Sp.qf 9 4)) -> (Sp.okO (Sp.qi 1) (Sp.qi 2) (Sp.qf 9 4)) /\
   (Sp.okM 0 1 8) /\
   (Sp.okM 1 1 2) /\
   (Sp.okM 1 (-1) 2) /\
   ((¬(false = true)) -> (Sp.inI 4)) /\
   (Sp.okO (Sp.mkA (Sp.qi 1) (Sp.qi 2) (Sp.qf 9 4)) (Sp.mkB (Sp.qi 2) (Sp.qf 9 4)) (Sp.mkC (Sp.qi 2) (Sp.qf 9 4)) /\ Sp.okO (Sp.qi 4) (Sp.qi 0) (Sp.qi 0)) /\
   ((¬(¬(Sp.mkA (Sp.qi 1) (Sp.qi 2) (Sp.qf 9 4) = Sp.qi 4 /\ Sp.mkB (Sp.qi 2) (Sp.qf 9 4) = Sp.qi 0 /\ Sp.mkC (Sp.qi 2) (Sp.qf 9 4) = Sp.qi 0))) -> (Sp.okSd 0 1 8 0 0 0)) /\
   ((¬(¬(Sp.mkA (Sp.qi 1) (Sp.qi 2) (Sp.qf 9 4) = Sp.qi 4 /\ Sp.mkB (Sp.qi 2) (Sp.qf 9 4) = Sp.qi 0 /\ Sp.mkC (Sp.qi 2) (Sp.qf 9 4) = Sp.qi 0))) -> (Sp.okO (Sp.mkA (Sp.qi 0) (Sp.qi 1) (Sp.qi 8)) (Sp.mkB (Sp.qi 1) (Sp.qi 8)) (Sp.mkC (Sp.qi 1) (Sp.qi 8)) /\ Sp.okO (Sp.mkA (Sp.qf 0 (0 + 1)) (Sp.qf 1 (0 + 1)) (Sp.qf 8 (0 + 1))) (Sp.mkB (Sp.qf 1 (0 + 1)) (Sp.qf 8 (0 + 1))) (Sp.mkC (Sp.qf 1 (0 + 1)) (Sp.qf 8 (0 + 1))))) /\
   (((¬(Sp.mkA (Sp.qi 1) (Sp.qi 2) (Sp.qf 9 4) = Sp.qi 4 /\ Sp.mkB (Sp.qi 2) (Sp.qf 9 4) = Sp.qi 0 /\ Sp.mkC (Sp.qi 2) (Sp.qf 9 4) = Sp.qi 0)) \/ (¬(Sp.mkA (Sp.qi 0) (Sp.qi 1) (Sp.qi 8) = Sp.mkA (Sp.qf 0 (0 + 1)) (Sp.qf 1 (0 + 1)) (Sp.qf 8 (0 + 1)) /\ Sp.mkB (Sp.qi 1) (Sp.qi 8) = Sp.mkB (Sp.qf 1 (0 + 1)) (Sp.qf 8 (0 + 1)) /\ Sp.mkC (Sp.qi 1) (Sp.qi 8) = Sp.mkC (Sp.qf 1 (0 + 1)) (Sp.qf 8 (0 + 1))))) -> vb false = dq) /\
   (¬((¬(Sp.mkA (Sp.qi 1) (Sp.qi 2) (Sp.qf 9 4) = Sp.qi 4 /\ Sp.mkB (Sp.qi 2) (Sp.qf 9 4) = Sp.qi 0 /\ Sp.mkC (Sp.qi 2) (Sp.qf 9 4) = Sp.qi 0)) \/ (¬(Sp.mkA (Sp.qi 0) (Sp.qi 1) (Sp.qi 8) = Sp.mkA (Sp.qf 0 (0 + 1)) (Sp.qf 1 (0 + 1)) (Sp.qf 8 (0 + 1)) /\ Sp.mkB (Sp.qi 1) (Sp.qi 8) = Sp.mkB (Sp.qf 1 (0 + 1)) (Sp.qf 8 (0 + 1)) /\ Sp.mkC (Sp.qi 1) (Sp.qi 8) = Sp.mkC (Sp.qf 1 (0 + 1)) (Sp.qf 8 (0 + 1))))) -> ((Sp.sgO (Sp.mkA (Sp.qi 1) (Sp.qi 1) (Sp.qi 2)) (Sp.mkB (Sp.qi 1) (Sp.qi 2)) (Sp.mkC (Sp.qi 1) (Sp.qi 2)) = 0) -> (Sp.okO (Sp.mkA (Sp.qi 1) (Sp.qi 1) (Sp.qi 2)) (Sp.mkB (Sp.qi 1) (Sp.qi 2)) (Sp.mkC (Sp.qi 1) (Sp.qi 2))) /\
     (Sp.okM 3 (-2) 2) /\
     (Sp.okM 4 (-3) 2) /\
     ((false = true) -> (Sp.okSd (-1) 1 2 0 0 0)) /\
     ∃ (b1 : Bool),
     ((false = true) -> (Ev M1 (Conf.pure 22 [ag [vb false, vf [], vb false, vf [], vb false, vf [], vb false, vf [], vb false, vf [], vb false, vf []], rootF (Sp.mkA (Sp.qf (-1) (0 + 1)) (Sp.qf 1 (0 + 1)) (Sp.qf 2 (0 + 1))) (Sp.mkB (Sp.qf 1 (0 + 1)) (Sp.qf 2 (0 + 1))) (Sp.mkC (Sp.qf 1 (0 + 1)) (Sp.qf 2 (0 + 1)))]) (vb b1) [])) /\
     ((false = true) -> (Sp.ok (Sp.fl (Sp.mkA (Sp.qi 1) (Sp.qi 1) (Sp.qi 2)) (Sp.mkB (Sp.qi 1) (Sp.qi 2)) (Sp.mkC (Sp.qi 1) (Sp.qi 2))) /\ Sp.inI 2)) /\
     ((false = true) -> (Sp.okO (Sp.mkA (Sp.qi 1) (Sp.qi (-1)) (Sp.qi 2)) (Sp.mkB (Sp.qi (-1)) (Sp.qi 2)) (Sp.mkC (Sp.qi (-1)) (Sp.qi 2)))) /\
     ((false = true) -> (Sp.ok (Sp.fl (Sp.mkA (Sp.qi 1) (Sp.qi (-1)) (Sp.qi 2)) (Sp.mkB (Sp.qi (-1)) (Sp.qi 2)) (Sp.mkC (Sp.qi (-1)) (Sp.qi 2))) /\ Sp.inI (-1))) /\
     ((false = true) -> (Sp.okO (Sp.mkA (Sp.qi 3) (Sp.qi (-2)) (Sp.qi 2)) (Sp.mkB (Sp.qi (-2)) (Sp.qi 2)) (Sp.mkC (Sp.qi (-2)) (Sp.qi 2)))) /\
     ((false = true) -> (Sp.okO (Sp.mkA (Sp.qi 4) (Sp.qi (-3)) (Sp.qi 2)) (Sp.mkB (Sp.qi (-3)) (Sp.qi 2)) (Sp.mkC (Sp.qi (-3)) (Sp.qi 2)))) /\
     vb false = dq) /\
    (¬(Sp.sgO (Sp.mkA (Sp.qi 1) (Sp.qi 1) (Sp.qi 2)) (Sp.mkB (Sp.qi 1) (Sp.qi 2)) (Sp.mkC (Sp.qi 1) (Sp.qi 2)) = 0) -> (Sp.okO (Sp.mkA (Sp.qi 1) (Sp.qi 1) (Sp.qi 2)) (Sp.mkB (Sp.qi 1) (Sp.qi 2)) (Sp.mkC (Sp.qi 1) (Sp.qi 2)) /\ Sp.nrm (Sp.mkA (Sp.qi 1) (Sp.qi 1) (Sp.qi 2)) (Sp.mkB (Sp.qi 1) (Sp.qi 2)) (Sp.mkC (Sp.qi 1) (Sp.qi 2))) /\
     (Sp.okM 3 (-2) 2) /\
     (Sp.okM 4 (-3) 2) /\
     ((true = true) -> (Sp.okSd (-1) 1 2 0 0 0)) /\
     (Sp.okO (Sp.mkA (Sp.qi 1) (Sp.qi 1) (Sp.qi 2) * Sp.ivn (Sp.mkA (Sp.qi 1) (Sp.qi 1) (Sp.qi 2)) (Sp.mkB (Sp.qi 1) (Sp.qi 2)) (Sp.mkC (Sp.qi 1) (Sp.qi 2))) (-Sp.mkB (Sp.qi 1) (Sp.qi 2) * Sp.ivn (Sp.mkA (Sp.qi 1) (Sp.qi 1) (Sp.qi 2)) (Sp.mkB (Sp.qi 1) (Sp.qi 2)) (Sp.mkC (Sp.qi 1) (Sp.qi 2))) (Sp.rad (-Sp.mkB (Sp.qi 1) (Sp.qi 2) * Sp.ivn (Sp.mkA (Sp.qi 1) (Sp.qi 1) (Sp.qi 2)) (Sp.mkB (Sp.qi 1) (Sp.qi 2)) (Sp.mkC (Sp.qi 1) (Sp.qi 2))) (Sp.mkC (Sp.qi 1) (Sp.qi 2))) /\ Sp.okO (Sp.mkA (Sp.qf (-1) (0 + 1)) (Sp.qf 1 (0 + 1)) (Sp.qf 2 (0 + 1))) (Sp.mkB (Sp.qf 1 (0 + 1)) (Sp.qf 2 (0 + 1))) (Sp.mkC (Sp.qf 1 (0 + 1)) (Sp.qf 2 (0 + 1)))) /\
     ((Sp.mkA (Sp.qi 1) (Sp.qi 1) (Sp.qi 2) * Sp.ivn (Sp.mkA (Sp.qi 1) (Sp.qi 1) (Sp.qi 2)) (Sp.mkB (Sp.qi 1) (Sp.qi 2)) (Sp.mkC (Sp.qi 1) (Sp.qi 2)) = Sp.mkA (Sp.qf (-1) (0 + 1)) (Sp.qf 1 (0 + 1)) (Sp.qf 2 (0 + 1)) /\ -Sp.mkB (Sp.qi 1) (Sp.qi 2) * Sp.ivn (Sp.mkA (Sp.qi 1) (Sp.qi 1) (Sp.qi 2)) (Sp.mkB (Sp.qi 1) (Sp.qi 2)) (Sp.mkC (Sp.qi 1) (Sp.qi 2)) = Sp.mkB (Sp.qf 1 (0 + 1)) (Sp.qf 2 (0 + 1)) /\ Sp.rad (-Sp.mkB (Sp.qi 1) (Sp.qi 2) * Sp.ivn (Sp.mkA (Sp.qi 1) (Sp.qi 1) (Sp.qi 2)) (Sp.mkB (Sp.qi 1) (Sp.qi 2)) (Sp.mkC (Sp.qi 1) (Sp.qi 2))) (Sp.mkC (Sp.qi 1) (Sp.qi 2)) = Sp.mkC (Sp.qf 1 (0 + 1)) (Sp.qf 2 (0 + 1))) -> (Sp.okO (Sp.mkA (Sp.qi 1) (Sp.qi 1) (Sp.qi 2)) (Sp.mkB (Sp.qi 1) (Sp.qi 2)) (Sp.mkC (Sp.qi 1) (Sp.qi 2)))) /\
     ((Sp.mkA (Sp.qi 1) (Sp.qi 1) (Sp.qi 2) * Sp.ivn (Sp.mkA (Sp.qi 1) (Sp.qi 1) (Sp.qi 2)) (Sp.mkB (Sp.qi 1) (Sp.qi 2)) (Sp.mkC (Sp.qi 1) (Sp.qi 2)) = Sp.mkA (Sp.qf (-1) (0 + 1)) (Sp.qf 1 (0 + 1)) (Sp.qf 2 (0 + 1)) /\ -Sp.mkB (Sp.qi 1) (Sp.qi 2) * Sp.ivn (Sp.mkA (Sp.qi 1) (Sp.qi 1) (Sp.qi 2)) (Sp.mkB (Sp.qi 1) (Sp.qi 2)) (Sp.mkC (Sp.qi 1) (Sp.qi 2)) = Sp.mkB (Sp.qf 1 (0 + 1)) (Sp.qf 2 (0 + 1)) /\ Sp.rad (-Sp.mkB (Sp.qi 1) (Sp.qi 2) * Sp.ivn (Sp.mkA (Sp.qi 1) (Sp.qi 1) (Sp.qi 2)) (Sp.mkB (Sp.qi 1) (Sp.qi 2)) (Sp.mkC (Sp.qi 1) (Sp.qi 2))) (Sp.mkC (Sp.qi 1) (Sp.qi 2)) = Sp.mkC (Sp.qf 1 (0 + 1)) (Sp.qf 2 (0 + 1))) -> (Sp.ok (Sp.fl (Sp.mkA (Sp.qi 1) (Sp.qi 1) (Sp.qi 2)) (Sp.mkB (Sp.qi 1) (Sp.qi 2)) (Sp.mkC (Sp.qi 1) (Sp.qi 2))) /\ Sp.inI 2)) /\
     (((Sp.mkA (Sp.qi 1) (Sp.qi 1) (Sp.qi 2) * Sp.ivn (Sp.mkA (Sp.qi 1) (Sp.qi 1) (Sp.qi 2)) (Sp.mkB (Sp.qi 1) (Sp.qi 2)) (Sp.mkC (Sp.qi 1) (Sp.qi 2)) = Sp.mkA (Sp.qf (-1) (0 + 1)) (Sp.qf 1 (0 + 1)) (Sp.qf 2 (0 + 1)) /\ -Sp.mkB (Sp.qi 1) (Sp.qi 2) * Sp.ivn (Sp.mkA (Sp.qi 1) (Sp.qi 1) (Sp.qi 2)) (Sp.mkB (Sp.qi 1) (Sp.qi 2)) (Sp.mkC (Sp.qi 1) (Sp.qi 2)) = Sp.mkB (Sp.qf 1 (0 + 1)) (Sp.qf 2 (0 + 1)) /\ Sp.rad (-Sp.mkB (Sp.qi 1) (Sp.qi 2) * Sp.ivn (Sp.mkA (Sp.qi 1) (Sp.qi 1) (Sp.qi 2)) (Sp.mkB (Sp.qi 1) (Sp.qi 2)) (Sp.mkC (Sp.qi 1) (Sp.qi 2))) (Sp.mkC (Sp.qi 1) (Sp.qi 2)) = Sp.mkC (Sp.qf 1 (0 + 1)) (Sp.qf 2 (0 + 1))) /\ (Sp.fl (Sp.mkA (Sp.qi 1) (Sp.qi 1) (Sp.qi 2)) (Sp.mkB (Sp.qi 1) (Sp.qi 2)) (Sp.mkC (Sp.qi 1) (Sp.qi 2)) = 2)) -> (Sp.okO (Sp.mkA (Sp.qi 1) (Sp.qi (-1)) (Sp.qi 2)) (Sp.mkB (Sp.qi (-1)) (Sp.qi 2)) (Sp.mkC (Sp.qi (-1)) (Sp.qi 2)))) /\
     (((Sp.mkA (Sp.qi 1) (Sp.qi 1) (Sp.qi 2) * Sp.ivn (Sp.mkA (Sp.qi 1) (Sp.qi 1) (Sp.qi 2)) (Sp.mkB (Sp.qi 1) (Sp.qi 2)) (Sp.mkC (Sp.qi 1) (Sp.qi 2)) = Sp.mkA (Sp.qf (-1) (0 + 1)) (Sp.qf 1 (0 + 1)) (Sp.qf 2 (0 + 1)) /\ -Sp.mkB (Sp.qi 1) (Sp.qi 2) * Sp.ivn (Sp.mkA (Sp.qi 1) (Sp.qi 1) (Sp.qi 2)) (Sp.mkB (Sp.qi 1) (Sp.qi 2)) (Sp.mkC (Sp.qi 1) (Sp.qi 2)) = Sp.mkB (Sp.qf 1 (0 + 1)) (Sp.qf 2 (0 + 1)) /\ Sp.rad (-Sp.mkB (Sp.qi 1) (Sp.qi 2) * Sp.ivn (Sp.mkA (Sp.qi 1) (Sp.qi 1) (Sp.qi 2)) (Sp.mkB (Sp.qi 1) (Sp.qi 2)) (Sp.mkC (Sp.qi 1) (Sp.qi 2))) (Sp.mkC (Sp.qi 1) (Sp.qi 2)) = Sp.mkC (Sp.qf 1 (0 + 1)) (Sp.qf 2 (0 + 1))) /\ (Sp.fl (Sp.mkA (Sp.qi 1) (Sp.qi 1) (Sp.qi 2)) (Sp.mkB (Sp.qi 1) (Sp.qi 2)) (Sp.mkC (Sp.qi 1) (Sp.qi 2)) = 2)) -> (Sp.ok (Sp.fl (Sp.mkA (Sp.qi 1) (Sp.qi (-1)) (Sp.qi 2)) (Sp.mkB (Sp.qi (-1)) (Sp.qi 2)) (Sp.mkC (Sp.qi (-1)) (Sp.qi 2))) /\ Sp.inI (-1))) /\
     ((((Sp.mkA (Sp.qi 1) (Sp.qi 1) (Sp.qi 2) * Sp.ivn (Sp.mkA (Sp.qi 1) (Sp.qi 1) (Sp.qi 2)) (Sp.mkB (Sp.qi 1) (Sp.qi 2)) (Sp.mkC (Sp.qi 1) (Sp.qi 2)) = Sp.mkA (Sp.qf (-1) (0 + 1)) (Sp.qf 1 (0 + 1)) (Sp.qf 2 (0 + 1)) /\ -Sp.mkB (Sp.qi 1) (Sp.qi 2) * Sp.ivn (Sp.mkA (Sp.qi 1) (Sp.qi 1) (Sp.qi 2)) (Sp.mkB (Sp.qi 1) (Sp.qi 2)) (Sp.mkC (Sp.qi 1) (Sp.qi 2)) = Sp.mkB (Sp.qf 1 (0 + 1)) (Sp.qf 2 (0 + 1)) /\ Sp.rad (-Sp.mkB (Sp.qi 1) (Sp.qi 2) * Sp.ivn (Sp.mkA (Sp.qi 1) (Sp.qi 1) (Sp.qi 2)) (Sp.mkB (Sp.qi 1) (Sp.qi 2)) (Sp.mkC (Sp.qi 1) (Sp.qi 2))) (Sp.mkC (Sp.qi 1) (Sp.qi 2)) = Sp.mkC (Sp.qf 1 (0 + 1)) (Sp.qf 2 (0 + 1))) /\ (Sp.fl (Sp.mkA (Sp.qi 1) (Sp.qi 1) (Sp.qi 2)) (Sp.mkB (Sp.qi 1) (Sp.qi 2)) (Sp.mkC (Sp.qi 1) (Sp.qi 2)) = 2)) /\ (Sp.fl (Sp.mkA (Sp.qi 1) (Sp.qi (-1)) (Sp.qi 2)) (Sp.mkB (Sp.qi (-1)) (Sp.qi 2)) (Sp.mkC (Sp.qi (-1)) (Sp.qi 2)) = -1)) -> (Sp.okO (Sp.mkA (Sp.qi 3) (Sp.qi (-2)) (Sp.qi 2)) (Sp.mkB (Sp.qi (-2)) (Sp.qi 2)) (Sp.mkC (Sp.qi (-2)) (Sp.qi 2)))) /\
     (((((Sp.mkA (Sp.qi 1) (Sp.qi 1) (Sp.qi 2) * Sp.ivn (Sp.mkA (Sp.qi 1) (Sp.qi 1) (Sp.qi 2)) (Sp.mkB (Sp.qi 1) (Sp.qi 2)) (Sp.mkC (Sp.qi 1) (Sp.qi 2)) = Sp.mkA (Sp.qf (-1) (0 + 1)) (Sp.qf 1 (0 + 1)) (Sp.qf 2 (0 + 1)) /\ -Sp.mkB (Sp.qi 1) (Sp.qi 2) * Sp.ivn (Sp.mkA (Sp.qi 1) (Sp.qi 1) (Sp.qi 2)) (Sp.mkB (Sp.qi 1) (Sp.qi 2)) (Sp.mkC (Sp.qi 1) (Sp.qi 2)) = Sp.mkB (Sp.qf 1 (0 + 1)) (Sp.qf 2 (0 + 1)) /\ Sp.rad (-Sp.mkB (Sp.qi 1) (Sp.qi 2) * Sp.ivn (Sp.mkA (Sp.qi 1) (Sp.qi 1) (Sp.qi 2)) (Sp.mkB (Sp.qi 1) (Sp.qi 2)) (Sp.mkC (Sp.qi 1) (Sp.qi 2))) (Sp.mkC (Sp.qi 1) (Sp.qi 2)) = Sp.mkC (Sp.qf 1 (0 + 1)) (Sp.qf 2 (0 + 1))) /\ (Sp.fl (Sp.mkA (Sp.qi 1) (Sp.qi 1) (Sp.qi 2)) (Sp.mkB (Sp.qi 1) (Sp.qi 2)) (Sp.mkC (Sp.qi 1) (Sp.qi 2)) = 2)) /\ (Sp.fl (Sp.mkA (Sp.qi 1) (Sp.qi (-1)) (Sp.qi 2)) (Sp.mkB (Sp.qi (-1)) (Sp.qi 2)) (Sp.mkC (Sp.qi (-1)) (Sp.qi 2)) = -1)) /\ (Sp.sgO (Sp.mkA (Sp.qi 3) (Sp.qi (-2)) (Sp.qi 2)) (Sp.mkB (Sp.qi (-2)) (Sp.qi 2)) (Sp.mkC (Sp.qi (-2)) (Sp.qi 2)) = 1)) -> (Sp.okO (Sp.mkA (Sp.qi 4) (Sp.qi (-3)) (Sp.qi 2)) (Sp.mkB (Sp.qi (-3)) (Sp.qi 2)) (Sp.mkC (Sp.qi (-3)) (Sp.qi 2)))) /\
     vb (bif bif bif bif decide (Sp.mkA (Sp.qi 1) (Sp.qi 1) (Sp.qi 2) * Sp.ivn (Sp.mkA (Sp.qi 1) (Sp.qi 1) (Sp.qi 2)) (Sp.mkB (Sp.qi 1) (Sp.qi 2)) (Sp.mkC (Sp.qi 1) (Sp.qi 2)) = Sp.mkA (Sp.qf (-1) (0 + 1)) (Sp.qf 1 (0 + 1)) (Sp.qf 2 (0 + 1)) /\ -Sp.mkB (Sp.qi 1) (Sp.qi 2) * Sp.ivn (Sp.mkA (Sp.qi 1) (Sp.qi 1) (Sp.qi 2)) (Sp.mkB (Sp.qi 1) (Sp.qi 2)) (Sp.mkC (Sp.qi 1) (Sp.qi 2)) = Sp.mkB (Sp.qf 1 (0 + 1)) (Sp.qf 2 (0 + 1)) /\ Sp.rad (-Sp.mkB (Sp.qi 1) (Sp.qi 2) * Sp.ivn (Sp.mkA (Sp.qi 1) (Sp.qi 1) (Sp.qi 2)) (Sp.mkB (Sp.qi 1) (Sp.qi 2)) (Sp.mkC (Sp.qi 1) (Sp.qi 2))) (Sp.mkC (Sp.qi 1) (Sp.qi 2)) = Sp.mkC (Sp.qf 1 (0 + 1)) (Sp.qf 2 (0 + 1))) then decide (Sp.fl (Sp.mkA (Sp.qi 1) (Sp.qi 1) (Sp.qi 2)) (Sp.mkB (Sp.qi 1) (Sp.qi 2)) (Sp.mkC (Sp.qi 1) (Sp.qi 2)) = 2) else false then decide (Sp.fl (Sp.mkA (Sp.qi 1) (Sp.qi (-1)) (Sp.qi 2)) (Sp.mkB (Sp.qi (-1)) (Sp.qi 2)) (Sp.mkC (Sp.qi (-1)) (Sp.qi 2)) = -1) else false then Sp.sgO (Sp.mkA (Sp.qi 3) (Sp.qi (-2)) (Sp.qi 2)) (Sp.mkB (Sp.qi (-2)) (Sp.qi 2)) (Sp.mkC (Sp.qi (-2)) (Sp.qi 2)) == 1 else false then Sp.sgO (Sp.mkA (Sp.qi 4) (Sp.qi (-3)) (Sp.qi 2)) (Sp.mkB (Sp.qi (-3)) (Sp.qi 2)) (Sp.mkC (Sp.qi (-3)) (Sp.qi 2)) == -1 else false) = dq))) /\
  (¬(Sp.isNN (Sp.qf 9 4)) -> (Sp.okO (Sp.qi 1) (Sp.qi 2) (Sp.qf 9 4)) /\
   (Sp.okM 0 1 8) /\
   (Sp.okM 1 1 2) /\
   (Sp.okM 1 (-1) 2) /\
   ((¬(true = true)) -> (Sp.inI 4)) /\
   ∃ (b2 : Bool),
   ((false = true) -> (Ev M1 (Conf.pure 22 [ag [vb false, vf [], vb false, vf [], vb false, vf [], vb false, vf [], vb false, vf [], vb false, vf []], rootF (Sp.qi 4) (Sp.qi 0) (Sp.qi 0)]) (vb b2) [])) /\
   ((false = true) -> (Sp.okSd 0 1 8 0 0 0)) /\
   ((false = true) -> (Sp.okO (Sp.mkA (Sp.qi 0) (Sp.qi 1) (Sp.qi 8)) (Sp.mkB (Sp.qi 1) (Sp.qi 8)) (Sp.mkC (Sp.qi 1) (Sp.qi 8)) /\ Sp.okO (Sp.mkA (Sp.qf 0 (0 + 1)) (Sp.qf 1 (0 + 1)) (Sp.qf 8 (0 + 1))) (Sp.mkB (Sp.qf 1 (0 + 1)) (Sp.qf 8 (0 + 1))) (Sp.mkC (Sp.qf 1 (0 + 1)) (Sp.qf 8 (0 + 1))))) /\
   vb false = dq)) :
 lAwake_at  (PureQ dq) := by
 unfold lAwake_at
 obtain ⟨k1, H⟩ := H
 obtain ⟨k2, H⟩ := H
 obtain ⟨k3, H⟩ := H
 rcases xm (Sp.isNN (Sp.qf 9 4)) with d4 | d4
 ·have H := H.1 d4
  obtain ⟨k5, H⟩ := H
  obtain ⟨k6, H⟩ := H
  obtain ⟨k7, H⟩ := H
  obtain ⟨k8, H⟩ := H
  obtain ⟨k10, H⟩ := H
  obtain ⟨k11, H⟩ := H
  obtain ⟨k13, H⟩ := H
  obtain ⟨k15, H⟩ := H
  refine path_wp (G := given kp9 [(1, 0, .call (ratA false false (Sp.qi 1)) none), (1, 1, .call (ratA false false (Sp.qi 2)) none), (1, 2, .call (ratA false false (Sp.qf 9 4)) none), (1, 3, .call (tu [rootF (Sp.mkA (Sp.qi 1) (Sp.qi 2) (Sp.qf 9 4)) (Sp.mkB (Sp.qi 2) (Sp.qf 9 4)) (Sp.mkC (Sp.qi 2) (Sp.qf 9 4)), vi 0]) none), (2, 0, .call (tu [rootF (Sp.mkA (Sp.qi 0) (Sp.qi 1) (Sp.qi 8)) (Sp.mkB (Sp.qi 1) (Sp.qi 8)) (Sp.mkC (Sp.qi 1) (Sp.qi 8)), vb true]) none), (3, 0, .call (tu [rootF (Sp.mkA (Sp.qi 1) (Sp.qi 1) (Sp.qi 2)) (Sp.mkB (Sp.qi 1) (Sp.qi 2)) (Sp.mkC (Sp.qi 1) (Sp.qi 2)), vb true]) none), (4, 0, .call (tu [rootF (Sp.mkA (Sp.qi 1) (Sp.qi (-1)) (Sp.qi 2)) (Sp.mkB (Sp.qi (-1)) (Sp.qi 2)) (Sp.mkC (Sp.qi (-1)) (Sp.qi 2)), vb true]) none), (5, 16, .call (rootF (Sp.qi 4) (Sp.qi 0) (Sp.qi 0)) none), (5, 17, .call (vb (decide zNxF8)) none), (5, 23, .call (rootF zNxF9 (Sp.mkB (Sp.qf 1 (0 + 1)) (Sp.qf 8 (0 + 1))) (Sp.mkC (Sp.qf 1 (0 + 1)) (Sp.qf 8 (0 + 1)))) none), (5, 24, .call (vb (decide zNxF2)) none)] []) 13 [] ⟨(atC (cd Tryz.f9) [1, 1, 1, 1, 1, 0, 1]), [(5, AV.ptr 2 0 0 0), (7, AV.ptr 3 0 0 0), (60, vb (bif !decide zNxF8 then true else !decide zNxF2))], [⟨[rootF (Sp.mkA (Sp.qi 1) (Sp.qi 2) (Sp.qf 9 4)) (Sp.mkB (Sp.qi 2) (Sp.qf 9 4)) (Sp.mkC (Sp.qi 2) (Sp.qf 9 4))], 12, 0, false, false⟩, ⟨[rootF (Sp.mkA (Sp.qi 0) (Sp.qi 1) (Sp.qi 8)) (Sp.mkB (Sp.qi 1) (Sp.qi 8)) (Sp.mkC (Sp.qi 1) (Sp.qi 8))], 12, 0, false, false⟩, ⟨[rootF (Sp.mkA (Sp.qi 1) (Sp.qi 1) (Sp.qi 2)) (Sp.mkB (Sp.qi 1) (Sp.qi 2)) (Sp.mkC (Sp.qi 1) (Sp.qi 2))], 12, 0, false, false⟩, ⟨[rootF (Sp.mkA (Sp.qi 1) (Sp.qi (-1)) (Sp.qi 2)) (Sp.mkB (Sp.qi (-1)) (Sp.qi 2)) (Sp.mkC (Sp.qi (-1)) (Sp.qi 2))], 12, 0, false, false⟩], [true, true, true, true, true, !((!decide zNxF8) == false && true) || true], [], [⟨true, false, 18, [vi 1], [], ratA false false (Sp.qi 1), []⟩, ⟨true, false, 18, [vi 2], [], ratA false false (Sp.qi 2), []⟩, ⟨true, false, 43, [vi 9, vi 4], [], ratA false false (Sp.qf 9 4), []⟩, ⟨true, false, 42, [ratA false false (Sp.qi 1), ratA false false (Sp.qi 2), ratA false false (Sp.qf 9 4)], [], tu [rootF (Sp.mkA (Sp.qi 1) (Sp.qi 2) (Sp.qf 9 4)) (Sp.mkB (Sp.qi 2) (Sp.qf 9 4)) (Sp.mkC (Sp.qi 2) (Sp.qf 9 4)), vi 0], []⟩, ⟨true, false, 44, [vi 0, vi 1, vi 8], [], tu [rootF (Sp.mkA (Sp.qi 0) (Sp.qi 1) (Sp.qi 8)) (Sp.mkB (Sp.qi 1) (Sp.qi 8)) (Sp.mkC (Sp.qi 1) (Sp.qi 8)), vb true], []⟩, ⟨true, false, 44, [vi 1, vi 1, vi 2], [], tu [rootF (Sp.mkA (Sp.qi 1) (Sp.qi 1) (Sp.qi 2)) (Sp.mkB (Sp.qi 1) (Sp.qi 2)) (Sp.mkC (Sp.qi 1) (Sp.qi 2)), vb true], []⟩, ⟨true, false, 44, [vi 1, vi (-1), vi 2], [], tu [rootF (Sp.mkA (Sp.qi 1) (Sp.qi (-1)) (Sp.qi 2)) (Sp.mkB (Sp.qi (-1)) (Sp.qi 2)) (Sp.mkC (Sp.qi (-1)) (Sp.qi 2)), vb true], []⟩, ⟨false == false && true && true, false, 41, [vi 4], [], rootF (Sp.qi 4) (Sp.qi 0) (Sp.qi 0), []⟩, ⟨true, false, 22, [rootF (Sp.mkA (Sp.qi 1) (Sp.qi 2) (Sp.qf 9 4)) (Sp.mkB (Sp.qi 2) (Sp.qf 9 4)) (Sp.mkC (Sp.qi 2) (Sp.qf 9 4)), rootF (Sp.qi 4) (Sp.qi 0) (Sp.qi 0)], [], vb (decide zNxF8), []⟩, ⟨(!decide zNxF8) == false && true && true, false, 45, [zNxF16], [], rootF zNxF9 (Sp.mkB (Sp.qf 1 (0 + 1)) (Sp.qf 8 (0 + 1))) (Sp.mkC (Sp.qf 1 (0 + 1)) (Sp.qf 8 (0 + 1))), []⟩, ⟨(!decide zNxF8) == false && true && true, false, 22, [rootF (Sp.mkA (Sp.qi 0) (Sp.qi 1) (Sp.qi 8)) (Sp.mkB (Sp.qi 1) (Sp.qi 8)) (Sp.mkC (Sp.qi 1) (Sp.qi 8)), rootF zNxF9 (Sp.mkB (Sp.qf 1 (0 + 1)) (Sp.qf 8 (0 + 1))) (Sp.mkC (Sp.qf 1 (0 + 1)) (Sp.qf 8 (0 + 1)))], [], vb (decide zNxF2), []⟩]⟩ (by kernel_rfl) (bc rfl (bc rfl (bc rfl (bc rfl (bc rfl (bc (Bool.or_true _) b0)))))) q0 (cc (fun _ => (@ev18 (1) k1)) (cc (fun _ => (@ev18 (2) k2)) (cc (fun _ => (@ev43 (9) (4) k3)) (cc (fun _ => (@ev42_y (false) (false) (false) (false) (false) (false) (Sp.qi 1) (Sp.qi 2) (Sp.qf 9 4) k5 d4)) (cc (fun _ => (@ev44 (0) (1) (8) k6)) (cc (fun _ => (@ev44 (1) (1) (2) k7)) (cc (fun _ => (@ev44 (1) (-1) (2) k8)) (cc (fun hc => ((@ev41 (4) (k10 ((i_at (i_at (i_bf (i_var _)))).1 hc))) : Ev M1 (Conf.pure 41 [vi 4]) (rootF (Sp.qi 4) (Sp.qi 0) (Sp.qi 0)) [])) (cc (fun _ => (@ev22 (false) (false) (false) (false) (false) (false) (false) (false) (false) (false) (false) (false) (Sp.mkA (Sp.qi 1) (Sp.qi 2) (Sp.qf 9 4)) (Sp.mkB (Sp.qi 2) (Sp.qf 9 4)) (Sp.mkC (Sp.qi 2) (Sp.qf 9 4)) (Sp.qi 4) (Sp.qi 0) (Sp.qi 0) k11)) (cc (fun hc => ((@ev45 (0) (1) (8) (0) (0) (0) (k13 ((i_at (i_at (i_bf (i_not i_dec)))).1 hc))) : Ev M1 (Conf.pure 45 [zNxF16]) (rootF zNxF9 (Sp.mkB (Sp.qf 1 (0 + 1)) (Sp.qf 8 (0 + 1))) (Sp.mkC (Sp.qf 1 (0 + 1)) (Sp.qf 8 (0 + 1)))) [])) (cc (fun hc => ((@ev22 (false) (false) (false) (false) (false) (false) (false) (false) (false) (false) (false) (false) (Sp.mkA (Sp.qi 0) (Sp.qi 1) (Sp.qi 8)) (Sp.mkB (Sp.qi 1) (Sp.qi 8)) (Sp.mkC (Sp.qi 1) (Sp.qi 8)) zNxF9 (Sp.mkB (Sp.qf 1 (0 + 1)) (Sp.qf 8 (0 + 1))) (Sp.mkC (Sp.qf 1 (0 + 1)) (Sp.qf 8 (0 + 1))) (k15 ((i_at (i_at (i_bf (i_not i_dec)))).1 hc))) : Ev M1 (Conf.pure 22 [rootF (Sp.mkA (Sp.qi 0) (Sp.qi 1) (Sp.qi 8)) (Sp.mkB (Sp.qi 1) (Sp.qi 8)) (Sp.mkC (Sp.qi 1) (Sp.qi 8)), rootF zNxF9 (Sp.mkB (Sp.qf 1 (0 + 1)) (Sp.qf 8 (0 + 1))) (Sp.mkC (Sp.qf 1 (0 + 1)) (Sp.qf 8 (0 + 1)))]) (vb (decide zNxF2)) [])) c0))))))))))) ?_
  rcases xm ((¬zNxF8) \/ (¬zNxF2)) with d17 | d17
  ·have H := H.1 d17
   exact path_re (G := given kp9 [] []) 1000 [true] (vb false) (by kernel_rfl) (bc (beq_t ((i_bor (i_not i_dec) (i_not i_dec)).2 d17)) b0) q0 c0 H
  ·have H := H.2 d17
   rcases xm (Sp.sgO (Sp.mkA (Sp.qi 1) (Sp.qi 1) (Sp.qi 2)) (Sp.mkB (Sp.qi 1) (Sp.qi 2)) (Sp.mkC (Sp.qi 1) (Sp.qi 2)) = 0) with d18 | d18
   ·have H := H.1 d18
    obtain ⟨k19, H⟩ := H
    obtain ⟨k20, H⟩ := H
    obtain ⟨k21, H⟩ := H
    obtain ⟨k23, H⟩ := H
    obtain ⟨b1, H⟩ := H
    obtain ⟨k25, H⟩ := H
    obtain ⟨k28, H⟩ := H
    obtain ⟨k30, H⟩ := H
    obtain ⟨k32, H⟩ := H
    obtain ⟨k34, H⟩ := H
    obtain ⟨k36, H⟩ := H
    exact path_re (G := given kp9 [(7, 1, .call (tu [zNxF3, vi 6]) none), (8, 0, .call (tu [rootF (Sp.mkA (Sp.qi 3) (Sp.qi (-2)) (Sp.qi 2)) (Sp.mkB (Sp.qi (-2)) (Sp.qi 2)) (Sp.mkC (Sp.qi (-2)) (Sp.qi 2)), vb true]) none), (9, 0, .call (tu [rootF (Sp.mkA (Sp.qi 4) (Sp.qi (-3)) (Sp.qi 2)) (Sp.mkB (Sp.qi (-3)) (Sp.qi 2)) (Sp.mkC (Sp.qi (-3)) (Sp.qi 2)), vb true]) none), (10, 5, .call (rootF zNxF12 (Sp.mkB (Sp.qf 1 (0 + 1)) (Sp.qf 2 (0 + 1))) (Sp.mkC (Sp.qf 1 (0 + 1)) (Sp.qf 2 (0 + 1)))) none), (10, 6, .call (vb b1) none), (10, 10, .call (bigA false zNxF7) none), (10, 11, .call (vb (decide zNxF4)) none), (10, 15, .call (bigA false zNxF5) none), (10, 16, .call (vb (decide zNxF6)) none), (10, 20, .call (vi zNxF10) none), (10, 25, .call (vi zNxF11) none)] []) 1000 [false] (calls := [⟨true, false, 39, [rootF (Sp.mkA (Sp.qi 1) (Sp.qi 1) (Sp.qi 2)) (Sp.mkB (Sp.qi 1) (Sp.qi 2)) (Sp.mkC (Sp.qi 1) (Sp.qi 2))], [], tu [zNxF3, vi 6], []⟩, ⟨true, false, 44, [vi 3, vi (-2), vi 2], [], tu [rootF (Sp.mkA (Sp.qi 3) (Sp.qi (-2)) (Sp.qi 2)) (Sp.mkB (Sp.qi (-2)) (Sp.qi 2)) (Sp.mkC (Sp.qi (-2)) (Sp.qi 2)), vb true], []⟩, ⟨true, false, 44, [vi 4, vi (-3), vi 2], [], tu [rootF (Sp.mkA (Sp.qi 4) (Sp.qi (-3)) (Sp.qi 2)) (Sp.mkB (Sp.qi (-3)) (Sp.qi 2)) (Sp.mkC (Sp.qi (-3)) (Sp.qi 2)), vb true], []⟩, ⟨false == true && true && true, false, 45, [zNxF15], [], rootF zNxF12 (Sp.mkB (Sp.qf 1 (0 + 1)) (Sp.qf 2 (0 + 1))) (Sp.mkC (Sp.qf 1 (0 + 1)) (Sp.qf 2 (0 + 1))), []⟩, ⟨false, false, 22, [zNxF3, rootF zNxF12 (Sp.mkB (Sp.qf 1 (0 + 1)) (Sp.qf 2 (0 + 1))) (Sp.mkC (Sp.qf 1 (0 + 1)) (Sp.qf 2 (0 + 1)))], [], vb b1, []⟩, ⟨false, false, 11, [rootF (Sp.mkA (Sp.qi 1) (Sp.qi 1) (Sp.qi 2)) (Sp.mkB (Sp.qi 1) (Sp.qi 2)) (Sp.mkC (Sp.qi 1) (Sp.qi 2))], [], bigA false zNxF7, []⟩, ⟨false, false, 46, [bigA false zNxF7, vi 2], [], vb (decide zNxF4), []⟩, ⟨false, false, 11, [rootF (Sp.mkA (Sp.qi 1) (Sp.qi (-1)) (Sp.qi 2)) (Sp.mkB (Sp.qi (-1)) (Sp.qi 2)) (Sp.mkC (Sp.qi (-1)) (Sp.qi 2))], [], bigA false zNxF5, []⟩, ⟨false, false, 46, [bigA false zNxF5, vi (-1)], [], vb (decide zNxF6), []⟩, ⟨false, false, 20, [rootF (Sp.mkA (Sp.qi 3) (Sp.qi (-2)) (Sp.qi 2)) (Sp.mkB (Sp.qi (-2)) (Sp.qi 2)) (Sp.mkC (Sp.qi (-2)) (Sp.qi 2))], [], vi zNxF10, []⟩, ⟨false, false, 20, [rootF (Sp.mkA (Sp.qi 4) (Sp.qi (-3)) (Sp.qi 2)) (Sp.mkB (Sp.qi (-3)) (Sp.qi 2)) (Sp.mkC (Sp.qi (-3)) (Sp.qi 2))], [], vi zNxF11, []⟩]) (vb false) (by kernel_rfl) (bc (beq_f (fun h => d17 ((i_bor (i_not i_dec) (i_not i_dec)).1 h))) (bc rfl (bc rfl (bc rfl (bc rfl (bc rfl (bc rfl (bc rfl (bc rfl (bc rfl b0)))))))))) q0 (cc (fun _ => (@ev39_y (false) (false) (false) (false) (false) (false) (Sp.mkA (Sp.qi 1) (Sp.qi 1) (Sp.qi 2)) (Sp.mkB (Sp.qi 1) (Sp.qi 2)) (Sp.mkC (Sp.qi 1) (Sp.qi 2)) k19 d18)) (cc (fun _ => (@ev44 (3) (-2) (2) k20)) (cc (fun _ => (@ev44 (4) (-3) (2) k21)) (cc (fun hc => ((@ev45 (-1) (1) (2) (0) (0) (0) (k23 ((i_at (i_at (i_bt (i_var _)))).1 hc))) : Ev M1 (Conf.pure 45 [zNxF15]) (rootF zNxF12 (Sp.mkB (Sp.qf 1 (0 + 1)) (Sp.qf 2 (0 + 1))) (Sp.mkC (Sp.qf 1 (0 + 1)) (Sp.qf 2 (0 + 1)))) [])) (cc (fun hc => ((k25 ((i_var _).1 hc)) : Ev M1 (Conf.pure 22 [zNxF3, rootF zNxF12 (Sp.mkB (Sp.qf 1 (0 + 1)) (Sp.qf 2 (0 + 1))) (Sp.mkC (Sp.qf 1 (0 + 1)) (Sp.qf 2 (0 + 1)))]) (vb b1) [])) (cc (fun hc => ((@ev11 (false) (false) (false) (false) (false) (false) (Sp.mkA (Sp.qi 1) (Sp.qi 1) (Sp.qi 2)) (Sp.mkB (Sp.qi 1) (Sp.qi 2)) (Sp.mkC (Sp.qi 1) (Sp.qi 2)) k19) : Ev M1 (Conf.pure 11 [rootF (Sp.mkA (Sp.qi 1) (Sp.qi 1) (Sp.qi 2)) (Sp.mkB (Sp.qi 1) (Sp.qi 2)) (Sp.mkC (Sp.qi 1) (Sp.qi 2))]) (bigA false zNxF7) [])) (cc (fun hc => ((@ev46 (false) zNxF7 (2) (k28 ((i_var _).1 hc))) : Ev M1 (Conf.pure 46 [bigA false zNxF7, vi 2]) (vb (decide zNxF4)) [])) (cc (fun hc => ((@ev11 (false) (false) (false) (false) (false) (false) (Sp.mkA (Sp.qi 1) (Sp.qi (-1)) (Sp.qi 2)) (Sp.mkB (Sp.qi (-1)) (Sp.qi 2)) (Sp.mkC (Sp.qi (-1)) (Sp.qi 2)) (k30 ((i_var _).1 hc))) : Ev M1 (Conf.pure 11 [rootF (Sp.mkA (Sp.qi 1) (Sp.qi (-1)) (Sp.qi 2)) (Sp.mkB (Sp.qi (-1)) (Sp.qi 2)) (Sp.mkC (Sp.qi (-1)) (Sp.qi 2))]) (bigA false zNxF5) [])) (cc (fun hc => ((@ev46 (false) zNxF5 (-1) (k32 ((i_var _).1 hc))) : Ev M1 (Conf.pure 46 [bigA false zNxF5, vi (-1)]) (vb (decide zNxF6)) [])) (cc (fun hc => ((@ev20 (false) (false) (false) (false) (false) (false) (Sp.mkA (Sp.qi 3) (Sp.qi (-2)) (Sp.qi 2)) (Sp.mkB (Sp.qi (-2)) (Sp.qi 2)) (Sp.mkC (Sp.qi (-2)) (Sp.qi 2)) (k34 ((i_var _).1 hc))) : Ev M1 (Conf.pure 20 [rootF (Sp.mkA (Sp.qi 3) (Sp.qi (-2)) (Sp.qi 2)) (Sp.mkB (Sp.qi (-2)) (Sp.qi 2)) (Sp.mkC (Sp.qi (-2)) (Sp.qi 2))]) (vi zNxF10) [])) (cc (fun hc => ((@ev20 (false) (false) (false) (false) (false) (false) (Sp.mkA (Sp.qi 4) (Sp.qi (-3)) (Sp.qi 2)) (Sp.mkB (Sp.qi (-3)) (Sp.qi 2)) (Sp.mkC (Sp.qi (-3)) (Sp.qi 2)) (k36 ((i_var _).1 hc))) : Ev M1 (Conf.pure 20 [rootF (Sp.mkA (Sp.qi 4) (Sp.qi (-3)) (Sp.qi 2)) (Sp.mkB (Sp.qi (-3)) (Sp.qi 2)) (Sp.mkC (Sp.qi (-3)) (Sp.qi 2))]) (vi zNxF11) [])) c0))))))))))) H
   ·have H := H.2 d18
    obtain ⟨k37, H⟩ := H
    obtain ⟨k38, H⟩ := H
    obtain ⟨k39, H⟩ := H
    obtain ⟨k41, H⟩ := H
    obtain ⟨k42, H⟩ := H
    obtain ⟨k44, H⟩ := H
    obtain ⟨k46, H⟩ := H
    obtain ⟨k48, H⟩ := H
    obtain ⟨k50, H⟩ := H
    obtain ⟨k52, H⟩ := H
    obtain ⟨k54, H⟩ := H
    exact path_re (G := given kp9 [(7, 1, .call (tu [rootF zNxF14 (-Sp.mkB (Sp.qi 1) (Sp.qi 2) * Sp.ivn (Sp.mkA (Sp.qi 1) (Sp.qi 1) (Sp.qi 2)) (Sp.mkB (Sp.qi 1) (Sp.qi 2)) (Sp.mkC (Sp.qi 1) (Sp.qi 2))) zNxF13, vi 0]) none), (8, 0, .call (tu [rootF (Sp.mkA (Sp.qi 3) (Sp.qi (-2)) (Sp.qi 2)) (Sp.mkB (Sp.qi (-2)) (Sp.qi 2)) (Sp.mkC (Sp.qi (-2)) (Sp.qi 2)), vb true]) none), (9, 0, .call (tu [rootF (Sp.mkA (Sp.qi 4) (Sp.qi (-3)) (Sp.qi 2)) (Sp.mkB (Sp.qi (-3)) (Sp.qi 2)) (Sp.mkC (Sp.qi (-3)) (Sp.qi 2)), vb true]) none), (10, 5, .call (rootF zNxF12 (Sp.mkB (Sp.qf 1 (0 + 1)) (Sp.qf 2 (0 + 1))) (Sp.mkC (Sp.qf 1 (0 + 1)) (Sp.qf 2 (0 + 1)))) none), (10, 6, .call (vb (decide zNxF1)) none), (10, 10, .call (bigA false zNxF7) none), (10, 11, .call (vb (decide zNxF4)) none), (10, 15, .call (bigA false zNxF5) none), (10, 16, .call (vb (decide zNxF6)) none), (10, 20, .call (vi zNxF10) none), (10, 25, .call (vi zNxF11) none)] []) 1000 [false] (asm := [(bif !decide zNxF8 then true else !decide zNxF2) == false, true, true, true, true, true, !(decide zNxF1 == true && true) || true, !((bif decide zNxF1 then decide zNxF4 else false) == true && true) || true, !((bif bif decide zNxF1 then decide zNxF4 else false then decide zNxF6 else false) == true && true) || true, !(zNxF17 == true && true) || true]) (calls := [⟨true, false, 39, [rootF (Sp.mkA (Sp.qi 1) (Sp.qi 1) (Sp.qi 2)) (Sp.mkB (Sp.qi 1) (Sp.qi 2)) (Sp.mkC (Sp.qi 1) (Sp.qi 2))], [], tu [rootF zNxF14 (-Sp.mkB (Sp.qi 1) (Sp.qi 2) * Sp.ivn (Sp.mkA (Sp.qi 1) (Sp.qi 1) (Sp.qi 2)) (Sp.mkB (Sp.qi 1) (Sp.qi 2)) (Sp.mkC (Sp.qi 1) (Sp.qi 2))) zNxF13, vi 0], []⟩, ⟨true, false, 44, [vi 3, vi (-2), vi 2], [], tu [rootF (Sp.mkA (Sp.qi 3) (Sp.qi (-2)) (Sp.qi 2)) (Sp.mkB (Sp.qi (-2)) (Sp.qi 2)) (Sp.mkC (Sp.qi (-2)) (Sp.qi 2)), vb true], []⟩, ⟨true, false, 44, [vi 4, vi (-3), vi 2], [], tu [rootF (Sp.mkA (Sp.qi 4) (Sp.qi (-3)) (Sp.qi 2)) (Sp.mkB (Sp.qi (-3)) (Sp.qi 2)) (Sp.mkC (Sp.qi (-3)) (Sp.qi 2)), vb true], []⟩, ⟨true == true && true && true, false, 45, [zNxF15], [], rootF zNxF12 (Sp.mkB (Sp.qf 1 (0 + 1)) (Sp.qf 2 (0 + 1))) (Sp.mkC (Sp.qf 1 (0 + 1)) (Sp.qf 2 (0 + 1))), []⟩, ⟨true, false, 22, [rootF zNxF14 (-Sp.mkB (Sp.qi 1) (Sp.qi 2) * Sp.ivn (Sp.mkA (Sp.qi 1) (Sp.qi 1) (Sp.qi 2)) (Sp.mkB (Sp.qi 1) (Sp.qi 2)) (Sp.mkC (Sp.qi 1) (Sp.qi 2))) zNxF13, rootF zNxF12 (Sp.mkB (Sp.qf 1 (0 + 1)) (Sp.qf 2 (0 + 1))) (Sp.mkC (Sp.qf 1 (0 + 1)) (Sp.qf 2 (0 + 1)))], [], vb (decide zNxF1), []⟩, ⟨decide zNxF1 == true && true && true, false, 11, [rootF (Sp.mkA (Sp.qi 1) (Sp.qi 1) (Sp.qi 2)) (Sp.mkB (Sp.qi 1) (Sp.qi 2)) (Sp.mkC (Sp.qi 1) (Sp.qi 2))], [], bigA false zNxF7, []⟩, ⟨decide zNxF1 == true && true && true, false, 46, [bigA false zNxF7, vi 2], [], vb (decide zNxF4), []⟩, ⟨(bif decide zNxF1 then decide zNxF4 else false) == true && true && true, false, 11, [rootF (Sp.mkA (Sp.qi 1) (Sp.qi (-1)) (Sp.qi 2)) (Sp.mkB (Sp.qi (-1)) (Sp.qi 2)) (Sp.mkC (Sp.qi (-1)) (Sp.qi 2))], [], bigA false zNxF5, []⟩, ⟨(bif decide zNxF1 then decide zNxF4 else false) == true && true && true, false, 46, [bigA false zNxF5, vi (-1)], [], vb (decide zNxF6), []⟩, ⟨(bif bif decide zNxF1 then decide zNxF4 else false then decide zNxF6 else false) == true && true && true, false, 20, [rootF (Sp.mkA (Sp.qi 3) (Sp.qi (-2)) (Sp.qi 2)) (Sp.mkB (Sp.qi (-2)) (Sp.qi 2)) (Sp.mkC (Sp.qi (-2)) (Sp.qi 2))], [], vi zNxF10, []⟩, ⟨zNxF17 == true && true && true, false, 20, [rootF (Sp.mkA (Sp.qi 4) (Sp.qi (-3)) (Sp.qi 2)) (Sp.mkB (Sp.qi (-3)) (Sp.qi 2)) (Sp.mkC (Sp.qi (-3)) (Sp.qi 2))], [], vi zNxF11, []⟩]) (vb (bif bif bif bif decide zNxF1 then decide zNxF4 else false then decide zNxF6 else false then Sp.sgO (Sp.mkA (Sp.qi 3) (Sp.qi (-2)) (Sp.qi 2)) (Sp.mkB (Sp.qi (-2)) (Sp.qi 2)) (Sp.mkC (Sp.qi (-2)) (Sp.qi 2)) == 1 else false then Sp.sgO (Sp.mkA (Sp.qi 4) (Sp.qi (-3)) (Sp.qi 2)) (Sp.mkB (Sp.qi (-3)) (Sp.qi 2)) (Sp.mkC (Sp.qi (-3)) (Sp.qi 2)) == -1 else false)) (by kernel_rfl) (bc (beq_f (fun h => d17 ((i_bor (i_not i_dec) (i_not i_dec)).1 h))) (bc rfl (bc rfl (bc rfl (bc rfl (bc rfl (bc (Bool.or_true _) (bc (Bool.or_true _) (bc (Bool.or_true _) (bc (Bool.or_true _) b0)))))))))) q0 (cc (fun _ => (@ev39_n (false) (false) (false) (false) (false) (false) (Sp.mkA (Sp.qi 1) (Sp.qi 1) (Sp.qi 2)) (Sp.mkB (Sp.qi 1) (Sp.qi 2)) (Sp.mkC (Sp.qi 1) (Sp.qi 2)) k37 d18)) (cc (fun _ => (@ev44 (3) (-2) (2) k38)) (cc (fun _ => (@ev44 (4) (-3) (2) k39)) (cc (fun hc => ((@ev45 (-1) (1) (2) (0) (0) (0) (k41 ((i_at (i_at (i_bt (i_var _)))).1 hc))) : Ev M1 (Conf.pure 45 [zNxF15]) (rootF zNxF12 (Sp.mkB (Sp.qf 1 (0 + 1)) (Sp.qf 2 (0 + 1))) (Sp.mkC (Sp.qf 1 (0 + 1)) (Sp.qf 2 (0 + 1)))) [])) (cc (fun _ => (@ev22 (false) (false) (false) (false) (false) (false) (false) (false) (false) (false) (false) (false) zNxF14 (-Sp.mkB (Sp.qi 1) (Sp.qi 2) * Sp.ivn (Sp.mkA (Sp.qi 1) (Sp.qi 1) (Sp.qi 2)) (Sp.mkB (Sp.qi 1) (Sp.qi 2)) (Sp.mkC (Sp.qi 1) (Sp.qi 2))) zNxF13 zNxF12 (Sp.mkB (Sp.qf 1 (0 + 1)) (Sp.qf 2 (0 + 1))) (Sp.mkC (Sp.qf 1 (0 + 1)) (Sp.qf 2 (0 + 1))) k42)) (cc (fun hc => ((@ev11 (false) (false) (false) (false) (false) (false) (Sp.mkA (Sp.qi 1) (Sp.qi 1) (Sp.qi 2)) (Sp.mkB (Sp.qi 1) (Sp.qi 2)) (Sp.mkC (Sp.qi 1) (Sp.qi 2)) (k44 ((i_at (i_at (i_bt i_dec))).1 hc))) : Ev M1 (Conf.pure 11 [rootF (Sp.mkA (Sp.qi 1) (Sp.qi 1) (Sp.qi 2)) (Sp.mkB (Sp.qi 1) (Sp.qi 2)) (Sp.mkC (Sp.qi 1) (Sp.qi 2))]) (bigA false zNxF7) [])) (cc (fun hc => ((@ev46 (false) zNxF7 (2) (k46 ((i_at (i_at (i_bt i_dec))).1 hc))) : Ev M1 (Conf.pure 46 [bigA false zNxF7, vi 2]) (vb (decide zNxF4)) [])) (cc (fun hc => ((@ev11 (false) (false) (false) (false) (false) (false) (Sp.mkA (Sp.qi 1) (Sp.qi (-1)) (Sp.qi 2)) (Sp.mkB (Sp.qi (-1)) (Sp.qi 2)) (Sp.mkC (Sp.qi (-1)) (Sp.qi 2)) (k48 ((i_at (i_at (i_bt (i_band i_dec i_dec)))).1 hc))) : Ev M1 (Conf.pure 11 [rootF (Sp.mkA (Sp.qi 1) (Sp.qi (-1)) (Sp.qi 2)) (Sp.mkB (Sp.qi (-1)) (Sp.qi 2)) (Sp.mkC (Sp.qi (-1)) (Sp.qi 2))]) (bigA false zNxF5) [])) (cc (fun hc => ((@ev46 (false) zNxF5 (-1) (k50 ((i_at (i_at (i_bt (i_band i_dec i_dec)))).1 hc))) : Ev M1 (Conf.pure 46 [bigA false zNxF5, vi (-1)]) (vb (decide zNxF6)) [])) (cc (fun hc => ((@ev20 (false) (false) (false) (false) (false) (false) (Sp.mkA (Sp.qi 3) (Sp.qi (-2)) (Sp.qi 2)) (Sp.mkB (Sp.qi (-2)) (Sp.qi 2)) (Sp.mkC (Sp.qi (-2)) (Sp.qi 2)) (k52 ((i_at (i_at (i_bt (i_band (i_band i_dec i_dec) i_dec)))).1 hc))) : Ev M1 (Conf.pure 20 [rootF (Sp.mkA (Sp.qi 3) (Sp.qi (-2)) (Sp.qi 2)) (Sp.mkB (Sp.qi (-2)) (Sp.qi 2)) (Sp.mkC (Sp.qi (-2)) (Sp.qi 2))]) (vi zNxF10) [])) (cc (fun hc => ((@ev20 (false) (false) (false) (false) (false) (false) (Sp.mkA (Sp.qi 4) (Sp.qi (-3)) (Sp.qi 2)) (Sp.mkB (Sp.qi (-3)) (Sp.qi 2)) (Sp.mkC (Sp.qi (-3)) (Sp.qi 2)) (k54 ((i_at (i_at (i_bt (i_band (i_band (i_band i_dec i_dec) i_dec) i_eq)))).1 hc))) : Ev M1 (Conf.pure 20 [rootF (Sp.mkA (Sp.qi 4) (Sp.qi (-3)) (Sp.qi 2)) (Sp.mkB (Sp.qi (-3)) (Sp.qi 2)) (Sp.mkC (Sp.qi (-3)) (Sp.qi 2))]) (vi zNxF11) [])) c0))))))))))) H
 ·have H := H.2 d4
  obtain ⟨k55, H⟩ := H
  obtain ⟨k56, H⟩ := H
  obtain ⟨k57, H⟩ := H
  obtain ⟨k58, H⟩ := H
  obtain ⟨k60, H⟩ := H
  obtain ⟨b2, H⟩ := H
  obtain ⟨k62, H⟩ := H
  obtain ⟨k64, H⟩ := H
  obtain ⟨k66, H⟩ := H
  exact path_re (G := given kp9 [(1, 0, .call (ratA false false (Sp.qi 1)) none), (1, 1, .call (ratA false false (Sp.qi 2)) none), (1, 2, .call (ratA false false (Sp.qf 9 4)) none), (1, 3, .call (tu [zNxF3, vi 7]) none), (2, 0, .call (tu [rootF (Sp.mkA (Sp.qi 0) (Sp.qi 1) (Sp.qi 8)) (Sp.mkB (Sp.qi 1) (Sp.qi 8)) (Sp.mkC (Sp.qi 1) (Sp.qi 8)), vb true]) none), (3, 0, .call (tu [rootF (Sp.mkA (Sp.qi 1) (Sp.qi 1) (Sp.qi 2)) (Sp.mkB (Sp.qi 1) (Sp.qi 2)) (Sp.mkC (Sp.qi 1) (Sp.qi 2)), vb true]) none), (4, 0, .call (tu [rootF (Sp.mkA (Sp.qi 1) (Sp.qi (-1)) (Sp.qi 2)) (Sp.mkB (Sp.qi (-1)) (Sp.qi 2)) (Sp.mkC (Sp.qi (-1)) (Sp.qi 2)), vb true]) none), (5, 16, .call (rootF (Sp.qi 4) (Sp.qi 0) (Sp.qi 0)) none), (5, 17, .call (vb b2) none), (5, 23, .call (rootF zNxF9 (Sp.mkB (Sp.qf 1 (0 + 1)) (Sp.qf 8 (0 + 1))) (Sp.mkC (Sp.qf 1 (0 + 1)) (Sp.qf 8 (0 + 1)))) none), (5, 24, .call (vb (decide zNxF2)) none)] []) 1000 [true] (calls := [⟨true, false, 18, [vi 1], [], ratA false false (Sp.qi 1), []⟩, ⟨true, false, 18, [vi 2], [], ratA false false (Sp.qi 2), []⟩, ⟨true, false, 43, [vi 9, vi 4], [], ratA false false (Sp.qf 9 4), []⟩, ⟨true, false, 42, [ratA false false (Sp.qi 1), ratA false false (Sp.qi 2), ratA false false (Sp.qf 9 4)], [], tu [zNxF3, vi 7], []⟩, ⟨true, false, 44, [vi 0, vi 1, vi 8], [], tu [rootF (Sp.mkA (Sp.qi 0) (Sp.qi 1) (Sp.qi 8)) (Sp.mkB (Sp.qi 1) (Sp.qi 8)) (Sp.mkC (Sp.qi 1) (Sp.qi 8)), vb true], []⟩, ⟨true, false, 44, [vi 1, vi 1, vi 2], [], tu [rootF (Sp.mkA (Sp.qi 1) (Sp.qi 1) (Sp.qi 2)) (Sp.mkB (Sp.qi 1) (Sp.qi 2)) (Sp.mkC (Sp.qi 1) (Sp.qi 2)), vb true], []⟩, ⟨true, false, 44, [vi 1, vi (-1), vi 2], [], tu [rootF (Sp.mkA (Sp.qi 1) (Sp.qi (-1)) (Sp.qi 2)) (Sp.mkB (Sp.qi (-1)) (Sp.qi 2)) (Sp.mkC (Sp.qi (-1)) (Sp.qi 2)), vb true], []⟩, ⟨true == false && true && true, false, 41, [vi 4], [], rootF (Sp.qi 4) (Sp.qi 0) (Sp.qi 0), []⟩, ⟨false, false, 22, [zNxF3, rootF (Sp.qi 4) (Sp.qi 0) (Sp.qi 0)], [], vb b2, []⟩, ⟨false, false, 45, [zNxF16], [], rootF zNxF9 (Sp.mkB (Sp.qf 1 (0 + 1)) (Sp.qf 8 (0 + 1))) (Sp.mkC (Sp.qf 1 (0 + 1)) (Sp.qf 8 (0 + 1))), []⟩, ⟨false, false, 22, [rootF (Sp.mkA (Sp.qi 0) (Sp.qi 1) (Sp.qi 8)) (Sp.mkB (Sp.qi 1) (Sp.qi 8)) (Sp.mkC (Sp.qi 1) (Sp.qi 8)), rootF zNxF9 (Sp.mkB (Sp.qf 1 (0 + 1)) (Sp.qf 8 (0 + 1))) (Sp.mkC (Sp.qf 1 (0 + 1)) (Sp.qf 8 (0 + 1)))], [], vb (decide zNxF2), []⟩]) (vb false) (by kernel_rfl) (bc rfl (bc rfl (bc rfl (bc rfl (bc rfl (bc rfl (bc rfl b0))))))) q0 (cc (fun _ => (@ev18 (1) k1)) (cc (fun _ => (@ev18 (2) k2)) (cc (fun _ => (@ev43 (9) (4) k3)) (cc (fun _ => (@ev42_n (false) (false) (false) (false) (false) (false) (Sp.qi 1) (Sp.qi 2) (Sp.qf 9 4) k55 d4)) (cc (fun _ => (@ev44 (0) (1) (8) k56)) (cc (fun _ => (@ev44 (1) (1) (2) k57)) (cc (fun _ => (@ev44 (1) (-1) (2) k58)) (cc (fun hc => ((@ev41 (4) (k60 ((i_at (i_at (i_bf (i_var _)))).1 hc))) : Ev M1 (Conf.pure 41 [vi 4]) (rootF (Sp.qi 4) (Sp.qi 0) (Sp.qi 0)) [])) (cc (fun hc => ((k62 ((i_var _).1 hc)) : Ev M1 (Conf.pure 22 [zNxF3, rootF (Sp.qi 4) (Sp.qi 0) (Sp.qi 0)]) (vb b2) [])) (cc (fun hc => ((@ev45 (0) (1) (8) (0) (0) (0) (k64 ((i_var _).1 hc))) : Ev M1 (Conf.pure 45 [zNxF16]) (rootF zNxF9 (Sp.mkB (Sp.qf 1 (0 + 1)) (Sp.qf 8 (0 + 1))) (Sp.mkC (Sp.qf 1 (0 + 1)) (Sp.qf 8 (0 + 1)))) [])) (cc (fun hc => ((@ev22 (false) (false) (false) (false) (false) (false) (false) (false) (false) (false) (false) (false) (Sp.mkA (Sp.qi 0) (Sp.qi 1) (Sp.qi 8)) (Sp.mkB (Sp.qi 1) (Sp.qi 8)) (Sp.mkC (Sp.qi 1) (Sp.qi 8)) zNxF9 (Sp.mkB (Sp.qf 1 (0 + 1)) (Sp.qf 8 (0 + 1))) (Sp.mkC (Sp.qf 1 (0 + 1)) (Sp.qf 8 (0 + 1))) (k66 ((i_var _).1 hc))) : Ev M1 (Conf.pure 22 [rootF (Sp.mkA (Sp.qi 0) (Sp.qi 1) (Sp.qi 8)) (Sp.mkB (Sp.qi 1) (Sp.qi 8)) (Sp.mkC (Sp.qi 1) (Sp.qi 8)), rootF zNxF9 (Sp.mkB (Sp.qf 1 (0 + 1)) (Sp.qf 8 (0 + 1))) (Sp.mkC (Sp.qf 1 (0 + 1)) (Sp.qf 8 (0 + 1)))]) (vb (decide zNxF2)) [])) c0))))))))))) H
end Go.Av

namespace Go.Av
open Go.Proofs
theorem sq_of {a r : Nat} (h1 : r * r <= a) (h2 : a < (r + 1) * (r + 1)) : Sp.sq (a : Int) = r := by
 unfold Sp.sq
 rw [if_neg (by omega), Int.natAbs_natCast, isqrt_eq ⟨h1, h2⟩]
theorem nsq_int {n r : Nat} (h1 : r * r < n) (h2 : n < (r + 1) * (r + 1)) : ¬Sp.rsq (Sp.qi (n : Int)) := by
 intro h
 have := ((isSq_iff _).1 h.1).2
 rw [qi_eq, Rat.num_intCast, sq_of (Nat.le_of_lt h1) h2] at this
 have e : ((r * r : Nat) : Int) = (n : Int) := by rw [Int.natCast_mul]; exact this
 omega
theorem mk_ns {c : Rat} (h : ¬Sp.rsq c) (a b : Rat) : Sp.mkA a b c = a /\ Sp.mkB b c = b /\ Sp.mkC b c = Sp.rad b c := ⟨if_neg h, if_neg h, if_neg h⟩
theorem qf_one (n : Int) : Sp.qf n (0 + 1) = Sp.qi n := by
 rw [qf_eq, qi_eq]
 have e : ((0 : Int) + 1) = 1 := rfl
 rw [e]
 obtain ⟨e1, e2⟩ := rat_pos (a := n) (b := 1) (by omega)
 apply Rat.ext
 ·rw [e1, Int.gcd_one]; simp
 ·rw [Int.gcd_one] at e2
  have : ((n : Rat).den : Int) = 1 := by rw [Rat.den_intCast]; rfl
  simp at e2
  omega
theorem qi_mul (a b : Int) : Sp.qi a * Sp.qi b = Sp.qi (a * b) := by rw [qi_eq, qi_eq, qi_eq, Rat.intCast_mul]
theorem qi_sub (a b : Int) : Sp.qi a - Sp.qi b = Sp.qi (a - b) := by rw [qi_eq, qi_eq, qi_eq, Rat.intCast_sub]
theorem qi_add (a b : Int) : Sp.qi a + Sp.qi b = Sp.qi (a + b) := by rw [qi_eq, qi_eq, qi_eq, Rat.intCast_add]
theorem qi_neg (a : Int) : -Sp.qi a = Sp.qi (-a) := by rw [qi_eq, qi_eq, Rat.intCast_neg]
theorem qi_num (a : Int) : (Sp.qi a).num = a /\ ((Sp.qi a).den : Int) = 1 := by rw [qi_eq, Rat.num_intCast, Rat.den_intCast]; exact ⟨rfl, rfl⟩
theorem qi_ne {a : Int} (h : a ≠ 0) : Sp.qi a ≠ 0 := fun e => h (by have := (qi_num a).1; rw [e] at this; exact this.symm)
theorem rad_ne {b : Int} (h : b ≠ 0) (c : Rat) : Sp.rad (Sp.qi b) c = c := if_neg (qi_ne h)
theorem sgR_int (a : Int) : Sp.sgR (Sp.qi a) = Sp.sgnI a := by unfold Sp.sgR; rw [(qi_num a).1]
theorem sgO_int (a b c : Int) : Sp.sgO (Sp.qi a) (Sp.qi b) (Sp.qi c) = if Sp.sgnI b = 0 \/ Sp.sgnI a = Sp.sgnI b then Sp.sgnI a else if Sp.sgnI a = 0 then Sp.sgnI b else Sp.sgnI a * Sp.sgnI (a * a - b * b * c) := by
 unfold Sp.sgO
 rw [qi_mul, qi_mul, qi_mul, qi_sub, sgR_int, sgR_int, sgR_int]
theorem fl_int {a b c : Int} (hb : b ≠ 0) : Sp.fl (Sp.qi a) (Sp.qi b) (Sp.qi c) = Sp.flo (a * 1 + (if b < 0 then -(Sp.sq (1 * 1 * (b * b * c * 1)) + 1) else Sp.sq (1 * 1 * (b * b * c * 1)))) (1 * 1) := by
 unfold Sp.fl Sp.flW
 rw [if_neg (qi_ne hb), qi_mul, qi_mul]
 simp only [qi_num]
theorem nn94 : Sp.isNN (Sp.qf 9 4) := nn_qf (by omega) (by omega)
theorem rsq94 : Sp.rsq (Sp.qf 9 4) := rsq_of (s := Rat.divInt 3 2) (by rw [qf_eq, Rat.divInt_mul_divInt]; rfl)
theorem rt94 : Sp.rt (Sp.qf 9 4) = Rat.divInt 3 2 := by
 have e : (Sp.qf 9 4).num = 9 /\ ((Sp.qf 9 4).den : Int) = 4 := by rw [qf_eq]; decide
 unfold Sp.rt
 rw [e.1, e.2]
 have h9 : Sp.sq 9 = 3 := sq_of (a := 9) (r := 3) (by decide) (by decide)
 have h4 : Sp.sq 4 = 2 := sq_of (a := 4) (r := 2) (by decide) (by decide)
 rw [h9, h4]
theorem mk94 : Sp.mkA (Sp.qi 1) (Sp.qi 2) (Sp.qf 9 4) = Sp.qi 4 /\ Sp.mkB (Sp.qi 2) (Sp.qf 9 4) = Sp.qi 0 /\ Sp.mkC (Sp.qi 2) (Sp.qf 9 4) = Sp.qi 0 := by
 refine ⟨?_, if_pos rsq94, if_pos rsq94⟩
 unfold Sp.mkA
 have d : (Rat.divInt 3 2).num = 3 /\ ((Rat.divInt 3 2).den : Int) = 2 := by decide
 have d2 : (Rat.divInt (2 * 3) (1 * 2)).num = 3 /\ ((Rat.divInt (2 * 3) (1 * 2)).den : Int) = 1 := by decide
 rw [if_pos rsq94, rt94, <- rat_mul, d.1, d.2, (qi_num 2).1, (qi_num 2).2, <- rat_add, d2.1, d2.2, (qi_num 1).1, (qi_num 1).2, qi_eq]
 decide
theorem okO_int {a b c : Int} (ha : Sp.inI a) (hb : Sp.inI b) (hc : Sp.inI c) : Sp.okO (Sp.qi a) (Sp.qi b) (Sp.qi c) := okT_O (okT_int ha) (okT_int hb) (okT_int hc) (by omega)
theorem ivn_int : Sp.ivn (Sp.qi 1) (Sp.qi 1) (Sp.qi 2) = Sp.qi (-1) := by
 unfold Sp.ivn
 rw [qi_mul, qi_mul, qi_sub, <- rat_div, (qi_num 1).1, (qi_num 1).2, (qi_num _).1, (qi_num _).2, qi_eq]
 decide
theorem okO_of94 : Sp.okO (Sp.qi 1) (Sp.qi 2) (Sp.qf 9 4) := okT_O (okT_int (by unfold Sp.inI; omega)) (okT_int (by unfold Sp.inI; omega)) (okT_qf (by unfold Sp.okF Sp.inI; omega)) (by omega)
end Go.Av

namespace Go.Av
open Go.Proofs
theorem inI_small {n : Int} (h : -100 <= n /\ n <= 100) : Sp.inI n := by unfold Sp.inI; omega
theorem ev9 : Ev M1 (.pure 9 []) (.bool true) [] := by
 have n2 : ¬Sp.rsq (Sp.qi 2) := nsq_int (n := 2) (r := 1) (by decide) (by decide)
 have n8 : ¬Sp.rsq (Sp.qi 8) := nsq_int (n := 8) (r := 2) (by decide) (by decide)
 have s2 : Sp.sq 2 = 1 := sq_of (a := 2) (r := 1) (by decide) (by decide)
 have a2 : ∀ a b, Sp.mkA a b (Sp.qi 2) = a := fun a b => (mk_ns n2 a b).1
 have b2 : ∀ b, Sp.mkB b (Sp.qi 2) = b := fun b => (mk_ns n2 b b).2.1
 have c2 : ∀ b, Sp.mkC b (Sp.qi 2) = Sp.rad b (Sp.qi 2) := fun b => (mk_ns n2 b b).2.2
 have a8 : ∀ a b, Sp.mkA a b (Sp.qi 8) = a := fun a b => (mk_ns n8 a b).1
 have b8 : ∀ b, Sp.mkB b (Sp.qi 8) = b := fun b => (mk_ns n8 b b).2.1
 have c8 : ∀ b, Sp.mkC b (Sp.qi 8) = Sp.rad b (Sp.qi 8) := fun b => (mk_ns n8 b b).2.2
 have r1 : ∀ c, Sp.rad (Sp.qi 1) c = c := rad_ne (by decide)
 have r2 : ∀ c, Sp.rad (Sp.qi (-1)) c = c := rad_ne (by decide)
 have r3 : ∀ c, Sp.rad (Sp.qi (-2)) c = c := rad_ne (by decide)
 have r4 : ∀ c, Sp.rad (Sp.qi (-3)) c = c := rad_ne (by decide)
 have m1 : Sp.qi 1 * Sp.qi (-1) = Sp.qi (-1) := qi_mul 1 (-1)
 have m2 : -Sp.qi 1 * Sp.qi (-1) = Sp.qi 1 := by rw [qi_neg, qi_mul]; rfl
 have g1 : Sp.sgO (Sp.qi 1) (Sp.qi 1) (Sp.qi 2) = 1 := by rw [sgO_int]; decide
 have g2 : Sp.sgO (Sp.qi 3) (Sp.qi (-2)) (Sp.qi 2) = 1 := by rw [sgO_int]; decide
 have g3 : Sp.sgO (Sp.qi 4) (Sp.qi (-3)) (Sp.qi 2) = -1 := by rw [sgO_int]; decide
 have f1 : Sp.fl (Sp.qi 1) (Sp.qi 1) (Sp.qi 2) = 2 := by
  rw [fl_int (by decide), show (1 : Int) * 1 * (1 * 1 * 2 * 1) = 2 from rfl, s2]; decide
 have f2 : Sp.fl (Sp.qi 1) (Sp.qi (-1)) (Sp.qi 2) = -1 := by
  rw [fl_int (by decide), show (1 : Int) * 1 * (-1 * -1 * 2 * 1) = 2 from rfl, s2]; decide
 have nm : Sp.nrm (Sp.qi 1) (Sp.qi 1) (Sp.qi 2) := by
  unfold Sp.nrm
  rw [qi_mul, qi_mul, qi_sub]
  exact qi_ne (by decide)
 refine call9 (lAwake _ ?_)
 simp only [mk94.1, mk94.2.1, mk94.2.2, qf_one, a2, b2, c2, a8, b8, c8, r1, r2, r3, r4, ivn_int, m1, m2, g1, g2, g3, f1, f2]
 have i (n : Int) (h : -100 <= n /\ n <= 100 := by decide) : Sp.inI n := inI_small h
 have o (a b c : Int) (h : (-100 <= a /\ a <= 100) /\ (-100 <= b /\ b <= 100) /\ (-100 <= c /\ c <= 100) := by decide) : Sp.okO (Sp.qi a) (Sp.qi b) (Sp.qi c) := okO_int (inI_small h.1) (inI_small h.2.1) (inI_small h.2.2)
 have m (a b c : Int) (h : (-100 <= a /\ a <= 100) /\ (-100 <= b /\ b <= 100) /\ (0 <= c /\ c <= 100) := by decide) : Sp.okM a b c := ⟨inI_small h.1, inI_small h.2.1, inI_small (by omega), h.2.2.1⟩
 have ok (a : Int) (h : -100 <= a /\ a <= 100 := by decide) : Sp.ok a := ok_inI (inI_small h)
 have d (a b c : Int) (h : (-100 <= a /\ a <= 100) /\ (-100 <= b /\ b <= 100) /\ (0 <= c /\ c <= 100) := by decide) : Sp.okSd a b c 0 0 0 := by unfold Sp.okSd; omega
 have okf : Sp.okF 9 4 := ⟨inI_small (by decide), inI_small (by decide), by decide⟩
 refine ⟨i 1, i 2, okf, fun _ => ⟨okO_of94, m 0 1 8, m 1 1 2, m 1 (-1) 2, fun _ => i 4, ⟨o 4 0 0, o 4 0 0⟩, fun _ => d 0 1 8, fun _ => ⟨o 0 1 8, o 0 1 8⟩, fun k => ?_, fun _ => ⟨fun k => ?_, fun _ => ⟨⟨o 1 1 2, nm⟩, m 3 (-2) 2, m 4 (-3) 2, fun _ => d (-1) 1 2, ⟨o (-1) 1 2, o (-1) 1 2⟩, fun _ => o 1 1 2, fun _ => ⟨ok 2, i 2⟩, fun _ => o 1 (-1) 2, fun _ => ⟨ok (-1), i (-1)⟩, fun _ => o 3 (-2) 2, fun _ => o 4 (-3) 2, ?_⟩⟩⟩, fun k => absurd nn94 k⟩
 ·exfalso
  rcases k with k | k
  ·exact k (by simp)
  ·exact k (by simp)
 ·exact absurd k (by decide)
 ·simp
end Go.Av

namespace Go.Av
open Go.Proofs
set_option maxRecDepth 100000
def fi13 : Fi := ⟨73, [.cell 2 24]⟩
def kp13 : List (Nat × List Nat) := [(0, [1, 2]), (1, [1, 2, 15]), (2, [2]), (3, [1, 2, 3]), (4, [1, 2, 3, 4]), (5, [1, 2, 3, 4, 5]), (6, [1, 2, 3, 4, 6]), (7, [1, 2, 3, 4, 7]), (8, [1, 2, 3, 4, 7, 53]), (9, [1, 2, 3, 4, 7]), (10, [2, 9]), (11, [2])]
def fi21 : Fi := ⟨28, [.tmp 2]⟩
def kp21 : List (Nat × List Nat) := [(0, [1]), (1, [1, 3, 4]), (2, [1, 3, 4, 17]), (3, [2]), (4, [1, 3, 4, 20]), (5, [2]), (6, [3, 4, 25]), (7, [2]), (8, [2])]
def fi47 : Fi := ⟨25, [.tmp 4]⟩
def kp47 : List (Nat × List Nat) := [(0, [1, 2]), (1, [4])]
def pSign_at (f1 f2 f3 f4 f5 f6 : Bool) (a b c : Rat) (Q : AV -> Heap -> Prop) : Prop := Wp M1 (.run fi21 (atC (cd Tryz.f21) []) [(0, .agg [.bool (Sp.isNeg a.num), .vec f1 1 ((Sp.limI a.num).map (.int .u32)), .bool (Sp.isNeg (a.den : Int)), .vec f2 1 ((Sp.limI (a.den : Int)).map (.int .u32)), .bool (Sp.isNeg b.num), .vec f3 1 ((Sp.limI b.num).map (.int .u32)), .bool (Sp.isNeg (b.den : Int)), .vec f4 1 ((Sp.limI (b.den : Int)).map (.int .u32)), .bool (Sp.isNeg c.num), .vec f5 1 ((Sp.limI c.num).map (.int .u32)), .bool (Sp.isNeg (c.den : Int)), .vec f6 1 ((Sp.limI (c.den : Int)).map (.int .u32))])] []) Q
def pSmall_at (f1 f2 f3 f4 f5 f6 : Bool) (a b c : Rat) (n : Int) (Q : AV -> Heap -> Prop) : Prop := Wp M1 (.run fi47 (atC (cd Tryz.f47) []) [(0, .agg [.bool (Sp.isNeg a.num), .vec f1 1 ((Sp.limI a.num).map (.int .u32)), .bool (Sp.isNeg (a.den : Int)), .vec f2 1 ((Sp.limI (a.den : Int)).map (.int .u32)), .bool (Sp.isNeg b.num), .vec f3 1 ((Sp.limI b.num).map (.int .u32)), .bool (Sp.isNeg (b.den : Int)), .vec f4 1 ((Sp.limI (b.den : Int)).map (.int .u32)), .bool (Sp.isNeg c.num), .vec f5 1 ((Sp.limI c.num).map (.int .u32)), .bool (Sp.isNeg (c.den : Int)), .vec f6 1 ((Sp.limI (c.den : Int)).map (.int .u32))]), (1, .int .i64 n)] []) Q
def pSmallR_at (s1 s2 s3 t1 t2 t3 f1 f2 f3 g1 g2 g3 : Bool) (x1 x2 x3 y1 y2 y3 : List Int) (n : Int) (Q : AV -> Heap -> Prop) : Prop := Wp M1 (.run fi47 (atC (cd Tryz.f47) []) [(0, .agg [.bool s1, .vec f1 1 (x1.map (.int .u32)), .bool t1, .vec g1 1 (y1.map (.int .u32)), .bool s2, .vec f2 1 (x2.map (.int .u32)), .bool t2, .vec g2 1 (y2.map (.int .u32)), .bool s3, .vec f3 1 (x3.map (.int .u32)), .bool t3, .vec g3 1 (y3.map (.int .u32))]), (1, .int .i64 n)] []) Q
def pFloor_at (f1 f2 f3 f4 f5 f6 : Bool) (a b c : Rat) (Q : AV -> Heap -> Prop) : Prop := Wp M1 (.run fi13 (atC (cd Tryz.f13) []) [(0, .agg [.bool (Sp.isNeg a.num), .vec f1 1 ((Sp.limI a.num).map (.int .u32)), .bool (Sp.isNeg (a.den : Int)), .vec f2 1 ((Sp.limI (a.den : Int)).map (.int .u32)), .bool (Sp.isNeg b.num), .vec f3 1 ((Sp.limI b.num).map (.int .u32)), .bool (Sp.isNeg (b.den : Int)), .vec f4 1 ((Sp.limI (b.den : Int)).map (.int .u32)), .bool (Sp.isNeg c.num), .vec f5 1 ((Sp.limI c.num).map (.int .u32)), .bool (Sp.isNeg (c.den : Int)), .vec f6 1 ((Sp.limI (c.den : Int)).map (.int .u32))])] []) Q
theorem call13 {args : List AV} {d : AV} (h : wc M1 fi13 Tryz.f13 args d) : Ev M1 (.pure 13 args) d [] := pcl _ _ (by kernel_rfl) h
theorem call21 {args : List AV} {d : AV} (h : wc M1 fi21 Tryz.f21 args d) : Ev M1 (.pure 21 args) d [] := pcl _ _ (by kernel_rfl) h
theorem call47 {args : List AV} {d : AV} (h : wc M1 fi47 Tryz.f47 args d) : Ev M1 (.pure 47 args) d [] := pcl _ _ (by kernel_rfl) h
theorem pSign (f1 f2 f3 f4 f5 f6 : Bool) (a b c : Rat)  (dq : AV) (H :
  (((Sp.sgnI a.num = Sp.sgnI b.num) \/ (Sp.sgnI b.num = 0)) -> vi (Sp.sgnI a.num) = dq) /\
  (¬((Sp.sgnI a.num = Sp.sgnI b.num) \/ (Sp.sgnI b.num = 0)) -> ((Sp.sgnI a.num = 0) -> vi (Sp.sgnI b.num) = dq) /\
   (¬(Sp.sgnI a.num = 0) -> (Sp.okO a b c) /\
    ((Sp.sgnI (a * a - b * b * c).num > 0) -> vi (Sp.sgnI a.num) = dq) /\
    (¬(Sp.sgnI (a * a - b * b * c).num > 0) -> vi (Sp.sgnI b.num) = dq)))) :
 pSign_at f1 f2 f3 f4 f5 f6 a b c (PureQ dq) := by
 unfold pSign_at
 refine path_wp (G := given kp21 [(1, 2, .call (vi (Sp.sgnI a.num)) none), (1, 5, .call (vi (Sp.sgnI b.num)) none)] []) 7 [] ⟨(atC (cd Tryz.f21) [1, 1, 0, 1]), [(1, AV.ptr 0 0 0 0), (3, vi (Sp.sgnI a.num)), (4, vi (Sp.sgnI b.num)), (17, vb (bif Sp.sgnI a.num == Sp.sgnI b.num then true else Sp.sgnI b.num == 0))], [⟨[rootA f1 f2 f3 f4 f5 f6 a b c], 12, 0, false, false⟩], _, [], _⟩ (by kernel_rfl) (bc rfl (bc rfl b0)) q0 (ce (@ev27 (f1) (f2) (a.num) ((↑a.den : Int))) (ce (@ev27 (f3) (f4) (b.num) ((↑b.den : Int))) c0)) ?_
 rcases xm ((Sp.sgnI a.num = Sp.sgnI b.num) \/ (Sp.sgnI b.num = 0)) with d2 | d2
 ·have H := H.1 d2
  exact path_re (G := given kp21 [] []) 1000 [true] (vi (Sp.sgnI a.num)) (by kernel_rfl) (bc (beq_t ((i_bor i_eq i_eq).2 d2)) b0) q0 c0 H
 ·have H := H.2 d2
  rcases xm (Sp.sgnI a.num = 0) with d4 | d4
  ·have H := H.1 d4
   exact path_re (G := given kp21 [] []) 1000 [false, true] (vi (Sp.sgnI b.num)) (by kernel_rfl) (bc (beq_f (fun h => d2 ((i_bor i_eq i_eq).1 h))) (bc (beq_t (i_eq.2 d4)) b0)) q0 c0 H
  ·have H := H.2 d4
   obtain ⟨k5, H⟩ := H
   refine path_wp (G := given kp21 [(6, 1, .call (ratA false false (a * a - b * b * c)) none), (6, 2, .call (vi (Sp.sgnI (a * a - b * b * c).num)) none)] []) 10 [false, false] ⟨(atC (cd Tryz.f21) [1, 1, 1, 1, 0, 1]), [(3, vi (Sp.sgnI a.num)), (4, vi (Sp.sgnI b.num)), (25, vb (decide (Sp.sgnI (a * a - b * b * c).num > 0)))], [⟨[rootA f1 f2 f3 f4 f5 f6 a b c], 12, 0, false, false⟩], _, [], _⟩ (by kernel_rfl) (bc (beq_f (fun h => d2 ((i_bor i_eq i_eq).1 h))) (bc (beq_f (fun h => d4 (i_eq.1 h))) (bc rfl b0))) q0 (ce (@ev73 (f1) (f2) (f3) (f4) (f5) (f6) (a) (b) (c) k5) (ce (@ev27 (false) (false) ((a * a - b * b * c).num) ((↑(a * a - b * b * c).den : Int))) c0)) ?_
   rcases xm (Sp.sgnI (a * a - b * b * c).num > 0) with d7 | d7
   ·have H := H.1 d7
    exact path_re (G := given kp21 [] []) 1000 [true] (vi (Sp.sgnI a.num)) (by kernel_rfl) (bc (beq_t (i_dec.2 d7)) b0) q0 c0 H
   ·have H := H.2 d7
    exact path_re (G := given kp21 [] []) 1000 [false] (vi (Sp.sgnI b.num)) (by kernel_rfl) (bc (beq_f (fun h => d7 (i_dec.1 h))) b0) q0 c0 H
noncomputable abbrev zNyA3 (n : Int) (a : Rat) (b : Rat) (c : Rat) := bif bif Sp.smallB n (Sp.isNeg a.num) (Sp.limI a.num) (Sp.isNeg (↑a.den : Int)) (Sp.limI (↑a.den : Int)) then Sp.smallB n (Sp.isNeg b.num) (Sp.limI b.num) (Sp.isNeg (↑b.den : Int)) (Sp.limI (↑b.den : Int)) else false then Sp.smallB n (Sp.isNeg c.num) (Sp.limI c.num) (Sp.isNeg (↑c.den : Int)) (Sp.limI (↑c.den : Int)) else false
noncomputable abbrev zNyA4 (n : Int) (a : Rat) (b : Rat) := bif Sp.smallB n (Sp.isNeg a.num) (Sp.limI a.num) (Sp.isNeg (↑a.den : Int)) (Sp.limI (↑a.den : Int)) then Sp.smallB n (Sp.isNeg b.num) (Sp.limI b.num) (Sp.isNeg (↑b.den : Int)) (Sp.limI (↑b.den : Int)) else false
noncomputable abbrev zNyA5 (n : Int) (b : Rat) := Sp.smallB n (Sp.isNeg b.num) (Sp.limI b.num) (Sp.isNeg (↑b.den : Int)) (Sp.limI (↑b.den : Int))
noncomputable abbrev zNyA6 (n : Int) (c : Rat) := Sp.smallB n (Sp.isNeg c.num) (Sp.limI c.num) (Sp.isNeg (↑c.den : Int)) (Sp.limI (↑c.den : Int))
theorem pSmall (f1 f2 f3 f4 f5 f6 : Bool) (a b c : Rat) (n : Int)  (dq : AV) (H :
  (Sp.okU n (Sp.limI a.num) (Sp.limI (↑a.den : Int))) /\
  ((Sp.smallB n (Sp.isNeg a.num) (Sp.limI a.num) (Sp.isNeg (↑a.den : Int)) (Sp.limI (↑a.den : Int)) = true) -> (Sp.okU n (Sp.limI b.num) (Sp.limI (↑b.den : Int)))) /\
  (((Sp.smallB n (Sp.isNeg a.num) (Sp.limI a.num) (Sp.isNeg (↑a.den : Int)) (Sp.limI (↑a.den : Int)) = true) /\ (Sp.smallB n (Sp.isNeg b.num) (Sp.limI b.num) (Sp.isNeg (↑b.den : Int)) (Sp.limI (↑b.den : Int)) = true)) -> (Sp.okU n (Sp.limI c.num) (Sp.limI (↑c.den : Int)))) /\
  ((((Sp.smallB n (Sp.isNeg a.num) (Sp.limI a.num) (Sp.isNeg (↑a.den : Int)) (Sp.limI (↑a.den : Int)) = true) /\ (Sp.smallB n (Sp.isNeg b.num) (Sp.limI b.num) (Sp.isNeg (↑b.den : Int)) (Sp.limI (↑b.den : Int)) = true)) /\ (Sp.smallB n (Sp.isNeg c.num) (Sp.limI c.num) (Sp.isNeg (↑c.den : Int)) (Sp.limI (↑c.den : Int)) = true)) -> (Sp.okO a b c)) /\
  vb (bif bif bif Sp.smallB n (Sp.isNeg a.num) (Sp.limI a.num) (Sp.isNeg (↑a.den : Int)) (Sp.limI (↑a.den : Int)) then Sp.smallB n (Sp.isNeg b.num) (Sp.limI b.num) (Sp.isNeg (↑b.den : Int)) (Sp.limI (↑b.den : Int)) else false then Sp.smallB n (Sp.isNeg c.num) (Sp.limI c.num) (Sp.isNeg (↑c.den : Int)) (Sp.limI (↑c.den : Int)) else false then Sp.vroot b c else false) = dq) :
 pSmall_at f1 f2 f3 f4 f5 f6 a b c n (PureQ dq) := by
 unfold pSmall_at
 obtain ⟨k1, H⟩ := H
 obtain ⟨k3, H⟩ := H
 obtain ⟨k5, H⟩ := H
 obtain ⟨k7, H⟩ := H
 exact path_re (G := given kp47 [(1, 3, .call (vb (Sp.smallB n (Sp.isNeg a.num) (Sp.limI a.num) (Sp.isNeg (↑a.den : Int)) (Sp.limI (↑a.den : Int)))) none), (1, 8, .call (vb (zNyA5 n b)) none), (1, 14, .call (vb (zNyA6 n c)) none), (1, 18, .call (vb (Sp.vroot b c)) none)] []) 1000 [] (asm := [true, !(Sp.smallB n (Sp.isNeg a.num) (Sp.limI a.num) (Sp.isNeg (↑a.den : Int)) (Sp.limI (↑a.den : Int)) == true && true) || true, !((zNyA4 n a b) == true && true) || true, !((zNyA3 n a b c) == true && true) || true]) (calls := [⟨true, false, 19, [ratA f1 f2 a, vi n], [], vb (Sp.smallB n (Sp.isNeg a.num) (Sp.limI a.num) (Sp.isNeg (↑a.den : Int)) (Sp.limI (↑a.den : Int))), []⟩, ⟨Sp.smallB n (Sp.isNeg a.num) (Sp.limI a.num) (Sp.isNeg (↑a.den : Int)) (Sp.limI (↑a.den : Int)) == true && true && true, false, 19, [ratA f3 f4 b, vi n], [], vb (zNyA5 n b), []⟩, ⟨(zNyA4 n a b) == true && true && true, false, 19, [ratA f5 f6 c, vi n], [], vb (zNyA6 n c), []⟩, ⟨(zNyA3 n a b c) == true && true && true, false, 93, [rootA f1 f2 f3 f4 f5 f6 a b c], [], vb (Sp.vroot b c), []⟩]) (vb (bif bif bif Sp.smallB n (Sp.isNeg a.num) (Sp.limI a.num) (Sp.isNeg (↑a.den : Int)) (Sp.limI (↑a.den : Int)) then Sp.smallB n (Sp.isNeg b.num) (Sp.limI b.num) (Sp.isNeg (↑b.den : Int)) (Sp.limI (↑b.den : Int)) else false then Sp.smallB n (Sp.isNeg c.num) (Sp.limI c.num) (Sp.isNeg (↑c.den : Int)) (Sp.limI (↑c.den : Int)) else false then Sp.vroot b c else false)) (by kernel_rfl) (bc rfl (bc (Bool.or_true _) (bc (Bool.or_true _) (bc (Bool.or_true _) b0)))) q0 (cc (fun _ => (@ev19 (Sp.isNeg a.num) (f1) (Sp.isNeg (↑a.den : Int)) (f2) (Sp.limI a.num) (Sp.limI (↑a.den : Int)) (n) k1)) (cc (fun hc => ((@ev19 (Sp.isNeg b.num) (f3) (Sp.isNeg (↑b.den : Int)) (f4) (Sp.limI b.num) (Sp.limI (↑b.den : Int)) (n) (k3 ((i_at (i_at (i_bt (i_var _)))).1 hc))) : Ev M1 (Conf.pure 19 [ratA f3 f4 b, vi n]) (vb (zNyA5 n b)) [])) (cc (fun hc => ((@ev19 (Sp.isNeg c.num) (f5) (Sp.isNeg (↑c.den : Int)) (f6) (Sp.limI c.num) (Sp.limI (↑c.den : Int)) (n) (k5 ((i_at (i_at (i_bt (i_band (i_var _) (i_var _))))).1 hc))) : Ev M1 (Conf.pure 19 [ratA f5 f6 c, vi n]) (vb (zNyA6 n c)) [])) (cc (fun hc => ((@ev93 (f1) (f2) (f3) (f4) (f5) (f6) (a) (b) (c) (k7 ((i_at (i_at (i_bt (i_band (i_band (i_var _) (i_var _)) (i_var _))))).1 hc))) : Ev M1 (Conf.pure 93 [rootA f1 f2 f3 f4 f5 f6 a b c]) (vb (Sp.vroot b c)) [])) c0)))) H
theorem pSmallR (s1 s2 s3 t1 t2 t3 f1 f2 f3 g1 g2 g3 : Bool) (x1 x2 x3 y1 y2 y3 : List Int) (n : Int)  (dq : AV) (H :
  (Sp.okU n x1 y1) /\
  ((Sp.smallB n s1 x1 t1 y1 = true) -> (Sp.okU n x2 y2)) /\
  (((Sp.smallB n s1 x1 t1 y1 = true) /\ (Sp.smallB n s2 x2 t2 y2 = true)) -> (Sp.okU n x3 y3)) /\
  ∃ (b1 : Bool),
  ((((Sp.smallB n s1 x1 t1 y1 = true) /\ (Sp.smallB n s2 x2 t2 y2 = true)) /\ (Sp.smallB n s3 x3 t3 y3 = true)) -> (Ev M1 (Conf.pure 93 [ag [vb s1, AV.vec f1 1 (us x1), vb t1, AV.vec g1 1 (us y1), vb s2, AV.vec f2 1 (us x2), vb t2, AV.vec g2 1 (us y2), vb s3, AV.vec f3 1 (us x3), vb t3, AV.vec g3 1 (us y3)]]) (vb b1) [])) /\
  vb (bif bif bif Sp.smallB n s1 x1 t1 y1 then Sp.smallB n s2 x2 t2 y2 else false then Sp.smallB n s3 x3 t3 y3 else false then b1 else false) = dq) :
 pSmallR_at s1 s2 s3 t1 t2 t3 f1 f2 f3 g1 g2 g3 x1 x2 x3 y1 y2 y3 n (PureQ dq) := by
 unfold pSmallR_at
 obtain ⟨k1, H⟩ := H
 obtain ⟨k3, H⟩ := H
 obtain ⟨k5, H⟩ := H
 obtain ⟨b1, H⟩ := H
 obtain ⟨k7, H⟩ := H
 exact path_re (G := given kp47 [(1, 3, .call (vb (Sp.smallB n s1 x1 t1 y1)) none), (1, 8, .call (vb (Sp.smallB n s2 x2 t2 y2)) none), (1, 14, .call (vb (Sp.smallB n s3 x3 t3 y3)) none), (1, 18, .call (vb b1) none)] []) 1000 [] (asm := [true, !(Sp.smallB n s1 x1 t1 y1 == true && true) || true, !((bif Sp.smallB n s1 x1 t1 y1 then Sp.smallB n s2 x2 t2 y2 else false) == true && true) || true, !((bif bif Sp.smallB n s1 x1 t1 y1 then Sp.smallB n s2 x2 t2 y2 else false then Sp.smallB n s3 x3 t3 y3 else false) == true && true) || true]) (calls := [⟨true, false, 19, [ag [vb s1, AV.vec f1 1 (us x1), vb t1, AV.vec g1 1 (us y1)], vi n], [], vb (Sp.smallB n s1 x1 t1 y1), []⟩, ⟨Sp.smallB n s1 x1 t1 y1 == true && true && true, false, 19, [ag [vb s2, AV.vec f2 1 (us x2), vb t2, AV.vec g2 1 (us y2)], vi n], [], vb (Sp.smallB n s2 x2 t2 y2), []⟩, ⟨(bif Sp.smallB n s1 x1 t1 y1 then Sp.smallB n s2 x2 t2 y2 else false) == true && true && true, false, 19, [ag [vb s3, AV.vec f3 1 (us x3), vb t3, AV.vec g3 1 (us y3)], vi n], [], vb (Sp.smallB n s3 x3 t3 y3), []⟩, ⟨(bif bif Sp.smallB n s1 x1 t1 y1 then Sp.smallB n s2 x2 t2 y2 else false then Sp.smallB n s3 x3 t3 y3 else false) == true && true && true, false, 93, [ag [vb s1, AV.vec f1 1 (us x1), vb t1, AV.vec g1 1 (us y1), vb s2, AV.vec f2 1 (us x2), vb t2, AV.vec g2 1 (us y2), vb s3, AV.vec f3 1 (us x3), vb t3, AV.vec g3 1 (us y3)]], [], vb b1, []⟩]) (vb (bif bif bif Sp.smallB n s1 x1 t1 y1 then Sp.smallB n s2 x2 t2 y2 else false then Sp.smallB n s3 x3 t3 y3 else false then b1 else false)) (by kernel_rfl) (bc rfl (bc (Bool.or_true _) (bc (Bool.or_true _) (bc (Bool.or_true _) b0)))) q0 (cc (fun _ => (@ev19 (s1) (f1) (t1) (g1) (x1) (y1) (n) k1)) (cc (fun hc => ((@ev19 (s2) (f2) (t2) (g2) (x2) (y2) (n) (k3 ((i_at (i_at (i_bt (i_var _)))).1 hc))) : Ev M1 (Conf.pure 19 [ag [vb s2, AV.vec f2 1 (us x2), vb t2, AV.vec g2 1 (us y2)], vi n]) (vb (Sp.smallB n s2 x2 t2 y2)) [])) (cc (fun hc => ((@ev19 (s3) (f3) (t3) (g3) (x3) (y3) (n) (k5 ((i_at (i_at (i_bt (i_band (i_var _) (i_var _))))).1 hc))) : Ev M1 (Conf.pure 19 [ag [vb s3, AV.vec f3 1 (us x3), vb t3, AV.vec g3 1 (us y3)], vi n]) (vb (Sp.smallB n s3 x3 t3 y3)) [])) (cc (fun hc => ((k7 ((i_at (i_at (i_bt (i_band (i_band (i_var _) (i_var _)) (i_var _))))).1 hc)) : Ev M1 (Conf.pure 93 [ag [vb s1, AV.vec f1 1 (us x1), vb t1, AV.vec g1 1 (us y1), vb s2, AV.vec f2 1 (us x2), vb t2, AV.vec g2 1 (us y2), vb s3, AV.vec f3 1 (us x3), vb t3, AV.vec g3 1 (us y3)]]) (vb b1) [])) c0)))) H
noncomputable abbrev zNyA7 (a : Rat) (b : Rat) (c : Rat) := Sp.flo (a.num * (↑(b * b * c).den : Int) + Sp.sq ((b * b * c).num * (↑(b * b * c).den : Int) * ((↑a.den : Int) * (↑a.den : Int)))) ((↑a.den : Int) * (↑(b * b * c).den : Int))
noncomputable abbrev zNyA8 (a : Rat) (b : Rat) (c : Rat) := Sp.flr (a.num * (↑(b * b * c).den : Int) + Sp.sq ((b * b * c).num * (↑(b * b * c).den : Int) * ((↑a.den : Int) * (↑a.den : Int)))) ((↑a.den : Int) * (↑(b * b * c).den : Int))
noncomputable abbrev zNyA9 (b : Rat) (c : Rat) (a : Rat) := Sp.sq ((b * b * c).num * (↑(b * b * c).den : Int) * ((↑a.den : Int) * (↑a.den : Int)))
noncomputable abbrev zNyA10 (b4 : Bool) (l4 : List (Int)) (b5 : Bool) (l5 : List (Int)) (n1 : Int) := tu [ag [vb b4, vf (us l4)], ag [vb b5, vf (us l5)], vi n1]
noncomputable abbrev zNyA11 (b2 : Bool) (l2 : List (Int)) := ag [vb b2, vf (us l2)]
noncomputable abbrev zNyA12 (b3 : Bool) (l3 : List (Int)) := ag [vb b3, vf (us l3)]
theorem pFloor (f1 f2 f3 f4 f5 f6 : Bool) (a b c : Rat)  (dq : AV) (H :
  ((Sp.sgnI b.num = 0) -> (Sp.okR a) /\
   Weak (bigA false (Sp.flo a.num (↑a.den : Int))) dq) /\
  (¬(Sp.sgnI b.num = 0) -> (Sp.okR b) /\
   (Sp.okR (b * b) /\ Sp.okR c) /\
   (Sp.okB a.num /\ Sp.okB (↑(b * b * c).den : Int)) /\
   (Sp.okB (↑a.den : Int) /\ Sp.okB (↑a.den : Int)) /\
   (Sp.okB (b * b * c).num /\ Sp.okB (↑(b * b * c).den : Int)) /\
   (Sp.okB ((b * b * c).num * (↑(b * b * c).den : Int)) /\ Sp.okB ((↑a.den : Int) * (↑a.den : Int))) /\
   (Sp.okS ((b * b * c).num * (↑(b * b * c).den : Int) * ((↑a.den : Int) * (↑a.den : Int)))) /\
   ((Sp.sgnI b.num < 0) -> (Sp.inI 1) /\
    ∃ (b1 : Bool) (l1 : List (Int)),
    (Ev M1 (Conf.pure 63 [bigA false (Sp.sq ((b * b * c).num * (↑(b * b * c).den : Int) * ((↑a.den : Int) * (↑a.den : Int)))), ag [vb false, vf (us (Sp.limI 1))]]) (ag [vb b1, vf (us l1)]) []) /\
    ∃ (b2 : Bool) (l2 : List (Int)),
    (Ev M1 (Conf.pure 62 [ag [vb b1, vf (us l1)]]) (ag [vb b2, vf (us l2)]) []) /\
    ∃ (b3 : Bool) (l3 : List (Int)),
    (Ev M1 (Conf.pure 63 [bigA false (a.num * (↑(b * b * c).den : Int)), ag [vb b2, vf (us l2)]]) (ag [vb b3, vf (us l3)]) []) /\
    (Sp.okB (↑a.den : Int) /\ Sp.okB (↑(b * b * c).den : Int)) /\
    ∃ (b4 : Bool) (l4 : List (Int)) (b5 : Bool) (l5 : List (Int)) (n1 : Int),
    (Ev M1 (Conf.pure 64 [ag [vb b3, vf (us l3)], bigA false ((↑a.den : Int) * (↑(b * b * c).den : Int))]) (tu [ag [vb b4, vf (us l4)], ag [vb b5, vf (us l5)], vi n1]) []) /\
    Weak (ag [vb b4, vf (us l4)]) dq) /\
   (¬(Sp.sgnI b.num < 0) -> (Sp.okB (a.num * (↑(b * b * c).den : Int)) /\ Sp.okB (Sp.sq ((b * b * c).num * (↑(b * b * c).den : Int) * ((↑a.den : Int) * (↑a.den : Int))))) /\
    (Sp.okB (↑a.den : Int) /\ Sp.okB (↑(b * b * c).den : Int)) /\
    (Sp.cnt (a.num * (↑(b * b * c).den : Int) + Sp.sq ((b * b * c).num * (↑(b * b * c).den : Int) * ((↑a.den : Int) * (↑a.den : Int)))).natAbs <= 399000 /\ Sp.cnt ((↑a.den : Int) * (↑(b * b * c).den : Int)).natAbs <= 399000 /\ (↑a.den : Int) * (↑(b * b * c).den : Int) ≠ 0) /\
    Weak (bigA false (Sp.flo (a.num * (↑(b * b * c).den : Int) + Sp.sq ((b * b * c).num * (↑(b * b * c).den : Int) * ((↑a.den : Int) * (↑a.den : Int)))) ((↑a.den : Int) * (↑(b * b * c).den : Int)))) dq))) :
 pFloor_at f1 f2 f3 f4 f5 f6 a b c (PureQ dq) := by
 unfold pFloor_at
 refine path_wp (G := given kp13 [(1, 2, .call (vi (Sp.sgnI b.num)) none)] []) 5 [] ⟨(atC (cd Tryz.f13) [1, 0, 1]), [(1, AV.ptr 0 0 0 0), (2, AV.ptr 1 0 0 0), (15, vb (Sp.sgnI b.num == 0))], [⟨[rootA f1 f2 f3 f4 f5 f6 a b c], 12, 0, false, false⟩, ⟨[ag [vb false, AV.vnil]], 2, 0, false, false⟩], _, [], _⟩ (by kernel_rfl) (bc rfl b0) q0 (ce (@ev27 (f3) (f4) (b.num) ((↑b.den : Int))) c0) ?_
 rcases xm (Sp.sgnI b.num = 0) with d2 | d2
 ·have H := H.1 d2
  obtain ⟨k3, H⟩ := H
  exact path_rq (G := given kp13 [(2, 2, .call (bigA false (Sp.flo a.num (↑a.den : Int))) none)] []) 1000 [true] (bigA false (Sp.flo a.num (↑a.den : Int))) (by kernel_rfl) (bc (beq_t (i_eq.2 d2)) (bc rfl (bc rfl b0))) q0 (ce (@ev58 (f1) (f2) (a) k3) c0) H
 ·have H := H.2 d2
  obtain ⟨k4, H⟩ := H
  obtain ⟨k5, H⟩ := H
  obtain ⟨k6, H⟩ := H
  obtain ⟨k7, H⟩ := H
  obtain ⟨k8, H⟩ := H
  obtain ⟨k9, H⟩ := H
  obtain ⟨k10, H⟩ := H
  refine path_wp (G := given kp13 [(3, 2, .call (ratA false false (b * b)) none), (3, 5, .call (ratA false false (b * b * c)) none), (4, 5, .call (bigA false (a.num * (↑(b * b * c).den : Int))) none), (5, 6, .call (bigA false ((↑a.den : Int) * (↑a.den : Int))) none), (6, 4, .call (bigA false ((b * b * c).num * (↑(b * b * c).den : Int))) none), (6, 6, .call (bigA false ((b * b * c).num * (↑(b * b * c).den : Int) * ((↑a.den : Int) * (↑a.den : Int)))) none), (7, 1, .call (tu [bigA false (zNyA9 b c a), vi (Sp.sqe ((b * b * c).num * (↑(b * b * c).den : Int) * ((↑a.den : Int) * (↑a.den : Int))))]) none), (8, 2, .call (vi (Sp.sgnI b.num)) none)] []) 15 [false] ⟨(atC (cd Tryz.f13) [1, 1, 1, 1, 1, 1, 1, 0, 1]), [(1, AV.ptr 0 0 0 0), (2, AV.ptr 1 0 0 0), (3, AV.ptr 2 0 0 0), (4, AV.ptr 3 0 0 0), (7, AV.ptr 6 0 0 0), (53, vb (decide (Sp.sgnI b.num < 0)))], [⟨[rootA f1 f2 f3 f4 f5 f6 a b c], 12, 0, false, false⟩, ⟨[ag [vb false, AV.vnil]], 2, 0, false, false⟩, ⟨[ratA false false (b * b * c)], 4, 0, false, false⟩, ⟨[bigA false (a.num * (↑(b * b * c).den : Int))], 2, 0, false, false⟩, ⟨[bigA false ((↑a.den : Int) * (↑a.den : Int))], 2, 0, false, false⟩, ⟨[bigA false ((b * b * c).num * (↑(b * b * c).den : Int) * ((↑a.den : Int) * (↑a.den : Int)))], 2, 0, false, false⟩, ⟨[bigA false (zNyA9 b c a)], 2, 0, false, false⟩], _, [], _⟩ (by kernel_rfl) (bc (beq_f (fun h => d2 (i_eq.1 h))) (bc rfl (bc rfl (bc rfl (bc rfl (bc rfl (bc rfl (bc rfl (bc rfl (bc rfl (bc rfl (bc rfl (bc rfl (bc rfl (bc rfl (bc rfl (bc rfl b0))))))))))))))))) q0 (ce (@ev59 (f3) (f4) (b) k4) (ce (@ev32 (false) (false) (f5) (f6) (b * b) (c) k5) (ce (@ev60 (f1) (false) (a.num) ((↑(b * b * c).den : Int)) k6) (ce (@ev60 (f2) (f2) ((↑a.den : Int)) ((↑a.den : Int)) k7) (ce (@ev60 (false) (false) ((b * b * c).num) ((↑(b * b * c).den : Int)) k8) (ce (@ev60 (false) (false) ((b * b * c).num * (↑(b * b * c).den : Int)) ((↑a.den : Int) * (↑a.den : Int)) k9) (ce (@ev61 (false) ((b * b * c).num * (↑(b * b * c).den : Int) * ((↑a.den : Int) * (↑a.den : Int))) k10) (ce (@ev27 (f3) (f4) (b.num) ((↑b.den : Int))) c0)))))))) ?_
  rcases xm (Sp.sgnI b.num < 0) with d12 | d12
  ·have H := H.1 d12
   obtain ⟨k13, H⟩ := H
   obtain ⟨b1, l1, H⟩ := H
   obtain ⟨k14, H⟩ := H
   obtain ⟨b2, l2, H⟩ := H
   obtain ⟨k15, H⟩ := H
   obtain ⟨b3, l3, H⟩ := H
   obtain ⟨k16, H⟩ := H
   obtain ⟨k17, H⟩ := H
   obtain ⟨b4, l4, b5, l5, n1, H⟩ := H
   obtain ⟨k18, H⟩ := H
   refine path_wp (G := given kp13 [(9, 1, .call (ag [vb false, vf (us (Sp.limI 1))]) none), (9, 2, .call (ag [vb b1, vf (us l1)]) none), (9, 3, .call ((zNyA11 b2 l2)) none), (10, 2, .call ((zNyA12 b3 l3)) none), (10, 8, .call (bigA false ((↑a.den : Int) * (↑(b * b * c).den : Int))) none), (10, 9, .call ((zNyA10 b4 l4 b5 l5 n1)) none)] []) 3 [true] ⟨(atC (cd Tryz.f13) [1, 1, 1, 1, 1, 1, 1, 1, 0]), [(1, AV.ptr 0 0 0 0), (2, AV.ptr 1 0 0 0), (3, AV.ptr 2 0 0 0), (4, AV.ptr 3 0 0 0), (7, AV.ptr 6 0 0 0)], [⟨[rootA f1 f2 f3 f4 f5 f6 a b c], 12, 0, false, false⟩, ⟨[ag [vb false, AV.vnil]], 2, 0, false, false⟩, ⟨[ratA false false (b * b * c)], 4, 0, false, false⟩, ⟨[bigA false (a.num * (↑(b * b * c).den : Int))], 2, 0, false, false⟩, ⟨[bigA false ((↑a.den : Int) * (↑a.den : Int))], 2, 0, false, false⟩, ⟨[bigA false ((b * b * c).num * (↑(b * b * c).den : Int) * ((↑a.den : Int) * (↑a.den : Int)))], 2, 0, false, false⟩, ⟨[(zNyA11 b2 l2)], 2, 0, false, false⟩], _, [], _⟩ (by kernel_rfl) (bc (beq_t (i_dec.2 d12)) (bc rfl (bc rfl b0))) q0 (ce (@ev15 (1) k13) (ce k14 (ce k15 c0))) (wp_both (G := given kp13 [(9, 1, .call (ag [vb false, vf (us (Sp.limI 1))]) none), (9, 2, .call (ag [vb b1, vf (us l1)]) none), (9, 3, .call ((zNyA11 b2 l2)) none), (10, 2, .call ((zNyA12 b3 l3)) none), (10, 8, .call (bigA false ((↑a.den : Int) * (↑(b * b * c).den : Int))) none), (10, 9, .call ((zNyA10 b4 l4 b5 l5 n1)) none)] []) [0, 1, 2, 3, 4, 5, 6, 8, 7] 14 (e1 := [(2, AV.ptr 1 0 0 0), (9, AV.ptr 7 0 0 0)]) (L1 := [⟨[rootA f1 f2 f3 f4 f5 f6 a b c], 12, 0, false, false⟩, ⟨[ag [vb false, AV.vnil]], 2, 0, false, false⟩, ⟨[ratA false false (b * b * c)], 4, 0, false, false⟩, ⟨[bigA false (a.num * (↑(b * b * c).den : Int))], 2, 0, false, false⟩, ⟨[bigA false ((↑a.den : Int) * (↑a.den : Int))], 2, 0, false, false⟩, ⟨[bigA false ((b * b * c).num * (↑(b * b * c).den : Int) * ((↑a.den : Int) * (↑a.den : Int)))], 2, 0, false, false⟩, ⟨[(zNyA11 b2 l2)], 2, 0, false, false⟩, ⟨[ag [vb b4, vf (us l4)]], 2, 0, false, false⟩, ⟨[ag [vb b5, vf (us l5)]], 2, 0, false, false⟩]) (a := [true, true, true, true, true, true]) (q := []) (cs := [⟨true, false, 63, [bigA false (a.num * (↑(b * b * c).den : Int)), (zNyA11 b2 l2)], [], (zNyA12 b3 l3), []⟩, ⟨true, false, 60, [bigA f2 (↑a.den : Int), bigA false (↑(b * b * c).den : Int)], [], bigA false ((↑a.den : Int) * (↑(b * b * c).den : Int)), []⟩, ⟨true, false, 64, [(zNyA12 b3 l3), bigA false ((↑a.den : Int) * (↑(b * b * c).den : Int))], [], (zNyA10 b4 l4 b5 l5 n1), []⟩]) (by kernel_rfl) (by kernel_rfl) (allB_cons rfl (allB_cons rfl (allB_cons rfl (allB_cons rfl (allB_cons rfl (allB_cons rfl allB_nil)))))) allP_nil (allC_cons (fun _ => k16) (allC_cons (fun _ => (@ev60 (f2) (false) ((↑a.den : Int)) ((↑(b * b * c).den : Int)) k17)) (allC_cons (fun _ => k18) allC_nil))) ?_)
   exact path_rq (G := given kp13 [] []) 1000 [] (ag [vb b4, vf (us l4)]) (by kernel_rfl) (bc rfl (bc rfl b0)) q0 c0 H
  ·have H := H.2 d12
   obtain ⟨k19, H⟩ := H
   obtain ⟨k20, H⟩ := H
   obtain ⟨k21, H⟩ := H
   refine path_wp (G := given kp13 [(10, 2, .call (bigA false (a.num * (↑(b * b * c).den : Int) + Sp.sq ((b * b * c).num * (↑(b * b * c).den : Int) * ((↑a.den : Int) * (↑a.den : Int))))) none), (10, 8, .call (bigA false ((↑a.den : Int) * (↑(b * b * c).den : Int))) none), (10, 9, .call (tu [bigA false (zNyA7 a b c), bigA false (zNyA8 a b c), vi 0]) none)] []) 3 [false] ⟨(atC (cd Tryz.f13) [1, 1, 1, 1, 1, 1, 1, 1, 0]), [(1, AV.ptr 0 0 0 0), (2, AV.ptr 1 0 0 0), (3, AV.ptr 2 0 0 0), (4, AV.ptr 3 0 0 0), (7, AV.ptr 6 0 0 0), (53, vb (decide (Sp.sgnI b.num < 0)))], [⟨[rootA f1 f2 f3 f4 f5 f6 a b c], 12, 0, false, false⟩, ⟨[ag [vb false, AV.vnil]], 2, 0, false, false⟩, ⟨[ratA false false (b * b * c)], 4, 0, false, false⟩, ⟨[bigA false (a.num * (↑(b * b * c).den : Int))], 2, 0, false, false⟩, ⟨[bigA false ((↑a.den : Int) * (↑a.den : Int))], 2, 0, false, false⟩, ⟨[bigA false ((b * b * c).num * (↑(b * b * c).den : Int) * ((↑a.den : Int) * (↑a.den : Int)))], 2, 0, false, false⟩, ⟨[bigA false (zNyA9 b c a)], 2, 0, false, false⟩], _, [], _⟩ (by kernel_rfl) (bc (beq_f (fun h => d12 (i_dec.1 h))) b0) q0 c0 (wp_both (G := given kp13 [(10, 2, .call (bigA false (a.num * (↑(b * b * c).den : Int) + Sp.sq ((b * b * c).num * (↑(b * b * c).den : Int) * ((↑a.den : Int) * (↑a.den : Int))))) none), (10, 8, .call (bigA false ((↑a.den : Int) * (↑(b * b * c).den : Int))) none), (10, 9, .call (tu [bigA false (zNyA7 a b c), bigA false (zNyA8 a b c), vi 0]) none)] []) [0, 1, 2, 3, 4, 5, 6, 8, 7] 14 (e1 := [(2, AV.ptr 1 0 0 0), (9, AV.ptr 7 0 0 0)]) (L1 := [⟨[rootA f1 f2 f3 f4 f5 f6 a b c], 12, 0, false, false⟩, ⟨[ag [vb false, AV.vnil]], 2, 0, false, false⟩, ⟨[ratA false false (b * b * c)], 4, 0, false, false⟩, ⟨[bigA false (a.num * (↑(b * b * c).den : Int))], 2, 0, false, false⟩, ⟨[bigA false ((↑a.den : Int) * (↑a.den : Int))], 2, 0, false, false⟩, ⟨[bigA false ((b * b * c).num * (↑(b * b * c).den : Int) * ((↑a.den : Int) * (↑a.den : Int)))], 2, 0, false, false⟩, ⟨[bigA false (zNyA9 b c a)], 2, 0, false, false⟩, ⟨[bigA false (zNyA7 a b c)], 2, 0, false, false⟩, ⟨[bigA false (zNyA8 a b c)], 2, 0, false, false⟩]) (a := [true, true, true, true, true, true]) (q := []) (cs := [⟨true, false, 63, [bigA false (a.num * (↑(b * b * c).den : Int)), bigA false (zNyA9 b c a)], [], bigA false (a.num * (↑(b * b * c).den : Int) + Sp.sq ((b * b * c).num * (↑(b * b * c).den : Int) * ((↑a.den : Int) * (↑a.den : Int)))), []⟩, ⟨true, false, 60, [bigA f2 (↑a.den : Int), bigA false (↑(b * b * c).den : Int)], [], bigA false ((↑a.den : Int) * (↑(b * b * c).den : Int)), []⟩, ⟨true, false, 64, [bigA false (a.num * (↑(b * b * c).den : Int) + Sp.sq ((b * b * c).num * (↑(b * b * c).den : Int) * ((↑a.den : Int) * (↑a.den : Int)))), bigA false ((↑a.den : Int) * (↑(b * b * c).den : Int))], [], tu [bigA false (zNyA7 a b c), bigA false (zNyA8 a b c), vi 0], []⟩]) (by kernel_rfl) (by kernel_rfl) (allB_cons rfl (allB_cons rfl (allB_cons rfl (allB_cons rfl (allB_cons rfl (allB_cons rfl allB_nil)))))) allP_nil (allC_cons (fun _ => (@ev63 (false) (false) (a.num * (↑(b * b * c).den : Int)) (zNyA9 b c a) k19)) (allC_cons (fun _ => (@ev60 (f2) (false) ((↑a.den : Int)) ((↑(b * b * c).den : Int)) k20)) (allC_cons (fun _ => (@ev64 (false) (false) (a.num * (↑(b * b * c).den : Int) + Sp.sq ((b * b * c).num * (↑(b * b * c).den : Int) * ((↑a.den : Int) * (↑a.den : Int)))) ((↑a.den : Int) * (↑(b * b * c).den : Int)) k21)) allC_nil))) ?_)
   exact path_rq (G := given kp13 [] []) 1000 [] (bigA false (zNyA7 a b c)) (by kernel_rfl) (bc rfl (bc rfl b0)) q0 c0 H
end Go.Av

namespace Go.Av
open Go.Proofs
end Go.Av

namespace Go.Av
open Go.Proofs
noncomputable def Sp.sgP (a b c : Rat) : Int := if Sp.sgR a = Sp.sgR b \/ Sp.sgR b = 0 then Sp.sgR a else if Sp.sgR a = 0 then Sp.sgR b else if Sp.sgR (a * a - b * b * c) > 0 then Sp.sgR a else Sp.sgR b
theorem ev21 (f1 f2 f3 f4 f5 f6 : Bool) (a b c : Rat) (h : Sp.okO a b c) : Ev M1 (.pure 21 [rootA f1 f2 f3 f4 f5 f6 a b c]) (.int .i64 (Sp.sgP a b c)) [] := by
 refine call21 (pSign _ _ _ _ _ _ _ _ _ _ ⟨fun k => ?_, fun k => ⟨fun k2 => ?_, fun k2 => ⟨h, fun k3 => ?_, fun k3 => ?_⟩⟩⟩)
 ·unfold Sp.sgP Sp.sgR; rw [if_pos k]
 ·unfold Sp.sgP Sp.sgR; rw [if_neg k, if_pos k2]
 ·unfold Sp.sgP Sp.sgR; rw [if_neg k, if_neg k2, if_pos k3]
 ·unfold Sp.sgP Sp.sgR; rw [if_neg k, if_neg k2, if_neg k3]
theorem flW_comm (a b c : Rat) : Sp.sq ((b * b * c).num * ((b * b * c).den : Int) * ((a.den : Int) * (a.den : Int))) = Sp.flW a b c := by
 unfold Sp.flW; rw [Int.mul_comm]
theorem ev13 (f1 f2 f3 f4 f5 f6 : Bool) (a b c : Rat) (h : Sp.okO a b c) : Ev M1 (.pure 13 [rootA f1 f2 f3 f4 f5 f6 a b c]) (bigA false (Sp.fl a b c)) [] := by
 obtain ⟨ha, hb, hc⟩ := h
 have hra := okT_R ha (by omega)
 have bb := okT_mul hb hb
 have bbc := okT_mul bb hc
 obtain ⟨a1, a2⟩ := ha
 obtain ⟨s1, s2⟩ := bbc
 have a2' := cnt_den a2
 have s2' := cnt_den s2
 have m1 := cnt_mulI a2' a2'
 have m2 := cnt_mulI s1 s2'
 have m3 := cnt_mulI m2 m1
 have w := cnt_sqI m3
 have m4 := cnt_mulI a1 s2'
 have m5 := cnt_mulI a2' s2'
 have hden : (a.den : Int) * ((b * b * c).den : Int) ≠ 0 := Int.mul_ne_zero (den_ne a) (den_ne _)
 refine call13 (pFloor _ _ _ _ _ _ _ _ _ _ ⟨fun k => ⟨hra, ?_⟩, fun k => ?_⟩)
 ·unfold Sp.fl; rw [if_pos (sgn_num.1 k)]; exact .refl _
 ·refine ⟨okT_R hb (by omega), ⟨okT_R bb (by omega), okT_R hc (by omega)⟩, ⟨by unfold Sp.okB; omega, by unfold Sp.okB; omega⟩, ⟨by unfold Sp.okB; omega, by unfold Sp.okB; omega⟩, ⟨by unfold Sp.okB; omega, by unfold Sp.okB; omega⟩, ⟨by unfold Sp.okB; omega, by unfold Sp.okB; omega⟩, by unfold Sp.okS; omega, fun k2 => ?_, fun k2 => ?_⟩
  ·rw [sgnI_lt] at k2
   have e : Sp.fl a b c = Sp.flo (a.num * ((b * b * c).den : Int) + -(Sp.flW a b c + 1)) ((a.den : Int) * ((b * b * c).den : Int)) := by
    unfold Sp.fl; rw [if_neg fun e => k (sgn_num.2 e), if_pos k2]
   have w1 := cnt_addI w (Nat.le_trans cnt_one (by omega))
   rw [flW_comm] at w w1 ⊢
   have w2 : Sp.cnt (-(Sp.flW a b c + 1)).natAbs <= 9000 + 9000 + 9000 + (9000 + 9000 + 9000) + (9000 + 9000) + 1 := by rw [Int.natAbs_neg]; exact w1
   have w3 := cnt_addI (Nat.le_trans m4 (by omega)) w2
   rw [e]
   refine ⟨by unfold Sp.inI; omega, _, _, ev63 _ _ _ 1 ⟨by unfold Sp.okB; omega, by unfold Sp.okB; have := cnt_one; omega⟩, _, _, ev62 _ _ ?_, _, _, ev63 _ _ _ _ ⟨by unfold Sp.okB; omega, ?_⟩, ⟨by unfold Sp.okB; omega, by unfold Sp.okB; omega⟩, _, _, _, _, _, ev64 _ _ _ _ ⟨?_, by omega, hden⟩, .refl _⟩
   ·unfold Sp.ok; omega
   ·unfold Sp.okB; omega
   ·omega
  ·rw [sgnI_lt] at k2
   have e : Sp.fl a b c = Sp.flo (a.num * ((b * b * c).den : Int) + Sp.flW a b c) ((a.den : Int) * ((b * b * c).den : Int)) := by
    unfold Sp.fl; rw [if_neg fun e => k (sgn_num.2 e), if_neg k2]
   rw [flW_comm] at w ⊢
   have w3 := cnt_addI (Nat.le_trans m4 (by omega)) w
   rw [e]
   exact ⟨⟨by unfold Sp.okB; omega, by unfold Sp.okB; omega⟩, ⟨by unfold Sp.okB; omega, by unfold Sp.okB; omega⟩, ⟨by omega, by omega, hden⟩, .refl _⟩
def Sp.smO (n : Int) (s1 : Bool) (x1 : List Int) (t1 : Bool) (y1 : List Int) (s2 : Bool) (x2 : List Int) (t2 : Bool) (y2 : List Int) (s3 : Bool) (x3 : List Int) (t3 : Bool) (y3 : List Int) : Prop :=
 Sp.smallB n s1 x1 t1 y1 = true /\ Sp.smallB n s2 x2 t2 y2 = true /\ Sp.smallB n s3 x3 t3 y3 = true /\ ∀ b c : Rat, Sp.isNeg b.num = s2 -> Sp.limI b.num = x2 -> Sp.isNeg (b.den : Int) = t2 -> Sp.limI (b.den : Int) = y2 -> Sp.isNeg c.num = s3 -> Sp.limI c.num = x3 -> Sp.isNeg (c.den : Int) = t3 -> Sp.limI (c.den : Int) = y3 -> Sp.vroot b c = true
open Classical in
noncomputable def Sp.smOB (n : Int) (s1 : Bool) (x1 : List Int) (t1 : Bool) (y1 : List Int) (s2 : Bool) (x2 : List Int) (t2 : Bool) (y2 : List Int) (s3 : Bool) (x3 : List Int) (t3 : Bool) (y3 : List Int) : Bool := decide (Sp.smO n s1 x1 t1 y1 s2 x2 t2 y2 s3 x3 t3 y3)
theorem rat_inj {r s : Rat} (h1 : Sp.isNeg r.num = Sp.isNeg s.num) (h2 : Sp.limI r.num = Sp.limI s.num) (h3 : Sp.isNeg (r.den : Int) = Sp.isNeg (s.den : Int)) (h4 : Sp.limI (r.den : Int) = Sp.limI (s.den : Int)) : r = s := by
 have e1 := big_inj h2 h1
 have e2 := big_inj h4 h3
 exact Rat.ext e1 (by omega)
theorem small_ratN {n : Int} {s t : Bool} {x y : List Int} (h : Sp.smallB n s x t y = true) : ∃ r : Rat, Sp.okT n.toNat r /\ s = Sp.isNeg r.num /\ x = Sp.limI r.num /\ t = Sp.isNeg (r.den : Int) /\ y = Sp.limI (r.den : Int) := by
 obtain ⟨h1, h2, r, rfl, rfl, rfl, rfl⟩ := smallB_iff.1 h
 rw [limI_len] at h1 h2
 rw [Int.natAbs_natCast] at h2
 exact ⟨r, ⟨by omega, by omega⟩, rfl, rfl, rfl, rfl⟩
def Sp.okN (n : Int) : Prop := 0 <= n /\ n <= 9000
def Sp.okU3 (n : Int) (x1 y1 x2 y2 x3 y3 : List Int) : Prop := Sp.okN n /\ ((∀ v ∈ x1, 0 <= v) /\ ∀ v ∈ y1, 0 <= v) /\ ((∀ v ∈ x2, 0 <= v) /\ ∀ v ∈ y2, 0 <= v) /\ ((∀ v ∈ x3, 0 <= v) /\ ∀ v ∈ y3, 0 <= v)
theorem ev47 (s1 s2 s3 t1 t2 t3 f1 f2 f3 g1 g2 g3 : Bool) (x1 x2 x3 y1 y2 y3 : List Int) (n : Int) (h : Sp.okU3 n x1 y1 x2 y2 x3 y3) : Ev M1 (.pure 47 [.agg [.bool s1, .vec f1 1 (x1.map (.int .u32)), .bool t1, .vec g1 1 (y1.map (.int .u32)), .bool s2, .vec f2 1 (x2.map (.int .u32)), .bool t2, .vec g2 1 (y2.map (.int .u32)), .bool s3, .vec f3 1 (x3.map (.int .u32)), .bool t3, .vec g3 1 (y3.map (.int .u32))], .int .i64 n]) (.bool (Sp.smOB n s1 x1 t1 y1 s2 x2 t2 y2 s3 x3 t3 y3)) [] := by
 obtain ⟨⟨hn0, hn⟩, p1, p2, p3⟩ := h
 have u1 : Sp.okU n x1 y1 := ⟨by omega, p1⟩
 have u2 : Sp.okU n x2 y2 := ⟨by omega, p2⟩
 have u3 : Sp.okU n x3 y3 := ⟨by omega, p3⟩
 by_cases k : Sp.smallB n s1 x1 t1 y1 = true /\ Sp.smallB n s2 x2 t2 y2 = true /\ Sp.smallB n s3 x3 t3 y3 = true
 ·obtain ⟨k1, k2, k3⟩ := k
  obtain ⟨a, ha, rfl, rfl, rfl, rfl⟩ := small_ratN k1
  obtain ⟨b, hb, rfl, rfl, rfl, rfl⟩ := small_ratN k2
  obtain ⟨c, hc, rfl, rfl, rfl, rfl⟩ := small_ratN k3
  refine call47 (pSmall _ _ _ _ _ _ _ _ _ _ _ ⟨u1, fun _ => u2, fun _ => u3, fun _ => okT_O ha hb hc (by omega), ?_⟩)
  rw [k1, k2, k3]
  simp only [cond_true]
  congr 1
  have : Sp.smOB n (Sp.isNeg a.num) (Sp.limI a.num) (Sp.isNeg (a.den : Int)) (Sp.limI (a.den : Int)) (Sp.isNeg b.num) (Sp.limI b.num) (Sp.isNeg (b.den : Int)) (Sp.limI (b.den : Int)) (Sp.isNeg c.num) (Sp.limI c.num) (Sp.isNeg (c.den : Int)) (Sp.limI (c.den : Int)) = true ↔ Sp.vroot b c = true := by
   unfold Sp.smOB
   simp only [decide_eq_true_eq]
   constructor
   ·intro h; exact h.2.2.2 b c rfl rfl rfl rfl rfl rfl rfl rfl
   ·intro h
    refine ⟨k1, k2, k3, fun b' c' e1 e2 e3 e4 e5 e6 e7 e8 => ?_⟩
    rw [rat_inj e1 e2 e3 e4, rat_inj e5 e6 e7 e8]; exact h
  exact Bool.eq_iff_iff.2 this.symm
 ·have hf : Sp.smOB n s1 x1 t1 y1 s2 x2 t2 y2 s3 x3 t3 y3 = false := by
   unfold Sp.smOB
   simp only [decide_eq_false_iff_not]
   exact fun h => k ⟨h.1, h.2.1, h.2.2.1⟩
  rw [hf]
  refine call47 (pSmallR _ _ _ _ _ _ _ _ _ _ _ _ _ _ _ _ _ _ _ _ ⟨u1, fun _ => u2, fun _ => u3, false, fun h => absurd ⟨h.1.1, h.1.2, h.2⟩ k, ?_⟩)
  cases Sp.smallB n s1 x1 t1 y1 <;> cases Sp.smallB n s2 x2 t2 y2 <;> cases Sp.smallB n s3 x3 t3 y3 <;> rfl
theorem smOB_rat {n : Int} {s1 s2 s3 t1 t2 t3 : Bool} {x1 x2 x3 y1 y2 y3 : List Int} (h : Sp.smOB n s1 x1 t1 y1 s2 x2 t2 y2 s3 x3 t3 y3 = true) : ∃ a b c : Rat, (Sp.okT n.toNat a /\ Sp.okT n.toNat b /\ Sp.okT n.toNat c) /\ Sp.vroot b c = true /\ (s1 = Sp.isNeg a.num /\ x1 = Sp.limI a.num /\ t1 = Sp.isNeg (a.den : Int) /\ y1 = Sp.limI (a.den : Int)) /\ (s2 = Sp.isNeg b.num /\ x2 = Sp.limI b.num /\ t2 = Sp.isNeg (b.den : Int) /\ y2 = Sp.limI (b.den : Int)) /\ s3 = Sp.isNeg c.num /\ x3 = Sp.limI c.num /\ t3 = Sp.isNeg (c.den : Int) /\ y3 = Sp.limI (c.den : Int) := by
 unfold Sp.smOB at h
 simp only [decide_eq_true_eq] at h
 obtain ⟨k1, k2, k3, k⟩ := h
 obtain ⟨a, ha, rfl, rfl, rfl, rfl⟩ := small_ratN k1
 obtain ⟨b, hb, rfl, rfl, rfl, rfl⟩ := small_ratN k2
 obtain ⟨c, hc, rfl, rfl, rfl, rfl⟩ := small_ratN k3
 exact ⟨a, b, c, ⟨ha, hb, hc⟩, k b c rfl rfl rfl rfl rfl rfl rfl rfl, ⟨rfl, rfl, rfl, rfl⟩, ⟨rfl, rfl, rfl, rfl⟩, rfl, rfl, rfl, rfl⟩
end Go.Av

namespace Go.Av
open Go.Proofs
set_option maxRecDepth 100000
def fi10 : Fi := ⟨15, [.tmp 2]⟩
def kp10 : List (Nat × List Nat) := [(0, [0]), (1, [5, 6, 7]), (2, [5, 6, 7, 8]), (3, [4, 5, 6, 7]), (4, [5, 6, 7, 13]), (5, [2]), (6, [5, 6, 7]), (7, [2])]
def lSm1_at (h : Bool) (s1 t1 f1 g1 s2 t2 f2 g2 s3 t3 f3 g3 : Bool) (x1 y1 x2 y2 x3 y3 : List Int) (Q : AV -> Heap -> Prop) : Prop := Wp M1 (.run fi10 (atC (cd Tryz.f10) []) [(0, .vec h 12 [.agg [.bool s1, .vec f1 1 (x1.map (.int .u32)), .bool t1, .vec g1 1 (y1.map (.int .u32)), .bool s2, .vec f2 1 (x2.map (.int .u32)), .bool t2, .vec g2 1 (y2.map (.int .u32)), .bool s3, .vec f3 1 (x3.map (.int .u32)), .bool t3, .vec g3 1 (y3.map (.int .u32))]])] []) Q
def lSm1a_at (h : Bool) (s1 t1 f1 g1 s2 t2 f2 g2 s3 t3 f3 g3 : Bool) (x1 y1 x2 y2 x3 y3 : List Int) (Q : AV -> Heap -> Prop) : Prop := Wp M1 (.run fi10 (atC (cd Tryz.f10) [1, 0, 1, 0, 0]) [(5, .vec h 12 [.agg [.bool s1, .vec f1 1 (x1.map (.int .u32)), .bool t1, .vec g1 1 (y1.map (.int .u32)), .bool s2, .vec f2 1 (x2.map (.int .u32)), .bool t2, .vec g2 1 (y2.map (.int .u32)), .bool s3, .vec f3 1 (x3.map (.int .u32)), .bool t3, .vec g3 1 (y3.map (.int .u32))]]), (6, .int .i64 1), (7, .int .i64 0)] []) Q
def lSm1b_at (h : Bool) (s1 t1 f1 g1 s2 t2 f2 g2 s3 t3 f3 g3 : Bool) (x1 y1 x2 y2 x3 y3 : List Int) (Q : AV -> Heap -> Prop) : Prop := Wp M1 (.run fi10 (atC (cd Tryz.f10) [1, 0, 1, 0, 0]) [(5, .vec h 12 [.agg [.bool s1, .vec f1 1 (x1.map (.int .u32)), .bool t1, .vec g1 1 (y1.map (.int .u32)), .bool s2, .vec f2 1 (x2.map (.int .u32)), .bool t2, .vec g2 1 (y2.map (.int .u32)), .bool s3, .vec f3 1 (x3.map (.int .u32)), .bool t3, .vec g3 1 (y3.map (.int .u32))]]), (6, .int .i64 1), (7, .int .i64 1)] []) Q
theorem call10 {args : List AV} {d : AV} (h : wc M1 fi10 Tryz.f10 args d) : Ev M1 (.pure 10 args) d [] := pcl _ _ (by kernel_rfl) h
theorem lSm1 (h : Bool) (s1 t1 f1 g1 s2 t2 f2 g2 s3 t3 f3 g3 : Bool) (x1 y1 x2 y2 x3 y3 : List Int)  (dq : AV) (H :
  lSm1a_at (h) (s1) (t1) (f1) (g1) (s2) (t2) (f2) (g2) (s3) (t3) (f3) (g3) (x1) (y1) (x2) (y2) (x3) (y3) (PureQ dq)) :
 lSm1_at h s1 t1 f1 g1 s2 t2 f2 g2 s3 t3 f3 g3 x1 y1 x2 y2 x3 y3 (PureQ dq) := by
 unfold lSm1_at
 exact path_wp (G := given kp10 [] []) 1000 [] ⟨(atC (cd Tryz.f10) [1, 0, 1, 0, 0]), [(5, AV.vec h 12 [ag [vb s1, AV.vec f1 1 (us x1), vb t1, AV.vec g1 1 (us y1), vb s2, AV.vec f2 1 (us x2), vb t2, AV.vec g2 1 (us y2), vb s3, AV.vec f3 1 (us x3), vb t3, AV.vec g3 1 (us y3)]]), (6, vi 1), (7, vi 0)], [], _, [], _⟩ (by kernel_rfl) b0 q0 c0 (H)
noncomputable abbrev zNyB1 (s1 : Bool) (f1 : Bool) (x1 : List Int) (t1 : Bool) (g1 : Bool) (y1 : List Int) (s2 : Bool) (f2 : Bool) (x2 : List Int) (t2 : Bool) (g2 : Bool) (y2 : List Int) (s3 : Bool) (f3 : Bool) (x3 : List Int) (t3 : Bool) (g3 : Bool) (y3 : List Int) := ag [vb s1, AV.vec f1 1 (us x1), vb t1, AV.vec g1 1 (us y1), vb s2, AV.vec f2 1 (us x2), vb t2, AV.vec g2 1 (us y2), vb s3, AV.vec f3 1 (us x3), vb t3, AV.vec g3 1 (us y3)]
theorem lSm1a (h : Bool) (s1 t1 f1 g1 s2 t2 f2 g2 s3 t3 f3 g3 : Bool) (x1 y1 x2 y2 x3 y3 : List Int)  (dq : AV) (H :
  (Sp.okU3 4 x1 y1 x2 y2 x3 y3) /\
  ((¬(Sp.smOB 4 s1 x1 t1 y1 s2 x2 t2 y2 s3 x3 t3 y3 = true)) -> vb false = dq) /\
  (¬(¬(Sp.smOB 4 s1 x1 t1 y1 s2 x2 t2 y2 s3 x3 t3 y3 = true)) -> lSm1b_at (h) (s1) (t1) (f1) (g1) (s2) (t2) (f2) (g2) (s3) (t3) (f3) (g3) (x1) (y1) (x2) (y2) (x3) (y3) (PureQ dq))) :
 lSm1a_at h s1 t1 f1 g1 s2 t2 f2 g2 s3 t3 f3 g3 x1 y1 x2 y2 x3 y3 (PureQ dq) := by
 unfold lSm1a_at
 obtain ⟨k1, H⟩ := H
 refine path_wp (G := given kp10 [(4, 1, .call (vb (Sp.smOB 4 s1 x1 t1 y1 s2 x2 t2 y2 s3 x3 t3 y3)) none)] []) 11 [true] ⟨(atC (cd Tryz.f10) [1, 0, 1, 0, 0, 1, 1, 0, 0, 1, 1]), [(5, AV.vec h 12 [(zNyB1 s1 f1 x1 t1 g1 y1 s2 f2 x2 t2 g2 y2 s3 f3 x3 t3 g3 y3)]), (6, vi 1), (7, vi 0), (13, vb !Sp.smOB 4 s1 x1 t1 y1 s2 x2 t2 y2 s3 x3 t3 y3)], [⟨[(zNyB1 s1 f1 x1 t1 g1 y1 s2 f2 x2 t2 g2 y2 s3 f3 x3 t3 g3 y3)], 12, 0, false, false⟩], _, [], _⟩ (by kernel_rfl) (bc rfl (bc rfl (bc rfl (bc rfl (bc rfl b0))))) q0 (ce (@ev47 (s1) (s2) (s3) (t1) (t2) (t3) (f1) (f2) (f3) (g1) (g2) (g3) (x1) (x2) (x3) (y1) (y2) (y3) (4) k1) c0) ?_
 rcases xm (¬(Sp.smOB 4 s1 x1 t1 y1 s2 x2 t2 y2 s3 x3 t3 y3 = true)) with d3 | d3
 ·have H := H.1 d3
  exact path_re (G := given kp10 [] []) 1000 [true] (asm := [(!Sp.smOB 4 s1 x1 t1 y1 s2 x2 t2 y2 s3 x3 t3 y3) == true]) (vb false) (by kernel_rfl) (bc (beq_t ((i_not (i_var _)).2 d3)) b0) q0 c0 H
 ·have H := H.2 d3
  exact path_wp (G := given kp10 [] []) 1000 [false] ⟨(atC (cd Tryz.f10) [1, 0, 1, 0, 0]), [(5, AV.vec h 12 [(zNyB1 s1 f1 x1 t1 g1 y1 s2 f2 x2 t2 g2 y2 s3 f3 x3 t3 g3 y3)]), (6, vi 1), (7, vi 1)], [⟨[(zNyB1 s1 f1 x1 t1 g1 y1 s2 f2 x2 t2 g2 y2 s3 f3 x3 t3 g3 y3)], 12, 0, false, false⟩], [(!Sp.smOB 4 s1 x1 t1 y1 s2 x2 t2 y2 s3 x3 t3 y3) == false], [], _⟩ (by kernel_rfl) (bc (beq_f (fun h => d3 ((i_not (i_var _)).1 h))) b0) q0 c0 (wp_narrow [] (by kernel_rfl) H)
theorem lSm1b (h : Bool) (s1 t1 f1 g1 s2 t2 f2 g2 s3 t3 f3 g3 : Bool) (x1 y1 x2 y2 x3 y3 : List Int)  (dq : AV) (H :
  vb true = dq) :
 lSm1b_at h s1 t1 f1 g1 s2 t2 f2 g2 s3 t3 f3 g3 x1 y1 x2 y2 x3 y3 (PureQ dq) := by
 unfold lSm1b_at
 exact path_re (G := given kp10 [] []) 1000 [false] (vb true) (by kernel_rfl) (bc rfl b0) q0 c0 H
end Go.Av

namespace Go.Av
open Go.Proofs
theorem ev10_r (h : Bool) (s1 t1 f1 g1 s2 t2 f2 g2 s3 t3 f3 g3 : Bool) (x1 y1 x2 y2 x3 y3 : List Int) (k : Sp.okU3 4 x1 y1 x2 y2 x3 y3) : Ev M1 (.pure 10 [.vec h 12 [.agg [.bool s1, .vec f1 1 (x1.map (.int .u32)), .bool t1, .vec g1 1 (y1.map (.int .u32)), .bool s2, .vec f2 1 (x2.map (.int .u32)), .bool t2, .vec g2 1 (y2.map (.int .u32)), .bool s3, .vec f3 1 (x3.map (.int .u32)), .bool t3, .vec g3 1 (y3.map (.int .u32))]]]) (.bool (Sp.smOB 4 s1 x1 t1 y1 s2 x2 t2 y2 s3 x3 t3 y3)) [] := by
 refine call10 (lSm1 _ _ _ _ _ _ _ _ _ _ _ _ _ _ _ _ _ _ _ _ (lSm1a _ _ _ _ _ _ _ _ _ _ _ _ _ _ _ _ _ _ _ _ ⟨k, fun c => ?_, fun c => lSm1b _ _ _ _ _ _ _ _ _ _ _ _ _ _ _ _ _ _ _ _ ?_⟩))
 ·rw [Bool.eq_false_iff.2 c]
 ·rw [Classical.not_not.1 c]
theorem okU3_rat (a b c : Rat) : Sp.okU3 4 (Sp.limI a.num) (Sp.limI (a.den : Int)) (Sp.limI b.num) (Sp.limI (b.den : Int)) (Sp.limI c.num) (Sp.limI (c.den : Int)) :=
 ⟨by unfold Sp.okN; omega, ⟨fun v hv => (lim_ok _ v hv).1, fun v hv => (lim_ok _ v hv).1⟩, ⟨fun v hv => (lim_ok _ v hv).1, fun v hv => (lim_ok _ v hv).1⟩, fun v hv => (lim_ok _ v hv).1, fun v hv => (lim_ok _ v hv).1⟩
noncomputable def Sp.smR (a b c : Rat) : Bool := Sp.smOB 4 (Sp.isNeg a.num) (Sp.limI a.num) (Sp.isNeg (a.den : Int)) (Sp.limI (a.den : Int)) (Sp.isNeg b.num) (Sp.limI b.num) (Sp.isNeg (b.den : Int)) (Sp.limI (b.den : Int)) (Sp.isNeg c.num) (Sp.limI c.num) (Sp.isNeg (c.den : Int)) (Sp.limI (c.den : Int))
theorem ev10 (h : Bool) (f1 f2 f3 f4 f5 f6 : Bool) (a b c : Rat) : Ev M1 (.pure 10 [.vec h 12 [rootA f1 f2 f3 f4 f5 f6 a b c]]) (.bool (Sp.smR a b c)) [] :=
 ev10_r _ _ _ _ _ _ _ _ _ _ _ _ _ _ _ _ _ _ _ (okU3_rat a b c)
theorem divInt_one (a : Int) : Rat.divInt a 1 = Sp.qi a := by
 have := qf_one a
 rw [qf_eq] at this
 exact this
theorem ev14_a (fa : Bool) (a : Int) (h : Sp.cnt a.natAbs <= 399000) : Ev M1 (.pure 14 [bigA fa a, .agg [.bool false, .vec false 1 ((Sp.limI 1).map (.int .u32))]]) (.tup [ratA false false (Sp.qi a), .int .i64 0]) [] := by
 have := ev14 fa false a 1 ⟨h, Nat.le_trans cnt_one (by omega), by decide⟩
 rwa [divInt_one] at this
end Go.Av

namespace Go.Av
open Go.Proofs
set_option maxRecDepth 100000
def fi16 : Fi := ⟨10, [.tmp 4]⟩
def kp16 : List (Nat × List Nat) := [(0, [2, 3]), (1, [4])]
def pCmpRat_at (f1 f2 f3 f4 f5 f6 : Bool) (k l : Bool) (a b c r : Rat) (Q : AV -> Heap -> Prop) : Prop := Wp M1 (.run fi16 (atC (cd Tryz.f16) []) [(0, .agg [.bool (Sp.isNeg a.num), .vec f1 1 ((Sp.limI a.num).map (.int .u32)), .bool (Sp.isNeg (a.den : Int)), .vec f2 1 ((Sp.limI (a.den : Int)).map (.int .u32)), .bool (Sp.isNeg b.num), .vec f3 1 ((Sp.limI b.num).map (.int .u32)), .bool (Sp.isNeg (b.den : Int)), .vec f4 1 ((Sp.limI (b.den : Int)).map (.int .u32)), .bool (Sp.isNeg c.num), .vec f5 1 ((Sp.limI c.num).map (.int .u32)), .bool (Sp.isNeg (c.den : Int)), .vec f6 1 ((Sp.limI (c.den : Int)).map (.int .u32))]), (1, .agg [.bool (Sp.isNeg r.num), .vec k 1 ((Sp.limI r.num).map (.int .u32)), .bool (Sp.isNeg (r.den : Int)), .vec l 1 ((Sp.limI (r.den : Int)).map (.int .u32))])] []) Q
theorem call16 {args : List AV} {d : AV} (h : wc M1 fi16 Tryz.f16 args d) : Ev M1 (.pure 16 args) d [] := pcl _ _ (by kernel_rfl) h
theorem pCmpRat (f1 f2 f3 f4 f5 f6 : Bool) (k l : Bool) (a b c r : Rat)  (dq : AV) (H :
  (Sp.ok r.num) /\
  (Sp.okR a /\ Sp.okR (-r)) /\
  (Sp.okO (a + -r) b c) /\
  vi (Sp.sgP (a + -r) b c) = dq) :
 pCmpRat_at f1 f2 f3 f4 f5 f6 k l a b c r (PureQ dq) := by
 unfold pCmpRat_at
 obtain ⟨k1, H⟩ := H
 obtain ⟨k2, H⟩ := H
 obtain ⟨k3, H⟩ := H
 exact path_re (G := given kp16 [(1, 2, .call (ratA false false (-r)) none), (1, 3, .call (rootF (a + -r) b c) none), (1, 4, .call (vi (Sp.sgP (a + -r) b c)) none)] []) 1000 [] (vi (Sp.sgP (a + -r) b c)) (by kernel_rfl) (bc rfl (bc rfl b0)) q0 (ce (@ev70 (k) (l) (r) k1) (ce (@ev69 (f1) (f2) (f3) (f4) (f5) (f6) (false) (false) (a) (b) (c) (-r) k2) (ce (@ev21 (false) (false) (false) (false) (false) (false) (a + -r) (b) (c) k3) c0))) H
end Go.Av

namespace Go.Av
open Go.Proofs
theorem num_lt {r : Rat} : r.num < 0 ↔ r < 0 := by
 have h := @Rat.num_nonneg r
 constructor
 ·intro k
  apply Classical.byContradiction
  intro n
  have : 0 <= r := by grind
  have := h.2 this
  omega
 ·intro k
  apply Classical.byContradiction
  intro n
  have : 0 <= r := h.1 (by omega)
  grind
theorem num_gt {r : Rat} : 0 < r.num ↔ 0 < r := by
 have h := @num_lt r
 have h0 := @Rat.num_eq_zero r
 constructor
 ·intro k
  have h1 : ¬r < 0 := fun x => by have := h.2 x; omega
  have h2 : r ≠ 0 := fun x => by have := h0.2 x; omega
  grind
 ·intro k
  have h1 : ¬r.num < 0 := fun x => by have := h.1 x; grind
  have h2 : r.num ≠ 0 := fun x => by have := h0.1 x; grind
  omega
theorem sgR_pos {r : Rat} (h : 0 < r) : Sp.sgR r = 1 := by
 have := num_gt.2 h
 unfold Sp.sgR Sp.sgnI; rw [if_neg (by omega), if_pos this]
theorem sgR_neg {r : Rat} (h : r < 0) : Sp.sgR r = -1 := by
 have := num_lt.2 h
 unfold Sp.sgR Sp.sgnI; rw [if_pos this]
theorem sgR_zero : Sp.sgR 0 = 0 := rfl
theorem tri (r : Rat) : r < 0 \/ r = 0 \/ 0 < r := by grind
theorem sgR_iff {r : Rat} : (Sp.sgR r = 1 ↔ 0 < r) /\ (Sp.sgR r = 0 ↔ r = 0) /\ (Sp.sgR r = -1 ↔ r < 0) := by
 rcases tri r with h | h | h
 ·rw [sgR_neg h]
  exact ⟨⟨fun x => absurd x (by decide), fun x => by grind⟩, ⟨fun x => absurd x (by decide), fun x => by grind⟩, ⟨fun _ => h, fun _ => rfl⟩⟩
 ·subst h
  exact ⟨⟨fun x => absurd x (by decide), fun x => by grind⟩, ⟨fun _ => rfl, fun _ => rfl⟩, ⟨fun x => absurd x (by decide), fun x => by grind⟩⟩
 ·rw [sgR_pos h]
  exact ⟨⟨fun _ => h, fun _ => rfl⟩, ⟨fun x => absurd x (by decide), fun x => by grind⟩, ⟨fun x => absurd x (by decide), fun x => by grind⟩⟩
theorem mul_pp {p q : Rat} (h1 : 0 < p) (h2 : 0 < q) : 0 < p * q := Rat.mul_pos h1 h2
theorem mul_nn {p q : Rat} (h1 : p < 0) (h2 : q < 0) : 0 < p * q := by
 have := Rat.mul_pos (show 0 < -p by grind) (show 0 < -q by grind)
 grind
theorem mul_pn {p q : Rat} (h1 : 0 < p) (h2 : q < 0) : p * q < 0 := by
 have := Rat.mul_pos h1 (show 0 < -q by grind)
 grind
theorem mul_np {p q : Rat} (h1 : p < 0) (h2 : 0 < q) : p * q < 0 := by
 have := Rat.mul_pos (show 0 < -p by grind) h2
 grind
theorem sgR_mul (p q : Rat) : Sp.sgR (p * q) = Sp.sgR p * Sp.sgR q := by
 rcases tri p with h | h | h
 ·rcases tri q with k | k | k
  ·rw [sgR_neg h, sgR_neg k, sgR_pos (mul_nn h k)]; rfl
  ·subst k; rw [Rat.mul_zero, sgR_zero, Int.mul_zero]
  ·rw [sgR_neg h, sgR_pos k, sgR_neg (mul_np h k)]; rfl
 ·subst h; rw [Rat.zero_mul, sgR_zero, Int.zero_mul]
 ·rcases tri q with k | k | k
  ·rw [sgR_pos h, sgR_neg k, sgR_neg (mul_pn h k)]; rfl
  ·subst k; rw [Rat.mul_zero, sgR_zero, Int.mul_zero]
  ·rw [sgR_pos h, sgR_pos k, sgR_pos (mul_pp h k)]; rfl
theorem sq_nn (a : Rat) : 0 <= a * a := by
 rcases tri a with h | h | h
 ·have := mul_nn h h; grind
 ·subst h; grind
 ·have := mul_pp h h; grind
theorem sq_pos {a : Rat} (h : a ≠ 0) : 0 < a * a := by
 rcases tri a with k | k | k
 ·exact mul_nn k k
 ·exact absurd k h
 ·exact mul_pp k k
theorem mul_ge {p q : Rat} (h1 : 0 <= p) (h2 : 0 <= q) : 0 <= p * q := Rat.mul_nonneg h1 h2
def Sp.okC (c : Rat) : Prop := 0 < c /\ ¬Sp.rsq c
theorem norm_ne {a b c : Rat} (hc : Sp.okC c) (h : ¬(a = 0 /\ b = 0)) : a * a - b * b * c ≠ 0 := by
 intro e
 by_cases hb : b = 0
 ·subst hb
  have ha : a ≠ 0 := fun x => h ⟨x, rfl⟩
  have := sq_pos ha
  grind
 ·apply hc.2
  have hi : b * b⁻¹ = 1 := Rat.mul_inv_cancel b hb
  refine rsq_of (s := a * b⁻¹) ?_
  have e2 : a * a = b * b * c := by grind
  have : a * b⁻¹ * (a * b⁻¹) = (a * a) * (b⁻¹ * b⁻¹) := by grind
  rw [this, e2]
  have : b * b * c * (b⁻¹ * b⁻¹) = (b * b⁻¹) * (b * b⁻¹) * c := by grind
  rw [this, hi]; grind
noncomputable def Sp.sgP0 (a b c : Rat) : Int := if Sp.sgR a = Sp.sgR b \/ Sp.sgR b = 0 then Sp.sgR a else if Sp.sgR a = 0 then Sp.sgR b else if Sp.sgR (a * a - b * b * c) > 0 then Sp.sgR a else Sp.sgR b
theorem sgO_pos {a b c : Rat} (hc : 0 < c) (h : 0 < a * a - b * b * c) : Sp.sgO a b c = Sp.sgR a := by
 unfold Sp.sgO
 rw [sgR_pos h]
 split
 ·rfl
 ·split
  ·rename_i h0
   have ha := sgR_iff.2.1.1 h0
   subst ha
   have := mul_ge (sq_nn b) (show 0 <= c by grind)
   grind
  ·rw [Int.mul_one]
theorem sgO_neg {a b c : Rat} (h : a * a - b * b * c < 0) : Sp.sgO a b c = Sp.sgR b := by
 have hb : b ≠ 0 := by
  intro e; subst e
  have := sq_nn a
  grind
 unfold Sp.sgO
 rw [sgR_neg h]
 rcases tri a with ha | ha | ha
 ·rcases tri b with kb | kb | kb
  ·rw [sgR_neg ha, sgR_neg kb]; rfl
  ·exact absurd kb hb
  ·rw [sgR_neg ha, sgR_pos kb]; rfl
 ·subst ha
  rcases tri b with kb | kb | kb
  ·rw [sgR_neg kb, sgR_zero]; rfl
  ·exact absurd kb hb
  ·rw [sgR_pos kb, sgR_zero]; rfl
 ·rcases tri b with kb | kb | kb
  ·rw [sgR_pos ha, sgR_neg kb]; rfl
  ·exact absurd kb hb
  ·rw [sgR_pos ha, sgR_pos kb]; rfl
theorem sgO_00 (c : Rat) : Sp.sgO 0 0 c = 0 := by
 unfold Sp.sgO
 rw [sgR_zero]; rfl
theorem sgP_eq {a b c : Rat} (hc : Sp.okC c) : Sp.sgP0 a b c = Sp.sgO a b c := by
 by_cases h : a = 0 /\ b = 0
 ·obtain ⟨rfl, rfl⟩ := h
  rw [sgO_00]; unfold Sp.sgP0; rw [sgR_zero]; rfl
 ·have hn := norm_ne hc h
  unfold Sp.sgP0
  rcases tri (a * a - b * b * c) with k | k | k
  ·rw [sgO_neg k]
   split
   ·rename_i e
    rcases e with e | e
    ·exact e
    ·have hb := sgR_iff.2.1.1 e
     subst hb
     have := sq_nn a
     grind
   ·split
    ·rfl
    ·rw [sgR_neg k, if_neg (by decide)]
  ·exact absurd k hn
  ·rw [sgO_pos hc.1 k]
   split
   ·rfl
   ·split
    ·rename_i e
     have ha := sgR_iff.2.1.1 e
     subst ha
     have := mul_ge (sq_nn b) (show 0 <= c by have := hc.1; grind)
     grind
    ·rw [sgR_pos k, if_pos (by decide)]
end Go.Av

namespace Go.Av
open Go.Proofs
set_option maxRecDepth 100000
end Go.Av

namespace Go.Av
open Go.Proofs
def Sp.okQ (a b c r : Rat) : Prop := Sp.okT 4000 a /\ Sp.okT 4000 r /\ Sp.okT 9000 b /\ Sp.okT 9000 c
theorem ev16 (f1 f2 f3 f4 f5 f6 k l : Bool) (a b c r : Rat) (h : Sp.okQ a b c r) : Ev M1 (.pure 16 [rootA f1 f2 f3 f4 f5 f6 a b c, ratA k l r]) (.int .i64 (Sp.sgP (a + -r) b c)) [] := by
 obtain ⟨ha, hr, hb, hc⟩ := h
 have := hr.1
 exact call16 (pCmpRat _ _ _ _ _ _ _ _ _ _ _ _ _ ⟨by unfold Sp.ok; omega, ⟨okT_R ha (by omega), okT_R (okT_neg hr) (by omega)⟩, ⟨okT_le (okT_add ha (okT_neg hr)) (by omega), hb, hc⟩, rfl⟩)
theorem hi_ex (n : Int) : ∃ m : Int, m = n := ⟨n, rfl⟩
noncomputable def Sp.hi (n : Int) : Int := Classical.choose (hi_ex n)
end Go.Av

namespace Go.Av
open Go.Proofs
set_option maxRecDepth 100000
def fi3 : Fi := ⟨44, [.tmp 2]⟩
def kp3 : List (Nat × List Nat) := [(0, [1]), (1, [1, 13]), (2, [2]), (3, [1, 3]), (4, [1, 3, 21]), (5, [2]), (6, [1, 4, 5]), (7, [2])]
def lwFloor_at (f1 f2 f3 f4 f5 f6 : Bool) (a b c : Rat) (Q : AV -> Heap -> Prop) : Prop := Wp M1 (.run fi3 (atC (cd Tryz.f3) []) [(0, .agg [.bool (Sp.isNeg a.num), .vec f1 1 ((Sp.limI a.num).map (.int .u32)), .bool (Sp.isNeg (a.den : Int)), .vec f2 1 ((Sp.limI (a.den : Int)).map (.int .u32)), .bool (Sp.isNeg b.num), .vec f3 1 ((Sp.limI b.num).map (.int .u32)), .bool (Sp.isNeg (b.den : Int)), .vec f4 1 ((Sp.limI (b.den : Int)).map (.int .u32)), .bool (Sp.isNeg c.num), .vec f5 1 ((Sp.limI c.num).map (.int .u32)), .bool (Sp.isNeg (c.den : Int)), .vec f6 1 ((Sp.limI (c.den : Int)).map (.int .u32))])] []) Q
def lwFloorR_at (s1 t1 f1 g1 s2 t2 f2 g2 s3 t3 f3 g3 : Bool) (x1 y1 x2 y2 x3 y3 : List Int) (Q : AV -> Heap -> Prop) : Prop := Wp M1 (.run fi3 (atC (cd Tryz.f3) []) [(0, .agg [.bool s1, .vec f1 1 (x1.map (.int .u32)), .bool t1, .vec g1 1 (y1.map (.int .u32)), .bool s2, .vec f2 1 (x2.map (.int .u32)), .bool t2, .vec g2 1 (y2.map (.int .u32)), .bool s3, .vec f3 1 (x3.map (.int .u32)), .bool t3, .vec g3 1 (y3.map (.int .u32))])] []) Q
theorem call3 {args : List AV} {d : AV} (h : wc M1 fi3 Tryz.f3 args d) : Ev M1 (.pure 3 args) d [] := pcl _ _ (by kernel_rfl) h
noncomputable abbrev zNyE1 := ag [vb false, vf (us (Sp.limI 1))]
theorem lwFloor (f1 f2 f3 f4 f5 f6 : Bool) (a b c : Rat)  (dq : AV) (H :
  ((¬(Sp.smR a b c = true)) -> vb true = dq) /\
  (¬(¬(Sp.smR a b c = true)) -> (Sp.okO a b c) /\
   (Sp.ok (Sp.fl a b c) /\ Sp.ok (Sp.fl a b c)) /\
   ((¬(Sp.fl a b c = Sp.fl a b c)) -> vb false = dq) /\
   (¬(¬(Sp.fl a b c = Sp.fl a b c)) -> (Sp.inI 1) /\
    (Sp.cnt (Sp.fl a b c).natAbs <= 399000) /\
    ((true = true) -> (Sp.okQ a b c (Sp.qi (Sp.fl a b c)))) /\
    ((Sp.sgP (a + -Sp.qi (Sp.fl a b c)) b c >= 0) -> (Sp.okR (Sp.qi (Sp.fl a b c)) /\ Sp.okR (Sp.qi 1))) /\
    ((Sp.sgP (a + -Sp.qi (Sp.fl a b c)) b c >= 0) -> (Sp.okQ a b c (Sp.qi (Sp.fl a b c) + Sp.qi 1))) /\
    vb (bif decide (Sp.sgP (a + -Sp.qi (Sp.fl a b c)) b c >= 0) then decide (Sp.sgP (a + -(Sp.qi (Sp.fl a b c) + Sp.qi 1)) b c < 0) else false) = dq))) :
 lwFloor_at f1 f2 f3 f4 f5 f6 a b c (PureQ dq) := by
 unfold lwFloor_at
 refine path_wp (G := given kp3 [(1, 0, .call (vb true) none), (1, 5, .call (vb (Sp.smR a b c)) none)] []) 5 [] ⟨(atC (cd Tryz.f3) [1, 0, 1]), [(1, AV.ptr 0 0 0 0), (13, vb !Sp.smR a b c)], [⟨[rootA f1 f2 f3 f4 f5 f6 a b c], 12, 0, false, false⟩], _, [], _⟩ (by kernel_rfl) (bc rfl b0) q0 (ce (@ev9 ) (ce (@ev10 (true) (f1) (f2) (f3) (f4) (f5) (f6) (a) (b) (c)) c0)) ?_
 rcases xm (¬(Sp.smR a b c = true)) with d2 | d2
 ·have H := H.1 d2
  exact path_re (G := given kp3 [(2, 0, .call (vb true) none)] []) 1000 [true] (asm := [(!Sp.smR a b c) == true]) (vb true) (by kernel_rfl) (bc (beq_t ((i_not (i_var _)).2 d2)) b0) q0 (ce (@ev9 ) c0) H
 ·have H := H.2 d2
  obtain ⟨k3, H⟩ := H
  obtain ⟨k4, H⟩ := H
  refine path_wp (G := given kp3 [(3, 1, .call (bigA false (Sp.fl a b c)) none), (4, 2, .call (bigA false (Sp.fl a b c)) none), (4, 3, .call (vb (decide (Sp.fl a b c = Sp.fl a b c))) none)] []) 7 [false] ⟨(atC (cd Tryz.f3) [1, 1, 1, 0, 1]), [(1, AV.ptr 0 0 0 0), (3, AV.ptr 1 0 0 0), (21, vb !decide (Sp.fl a b c = Sp.fl a b c))], [⟨[rootA f1 f2 f3 f4 f5 f6 a b c], 12, 0, false, false⟩, ⟨[bigA false (Sp.fl a b c)], 2, 0, false, false⟩], [(!Sp.smR a b c) == false, true, true, true, true], [], _⟩ (by kernel_rfl) (bc (beq_f (fun h => d2 ((i_not (i_var _)).1 h))) (bc rfl (bc rfl (bc rfl (bc rfl b0))))) q0 (ce (@ev11 (f1) (f2) (f3) (f4) (f5) (f6) (a) (b) (c) k3) (ce (@ev13 (f1) (f2) (f3) (f4) (f5) (f6) (a) (b) (c) k3) (ce (@ev12 (false) (false) (Sp.fl a b c) (Sp.fl a b c) k4) c0))) ?_
  rcases xm (¬(Sp.fl a b c = Sp.fl a b c)) with d6 | d6
  ·have H := H.1 d6
   exact path_re (G := given kp3 [] []) 1000 [true] (vb false) (by kernel_rfl) (bc (beq_t ((i_not i_dec).2 d6)) b0) q0 c0 H
  ·have H := H.2 d6
   obtain ⟨k7, H⟩ := H
   obtain ⟨k8, H⟩ := H
   obtain ⟨k10, H⟩ := H
   obtain ⟨k13, H⟩ := H
   obtain ⟨k15, H⟩ := H
   exact path_re (G := given kp3 [(6, 1, .call (zNyE1) none), (6, 2, .call (tu [ratA false false (Sp.qi (Sp.fl a b c)), vi 0]) none), (7, 5, .call (vi (Sp.sgP (a + -Sp.qi (Sp.fl a b c)) b c)) none), (7, 11, .call (ratA false false (Sp.qi 1)) none), (7, 12, .call (ratA false false (Sp.qi (Sp.fl a b c) + Sp.qi 1)) none), (7, 13, .call (vi (Sp.sgP (a + -(Sp.qi (Sp.fl a b c) + Sp.qi 1)) b c)) none)] []) 1000 [false] (asm := [(!decide (Sp.fl a b c = Sp.fl a b c)) == false, true, true, true, true, !(decide (Sp.sgP (a + -Sp.qi (Sp.fl a b c)) b c >= 0) == true && true) || true, !(decide (Sp.sgP (a + -Sp.qi (Sp.fl a b c)) b c >= 0) == true && true) || true]) (calls := [⟨true, false, 15, [vi 1], [], zNyE1, []⟩, ⟨true, false, 14, [bigA false (Sp.fl a b c), zNyE1], [], tu [ratA false false (Sp.qi (Sp.fl a b c)), vi 0], []⟩, ⟨true == true && true && true, false, 16, [rootA f1 f2 f3 f4 f5 f6 a b c, ratA false false (Sp.qi (Sp.fl a b c))], [], vi (Sp.sgP (a + -Sp.qi (Sp.fl a b c)) b c), []⟩, ⟨decide (Sp.sgP (a + -Sp.qi (Sp.fl a b c)) b c >= 0) == true && true && true, false, 18, [vi 1], [], ratA false false (Sp.qi 1), []⟩, ⟨decide (Sp.sgP (a + -Sp.qi (Sp.fl a b c)) b c >= 0) == true && true && true, false, 17, [ratA false false (Sp.qi (Sp.fl a b c)), ratA false false (Sp.qi 1)], [], ratA false false (Sp.qi (Sp.fl a b c) + Sp.qi 1), []⟩, ⟨decide (Sp.sgP (a + -Sp.qi (Sp.fl a b c)) b c >= 0) == true && true && true, false, 16, [rootA f1 f2 f3 f4 f5 f6 a b c, ratA false false (Sp.qi (Sp.fl a b c) + Sp.qi 1)], [], vi (Sp.sgP (a + -(Sp.qi (Sp.fl a b c) + Sp.qi 1)) b c), []⟩]) (vb (bif decide (Sp.sgP (a + -Sp.qi (Sp.fl a b c)) b c >= 0) then decide (Sp.sgP (a + -(Sp.qi (Sp.fl a b c) + Sp.qi 1)) b c < 0) else false)) (by kernel_rfl) (bc (beq_f (fun h => d6 ((i_not i_dec).1 h))) (bc rfl (bc rfl (bc rfl (bc rfl (bc (Bool.or_true _) (bc (Bool.or_true _) b0))))))) q0 (cc (fun _ => (@ev15 (1) k7)) (cc (fun _ => (@ev14_a (false) (Sp.fl a b c) k8)) (cc (fun hc => ((@ev16 (f1) (f2) (f3) (f4) (f5) (f6) (false) (false) (a) (b) (c) (Sp.qi (Sp.fl a b c)) (k10 ((i_at (i_at (i_bt (i_var _)))).1 hc))) : Ev M1 (Conf.pure 16 [rootA f1 f2 f3 f4 f5 f6 a b c, ratA false false (Sp.qi (Sp.fl a b c))]) (vi (Sp.sgP (a + -Sp.qi (Sp.fl a b c)) b c)) [])) (cc (fun hc => ((@ev18 (1) k7) : Ev M1 (Conf.pure 18 [vi 1]) (ratA false false (Sp.qi 1)) [])) (cc (fun hc => ((@ev17 (false) (false) (false) (false) (Sp.qi (Sp.fl a b c)) (Sp.qi 1) (k13 ((i_at (i_at (i_bt i_dec))).1 hc))) : Ev M1 (Conf.pure 17 [ratA false false (Sp.qi (Sp.fl a b c)), ratA false false (Sp.qi 1)]) (ratA false false (Sp.qi (Sp.fl a b c) + Sp.qi 1)) [])) (cc (fun hc => ((@ev16 (f1) (f2) (f3) (f4) (f5) (f6) (false) (false) (a) (b) (c) (Sp.qi (Sp.fl a b c) + Sp.qi 1) (k15 ((i_at (i_at (i_bt i_dec))).1 hc))) : Ev M1 (Conf.pure 16 [rootA f1 f2 f3 f4 f5 f6 a b c, ratA false false (Sp.qi (Sp.fl a b c) + Sp.qi 1)]) (vi (Sp.sgP (a + -(Sp.qi (Sp.fl a b c) + Sp.qi 1)) b c)) [])) c0)))))) H
theorem lwFloorR (s1 t1 f1 g1 s2 t2 f2 g2 s3 t3 f3 g3 : Bool) (x1 y1 x2 y2 x3 y3 : List Int)  (dq : AV) (H :
  (Sp.okU3 4 x1 y1 x2 y2 x3 y3) /\
  ((¬(Sp.smOB 4 s1 x1 t1 y1 s2 x2 t2 y2 s3 x3 t3 y3 = true)) -> vb true = dq) /\
  (¬(¬(Sp.smOB 4 s1 x1 t1 y1 s2 x2 t2 y2 s3 x3 t3 y3 = true)) -> False)) :
 lwFloorR_at s1 t1 f1 g1 s2 t2 f2 g2 s3 t3 f3 g3 x1 y1 x2 y2 x3 y3 (PureQ dq) := by
 unfold lwFloorR_at
 obtain ⟨k1, H⟩ := H
 refine path_wp (G := given kp3 [(1, 0, .call (vb true) none), (1, 5, .call (vb (Sp.smOB 4 s1 x1 t1 y1 s2 x2 t2 y2 s3 x3 t3 y3)) none)] []) 5 [] ⟨(atC (cd Tryz.f3) [1, 0, 1]), [(1, AV.ptr 0 0 0 0), (13, vb !Sp.smOB 4 s1 x1 t1 y1 s2 x2 t2 y2 s3 x3 t3 y3)], [⟨[ag [vb s1, AV.vec f1 1 (us x1), vb t1, AV.vec g1 1 (us y1), vb s2, AV.vec f2 1 (us x2), vb t2, AV.vec g2 1 (us y2), vb s3, AV.vec f3 1 (us x3), vb t3, AV.vec g3 1 (us y3)]], 12, 0, false, false⟩], _, [], _⟩ (by kernel_rfl) (bc rfl b0) q0 (ce (@ev9 ) (ce (@ev10_r (true) (s1) (t1) (f1) (g1) (s2) (t2) (f2) (g2) (s3) (t3) (f3) (g3) (x1) (y1) (x2) (y2) (x3) (y3) k1) c0)) ?_
 rcases xm (¬(Sp.smOB 4 s1 x1 t1 y1 s2 x2 t2 y2 s3 x3 t3 y3 = true)) with d3 | d3
 ·have H := H.1 d3
  exact path_re (G := given kp3 [(2, 0, .call (vb true) none)] []) 1000 [true] (asm := [(!Sp.smOB 4 s1 x1 t1 y1 s2 x2 t2 y2 s3 x3 t3 y3) == true]) (vb true) (by kernel_rfl) (bc (beq_t ((i_not (i_var _)).2 d3)) b0) q0 (ce (@ev9 ) c0) H
 ·have H := H.2 d3
  exact False.elim H
end Go.Av

namespace Go.Av
open Go.Proofs
end Go.Av

namespace Go.Av
open Go.Proofs
theorem okC_two : Sp.okC (Sp.qi 2) := by
 refine ⟨?_, nsq_int (n := 2) (r := 1) (by decide) (by decide)⟩
 have := (qi_num 2).1
 exact num_gt.1 (by omega)
theorem rad_zero (c : Rat) : Sp.rad 0 c = 0 := by unfold Sp.rad; rw [if_pos rfl, qi_zero]
theorem vroot_zero {b c : Rat} (h : Sp.vroot b c = true) (hb : b = 0) : c = 0 := by
 unfold Sp.vroot at h
 rw [if_pos hb] at h
 exact of_decide_eq_true h
theorem vroot_pos {b c : Rat} (h : Sp.vroot b c = true) (hb : b ≠ 0) : Sp.okC c := by
 unfold Sp.vroot at h
 rw [if_neg hb] at h
 simp only [decide_eq_true_eq] at h
 exact ⟨num_gt.1 h.1, h.2⟩
theorem vroot_ok {b c : Rat} (h : Sp.vroot b c = true) : ∃ C, Sp.okC C /\ c = Sp.rad b C := by
 by_cases hb : b = 0
 ·refine ⟨_, okC_two, ?_⟩
  rw [vroot_zero h hb, hb, rad_zero]
 ·exact ⟨c, vroot_pos h hb, (if_neg hb).symm⟩
theorem sq_rad (b c : Rat) : b * b * Sp.rad b c = b * b * c := by
 by_cases h : b = 0
 ·subst h; grind
 ·rw [show Sp.rad b c = c from if_neg h]
theorem sgP_rad {a b c : Rat} (h : Sp.okC c) : Sp.sgP a b (Sp.rad b c) = Sp.sgO a b c := by
 rw [<- sgP_eq h]
 unfold Sp.sgP Sp.sgP0; rw [sq_rad]
end Go.Av

namespace Go.Av
open Go.Proofs
theorem qi_pos {n : Int} (h : 0 < n) : 0 < Sp.qi n := num_gt.1 (by have := (qi_num n).1; omega)
theorem den_pos' (r : Rat) : 0 < (r.den : Int) := by have := r.den_pos; omega
theorem den_mul (a : Rat) : a * Sp.qi (a.den : Int) = Sp.qi a.num := by
 have hd : Sp.qi (a.den : Int) ≠ 0 := qi_ne (den_ne a)
 have e : a = Sp.qi a.num * (Sp.qi (a.den : Int))⁻¹ := by
  have := Rat.num_divInt_den a
  rw [Rat.divInt_eq_div, Rat.div_def] at this
  rw [qi_eq, qi_eq]; exact this.symm
 have h := Rat.mul_inv_cancel _ hd
 generalize Sp.qi (a.den : Int) = d at *
 generalize Sp.qi a.num = n at *
 rw [e]
 grind
theorem fl_sg {A E : Rat} {u : Int} (hE : 0 < E) (hA : A * E = Sp.qi u) : Sp.sgR A = Sp.sgnI u := by
 have := sgR_mul A E
 rw [hA, sgR_int, sgR_pos hE, Int.mul_one] at this
 exact this.symm
theorem fl_norm {A m E : Rat} {u Y : Int} (hE : 0 < E) (hA : A * E = Sp.qi u) (hY : m * (E * E) = Sp.qi Y) : Sp.sgR (A * A - m) = Sp.sgnI (u * u - Y) := by
 have e : (A * A - m) * (E * E) = Sp.qi (u * u - Y) := by
  rw [<- qi_sub, <- qi_mul, <- hA, <- hY]; grind
 exact fl_sg (mul_pp hE hE) e
theorem fl_over {A b c E : Rat} {u Y : Int} (hc : 0 < c) (hE : 0 < E) (hA : A * E = Sp.qi u) (hY : b * b * c * (E * E) = Sp.qi Y) (h : Y < u * u) : Sp.sgO A b c = Sp.sgnI u := by
 have hn := fl_norm hE hA hY
 have : Sp.sgnI (u * u - Y) = 1 := by unfold Sp.sgnI; rw [if_neg (by omega), if_pos (by omega)]
 rw [this] at hn
 rw [sgO_pos hc (sgR_iff.1.1 hn), fl_sg hE hA]
theorem fl_under {A b c E : Rat} {u Y : Int} (hc : Sp.okC c) (hb : b ≠ 0) (hE : 0 < E) (hA : A * E = Sp.qi u) (hY : b * b * c * (E * E) = Sp.qi Y) (h : u * u <= Y) : Sp.sgO A b c = Sp.sgR b := by
 have hn := fl_norm hE hA hY
 have h0 : A * A - b * b * c ≠ 0 := norm_ne hc fun x => hb x.2
 refine sgO_neg ?_
 rcases tri (A * A - b * b * c) with k | k | k
 ·exact k
 ·exact absurd k h0
 ·rw [sgR_pos k] at hn
  unfold Sp.sgnI at hn
  rw [if_neg (by omega : ¬u * u - Y > 0)] at hn
  split at hn <;> omega
theorem sgO_same {a b c : Rat} (h : Sp.sgR b ≠ 0) (h2 : Sp.sgR a = Sp.sgR b \/ Sp.sgR a = 0) : Sp.sgO a b c = Sp.sgR b := by
 unfold Sp.sgO
 rcases h2 with h2 | h2
 ·rw [if_pos (.inr h2), h2]
 ·rw [if_neg (fun x => by rcases x with x | x; exact h x; exact h (by rw [<- x, h2])), if_pos h2]
theorem sq_lo {Y : Int} (h : 0 <= Y) : Sp.sq Y * Sp.sq Y <= Y /\ Y < (Sp.sq Y + 1) * (Sp.sq Y + 1) /\ 0 <= Sp.sq Y := by
 obtain ⟨h1, h2⟩ := isqrt_spec Y.natAbs
 unfold Sp.sq
 rw [if_neg (by omega)]
 have e : ((Y.natAbs : Nat) : Int) = Y := by omega
 generalize Sp.isqrt Y.natAbs = w at *
 refine ⟨?_, ?_, by omega⟩
 ·have : ((w * w : Nat) : Int) <= ((Y.natAbs : Nat) : Int) := by omega
  rw [e, Int.natCast_mul] at this; exact this
 ·have : ((Y.natAbs : Nat) : Int) < (((w + 1) * (w + 1) : Nat) : Int) := by omega
  rw [e, Int.natCast_mul] at this; exact this
theorem le_sq {u w : Int} (h1 : -w <= u) (h2 : u <= w) : u * u <= w * w := by
 have h : 0 <= (w - u) * (w + u) := Int.mul_nonneg (by omega) (by omega)
 grind
theorem lt_sq {u w : Int} (hw : 0 <= w) (h : w <= u \/ u <= -w) : w * w <= u * u := by
 rcases h with h | h
 ·have h : 0 <= (u - w) * (u + w) := Int.mul_nonneg (by omega) (by omega)
  grind
 ·have h : 0 <= (-u - w) * (-u + w) := Int.mul_nonneg (by omega) (by omega)
  grind
theorem fl_spec {a b c : Rat} (hc : Sp.okC c) : 0 <= Sp.sgO (a + -Sp.qi (Sp.fl a b c)) b c /\ Sp.sgO (a + -(Sp.qi (Sp.fl a b c) + Sp.qi 1)) b c < 0 := by
 by_cases hb : b = 0
 ·subst hb
  have e0 : ∀ A : Rat, Sp.sgO A 0 c = Sp.sgR A := by
   intro A; unfold Sp.sgO; rw [sgR_zero, if_pos (.inl rfl)]
  have hf : Sp.fl a 0 c = a.num / (a.den : Int) := by
   unfold Sp.fl; rw [if_pos rfl, flo_pos (den_ne a)]
  have hd := den_pos' a
  have m1 := Int.mul_ediv_add_emod a.num (a.den : Int)
  have m2 := Int.emod_nonneg a.num (den_ne a)
  have m3 := Int.emod_lt_of_pos a.num hd
  rw [hf, e0, e0]
  generalize hn : a.num / (a.den : Int) = n at *
  have hE := qi_pos hd
  have k1 : (a + -Sp.qi n) * Sp.qi (a.den : Int) = Sp.qi (a.num - n * (a.den : Int)) := by
   rw [<- qi_sub, <- qi_mul, <- den_mul]; grind
  have k2 : (a + -(Sp.qi n + Sp.qi 1)) * Sp.qi (a.den : Int) = Sp.qi (a.num - (n + 1) * (a.den : Int)) := by
   rw [<- qi_sub, <- qi_mul, <- den_mul, <- qi_add]; grind
  rw [fl_sg hE k1, fl_sg hE k2]
  have j1 : 0 <= a.num - n * (a.den : Int) := by grind
  have j2 : a.num - (n + 1) * (a.den : Int) < 0 := by grind
  unfold Sp.sgnI
  rw [if_neg (by omega), if_pos j2]
  constructor
  ·split <;> omega
  ·omega
 ·have hm : 0 < b * b * c := mul_pp (sq_pos hb) hc.1
  have hd := den_pos' a
  have hq := den_pos' (b * b * c)
  have hEp : 0 < (a.den : Int) * ((b * b * c).den : Int) := Int.mul_pos hd hq
  have hE := qi_pos hEp
  have hY : b * b * c * (Sp.qi ((a.den : Int) * ((b * b * c).den : Int)) * Sp.qi ((a.den : Int) * ((b * b * c).den : Int))) = Sp.qi ((a.den : Int) * (a.den : Int) * ((b * b * c).num * ((b * b * c).den : Int))) := by
   rw [<- qi_mul, <- qi_mul, <- qi_mul, <- qi_mul, <- den_mul (b * b * c)]; grind
  have hY0 : 0 <= (a.den : Int) * (a.den : Int) * ((b * b * c).num * ((b * b * c).den : Int)) := by
   have := num_gt.2 hm
   exact Int.mul_nonneg (Int.mul_nonneg (by omega) (by omega)) (Int.mul_nonneg (by omega) (by omega))
  obtain ⟨w1, w2, w3⟩ := sq_lo hY0
  have hf : Sp.fl a b c = (a.num * ((b * b * c).den : Int) + (if b.num < 0 then -(Sp.flW a b c + 1) else Sp.flW a b c)) / ((a.den : Int) * ((b * b * c).den : Int)) := by
   unfold Sp.fl
   rw [if_neg hb]
   unfold Sp.flo
   rw [if_pos hEp]
  have hW : Sp.flW a b c = Sp.sq ((a.den : Int) * (a.den : Int) * ((b * b * c).num * ((b * b * c).den : Int))) := rfl
  rw [<- hW] at w1 w2 w3
  have kA : ∀ n : Int, (a + -Sp.qi n) * Sp.qi ((a.den : Int) * ((b * b * c).den : Int)) = Sp.qi (a.num * ((b * b * c).den : Int) - n * ((a.den : Int) * ((b * b * c).den : Int))) := by
   intro n
   rw [<- qi_sub, <- qi_mul a.num, <- den_mul a, <- qi_mul n, <- qi_mul (a.den : Int)]; grind
  generalize (a.den : Int) * (a.den : Int) * ((b * b * c).num * ((b * b * c).den : Int)) = Y at *
  generalize Sp.flW a b c = W at *
  generalize (a.den : Int) * ((b * b * c).den : Int) = E at *
  generalize a.num * ((b * b * c).den : Int) = X at *
  rw [hf]
  have m1 := Int.mul_ediv_add_emod (X + (if b.num < 0 then -(W + 1) else W)) E
  have m2 := Int.emod_nonneg (X + (if b.num < 0 then -(W + 1) else W)) (show E ≠ 0 by omega)
  have m3 := Int.emod_lt_of_pos (X + (if b.num < 0 then -(W + 1) else W)) hEp
  generalize (X + (if b.num < 0 then -(W + 1) else W)) % E = R at *
  generalize (X + (if b.num < 0 then -(W + 1) else W)) / E = n at *
  have k1 := kA n
  have k2 := kA (n + 1)
  rw [<- qi_add] at k2
  have hs : Sp.sgR b ≠ 0 := fun x => hb (sgR_iff.2.1.1 x)
  by_cases hneg : b.num < 0
  ·rw [if_pos hneg] at m1
   have sb := sgR_neg (num_lt.1 hneg)
   have u1 : W + 1 <= X - n * E := by grind
   have u2 : X - (n + 1) * E <= W := by grind
   constructor
   ·have := lt_sq (show 0 <= W + 1 by omega) (.inl u1)
    rw [fl_over hc.1 hE k1 hY (by omega)]
    unfold Sp.sgnI; rw [if_neg (by omega)]; split <;> omega
   ·by_cases hu : X - (n + 1) * E <= 0
    ·have := fl_sg hE k2
     have hlt : Sp.sgO (a + -(Sp.qi n + Sp.qi 1)) b c = Sp.sgR b := by
      refine sgO_same hs ?_
      rw [this, sb]
      unfold Sp.sgnI
      by_cases h0 : X - (n + 1) * E < 0
      ·rw [if_pos h0]; exact .inl rfl
      ·rw [if_neg h0, if_neg (by omega)]; exact .inr rfl
     rw [hlt, sb]; decide
    ·have := le_sq (show -W <= X - (n + 1) * E by omega) u2
     rw [fl_under hc hb hE k2 hY (by omega), sb]; decide
  ·rw [if_neg hneg] at m1
   have hbp : 0 < b := by
    have : ¬b < 0 := fun x => hneg (num_lt.2 x)
    grind
   have sb := sgR_pos hbp
   have u1 : -W <= X - n * E := by grind
   have u2 : X - (n + 1) * E <= -(W + 1) := by grind
   constructor
   ·by_cases hu : 0 <= X - n * E
    ·have := fl_sg hE k1
     have hlt : Sp.sgO (a + -Sp.qi n) b c = Sp.sgR b := by
      refine sgO_same hs ?_
      rw [this, sb]
      unfold Sp.sgnI
      by_cases h0 : 0 < X - n * E
      ·rw [if_neg (by omega), if_pos h0]; exact .inl rfl
      ·rw [if_neg (by omega), if_neg (by omega)]; exact .inr rfl
     rw [hlt, sb]; decide
    ·have := le_sq u1 (show X - n * E <= W by omega)
     rw [fl_under hc hb hE k1 hY (by omega), sb]; decide
   ·have := lt_sq (show 0 <= W + 1 by omega) (.inr u2)
    rw [fl_over hc.1 hE k2 hY (by omega)]
    unfold Sp.sgnI; rw [if_pos (by omega)]; decide
end Go.Av

namespace Go.Av
open Go.Proofs
theorem fl_rad (a b c : Rat) : Sp.fl a b (Sp.rad b c) = Sp.fl a b c := by
 unfold Sp.fl Sp.flW; rw [sq_rad]
theorem fl_cnt {k : Nat} {a b c : Rat} (ha : Sp.okT k a) (hb : Sp.okT k b) (hc : Sp.okT k c) : Sp.cnt (Sp.fl a b c).natAbs <= 8 * k + 2 := by
 have bbc := okT_mul (okT_mul hb hb) hc
 obtain ⟨a1, a2⟩ := ha
 obtain ⟨s1, s2⟩ := bbc
 have a2' := cnt_den a2
 have s2' := cnt_den s2
 have m3 := cnt_mulI (cnt_mulI a2' a2') (cnt_mulI s1 s2')
 have w := cnt_sqI m3
 have m4 := cnt_mulI a1 s2'
 have hflo : ∀ X E : Int, 0 < E -> (Sp.flo X E).natAbs <= X.natAbs := by
  intro X E hE
  unfold Sp.flo
  rw [if_pos hE]
  exact Int.natAbs_ediv_le_natAbs X E
 unfold Sp.fl
 split
 ·exact Nat.le_trans (cnt_mono (hflo _ _ (by have := a.den_pos; omega))) (by omega)
 ·have hE : 0 < (a.den : Int) * ((b * b * c).den : Int) := Int.mul_pos (by have := a.den_pos; omega) (by have := (b * b * c).den_pos; omega)
  refine Nat.le_trans (cnt_mono (hflo _ _ hE)) ?_
  have hw : Sp.cnt (if b.num < 0 then -(Sp.flW a b c + 1) else Sp.flW a b c).natAbs <= k + k + (k + k + k + (k + k + k)) + 1 := by
   split
   ·rw [Int.natAbs_neg]
    by_cases h0 : k = 0
    ·subst h0
     have e : Sp.flW a b c = 0 := by
      have : Sp.cnt (Sp.flW a b c).natAbs = 0 := by unfold Sp.flW; omega
      have := cnt_eq_zero.1 this
      omega
     rw [e]; exact Nat.le_trans cnt_one (by omega)
    ·exact cnt_addI w (Nat.le_trans cnt_one (by omega))
   ·exact Nat.le_trans w (by omega)
  have := cnt_addI (Nat.le_trans m4 (show k + (k + k + k) <= k + k + (k + k + k + (k + k + k)) + 1 by omega)) hw
  omega
theorem okT_qi {k : Nat} {n : Int} (h : Sp.cnt n.natAbs <= k) (hk : 1 <= k) : Sp.okT k (Sp.qi n) := by
 obtain ⟨e1, e2⟩ := qi_num n
 have e3 : (Sp.qi n).den = 1 := by omega
 have h1 := cnt_small (n := 1) (by decide)
 unfold Sp.okT
 rw [e1, e3]
 omega
theorem floor_ok {a b c : Rat} (ha : Sp.okT 4 a /\ Sp.okT 4 b /\ Sp.okT 4 c) (hv : Sp.vroot b c = true) (f1 f2 f3 f4 f5 f6 : Bool) :
  Ev M1 (.pure 3 [rootA f1 f2 f3 f4 f5 f6 a b c]) (.bool true) [] := by
 obtain ⟨ha, hb, hc⟩ := ha
 have o1 := okT_O ha hb hc (by omega)
 have hf := fl_cnt ha hb hc
 have q1 := okT_qi (k := 34) hf (by omega)
 have q2 : Sp.okT 3 (Sp.qi 1) := okT_int (by unfold Sp.inI; omega)
 refine call3 (lwFloor _ _ _ _ _ _ _ _ _ _ ⟨fun _ => rfl, fun _ => ⟨o1, ⟨by unfold Sp.ok; omega, by unfold Sp.ok; omega⟩, fun k => absurd rfl k, fun _ => ⟨by unfold Sp.inI; omega, by omega, fun _ => ⟨okT_le ha (by omega), okT_le q1 (by omega), okT_le hb (by omega), okT_le hc (by omega)⟩, fun _ => ⟨okT_R q1 (by omega), okT_R q2 (by omega)⟩, fun _ => ⟨okT_le ha (by omega), okT_le (okT_add q1 q2) (by omega), okT_le hb (by omega), okT_le hc (by omega)⟩, ?_⟩⟩⟩)
 obtain ⟨C, hC, rfl⟩ := vroot_ok hv
 obtain ⟨s1, s2⟩ := fl_spec (a := a) (b := b) hC
 rw [fl_rad, sgP_rad hC, sgP_rad hC, decide_eq_true s1, decide_eq_true s2]; rfl
end Go.Av

namespace Go.Av
open Go.Proofs
theorem ev3 (s1 t1 f1 g1 s2 t2 f2 g2 s3 t3 f3 g3 : Bool) (x1 y1 x2 y2 x3 y3 : List Int) (h : Sp.okU3 4 x1 y1 x2 y2 x3 y3) : Ev M1 (.pure 3 [.agg [.bool s1, .vec f1 1 (x1.map (.int .u32)), .bool t1, .vec g1 1 (y1.map (.int .u32)), .bool s2, .vec f2 1 (x2.map (.int .u32)), .bool t2, .vec g2 1 (y2.map (.int .u32)), .bool s3, .vec f3 1 (x3.map (.int .u32)), .bool t3, .vec g3 1 (y3.map (.int .u32))]]) (.bool true) [] := by
 by_cases k1 : Sp.smOB 4 s1 x1 t1 y1 s2 x2 t2 y2 s3 x3 t3 y3 = true
 ·obtain ⟨a, b, c, ha, va, ⟨rfl, rfl, rfl, rfl⟩, ⟨rfl, rfl, rfl, rfl⟩, rfl, rfl, rfl, rfl⟩ := smOB_rat k1
  exact floor_ok ha va _ _ _ _ _ _
 ·exact call3 (lwFloorR _ _ _ _ _ _ _ _ _ _ _ _ _ _ _ _ _ _ _ ⟨h, fun _ => rfl, fun k => absurd k1 k⟩)
end Go.Av
