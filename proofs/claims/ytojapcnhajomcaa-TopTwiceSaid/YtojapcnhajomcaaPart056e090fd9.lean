/- PART 5 of the texts of a claim, joined by a program: what each part shows stands at its head. -/
import Derived.Test.YtojapcnhajomcaaPart1d019ff7f4
import Derived.RangeFuncIn

namespace Go.Av
open Go.Proofs
set_option maxRecDepth 100000
noncomputable abbrev ZaL:=ag [vi 0,vi 0,vi 0,vi 0,vi 0,vi 0,vi 0,vi 0,vi 0,vi 0,vi 0,vi 0,vi 0,vi 0,vi 0,vi 0,vi 0,vi 0,AV.vnil]
noncomputable abbrev Zd6 (A:Int) (B:Int) (C:Int) (D:Int) (E:Int) (F:Int) (G:Int) (I:Int) (J:Int) (K:Int) (ex:Int) (ux:Int) (N:Int) (ey:Int) (uy:Int) (O:Int) (R:Int) (T:Int) (U:Int) (V:Int) (Y:Int) (Z:Int):=bif A==A&&(B==B&&(C==C&&true))&&(D==D&&(E==E&&(F==F&&true))&&(G==G&&(I==I&&(J==J&&true))&&(K+(ex+ux-ex)+(ex+ux-(ex+ux))==K+(ex+ux-ex)&&(N+(ey+uy-ey)+(ey+uy-(ey+uy))==N+(ey+uy-ey)&&(O==O&&true))&&(R==R&&(T==T&&(U==U&&true))&&(V==V&&(Y==Y&&(Z==Z&&true))&&true))))) then K+(ex+ux-ex)==K+ux&&(N+(ey+uy-ey)==N+uy&&(O==O+0&&true)) else false
noncomputable abbrev Zda (N:Int) (K:Int):=bif decide ((if N>K then N else K)>1000000) then true else decide ((if N<K then N else K) < -1000000)
noncomputable abbrev zNpP25 (A:Int) (B:Int) (C:Int) (D:Int) (E:Int) (F:Int) (G:Int) (I:Int) (J:Int) (K:Int) (ex:Int) (ux:Int) (N:Int) (ey:Int) (uy:Int) (O:Int) (R:Int) (T:Int) (U:Int) (V:Int) (Y:Int) (Z:Int):=bif bif A==A&&(B==B&&(C==C&&true))&&(D==D&&(E==E&&(F==F&&true))&&(G==G&&(I==I&&(J==J&&true))&&(K+(ex+ux-ex)+(ex+ux-(ex+ux))==K+(ex+ux-ex)&&(N+(ey+uy-ey)+(ey+uy-(ey+uy))==N+(ey+uy-ey)&&(O==O&&true))&&(R==R&&(T==T&&(U==U&&true))&&(V==V&&(Y==Y&&(Z==Z&&true))&&true))))) then K+(ex+ux-ex)==K+ux&&(N+(ey+uy-ey)==N+uy&&(O==O+0&&true)) else false then K+(ex+ux-ex)+(ex+ux-ex)==K+(ex+ux-ex)+ux&&(N+(ey+uy-ey)+(ey+uy-ey)==N+(ey+uy-ey)+uy&&(O==O+0&&true)) else false
noncomputable abbrev zNpP26 (K:Int) (ex:Int) (ux:Int) (N:Int) (ey:Int) (uy:Int) (O:Int):=ag [vi (K+(ex+ux-ex)+ux),vi (N+(ey+uy-ey)+uy),vi (O+0)]
noncomputable abbrev zNpP27 (K:Int) (ex:Int) (ux:Int) (N:Int) (ey:Int) (uy:Int) (O:Int):=Sp.pP (K+(ex+ux-ex)+(ex-(ex+ux))) (N+(ey+uy-ey)+(ey-(ey+uy))) O
noncomputable abbrev zNpP28 (K:Int) (ux:Int) (N:Int) (uy:Int) (O:Int):=ag [vi (K+ux),vi (N+uy),vi (O+0)]
theorem lwTwC3 (f:Bool) (l:List Ln) (A B C D E F G I J K N O R T U V Y Z:Int) (ex ey ux uy s r:Int) (g:Bool) (X:List AV)  (dq:AV) (H :
  ((((if N > K then N else K) > 1000000) \/ ((if N < K then N else K) < -1000000)) -> vb true = dq) /\
  (¬(((if N > K then N else K) > 1000000) \/ ((if N < K then N else K) < -1000000)) -> (-9223372036854775808 <= ex /\ ex <= 9223372036854775807) /\
   (-9223372036854775808 <= ey /\ ey <= 9223372036854775807) /\
   (-9223372036854775808 <= ux /\ ux <= 9223372036854775807) /\
   (-9223372036854775808 <= ex + ux /\ ex + ux <= 9223372036854775807) /\
   (-9223372036854775808 <= uy /\ uy <= 9223372036854775807) /\
   (-9223372036854775808 <= ey + uy /\ ey + uy <= 9223372036854775807) /\
   (Sp.few l.length 1000000) /\
   ((Sp.pP (K + (ex + ux - ex)) (N + (ey + uy - ey)) O) -> ((Sp.tv A B C D E F G I J K N O R T U V Y Z l = 0 /\ Sp.few l.length 1000000) /\ (Sp.pM ex /\ Sp.pM ey) /\ Sp.pM (ex + ux) /\ Sp.pM (ey + uy)) /\
    ((Sp.pP (K + (ex + ux - ex) + (ex + ux - (ex + ux))) (N + (ey + uy - ey) + (ey + uy - (ey + uy))) O) -> ((Sp.tv A B C D E F G I J (K + (ex + ux - ex)) (N + (ey + uy - ey)) O R T U V Y Z l = 0 /\ Sp.few l.length 1000000) /\ (Sp.pM (ex + ux) /\ Sp.pM (ey + uy)) /\ Sp.pM (ex + ux) /\ Sp.pM (ey + uy)) /\
     ((Sp.pP (K + (ex + ux - ex) + (ex + ux - ex)) (N + (ey + uy - ey) + (ey + uy - ey)) O) -> ((Sp.tv A B C D E F G I J (K + (ex + ux - ex)) (N + (ey + uy - ey)) O R T U V Y Z l = 0 /\ Sp.few l.length 1000000) /\ (Sp.pM ex /\ Sp.pM ey) /\ Sp.pM (ex + ux) /\ Sp.pM (ey + uy)) /\
      ((Sp.pP (K + (ex + ux - ex) + (ex - (ex + ux))) (N + (ey + uy - ey) + (ey - (ey + uy))) O) -> ((Sp.tv A B C D E F G I J (K + (ex + ux - ex)) (N + (ey + uy - ey)) O R T U V Y Z l = 0 /\ Sp.few l.length 1000000) /\ (Sp.pM (ex + ux) /\ Sp.pM (ey + uy)) /\ Sp.pM ex /\ Sp.pM ey) /\
       ((((A = A) /\ ((B = B) /\ (C = C))) /\ (((D = D) /\ ((E = E) /\ (F = F))) /\ (((G = G) /\ ((I = I) /\ (J = J))) /\ (((K + (ex + ux - ex) + (ex + ux - (ex + ux)) = K + (ex + ux - ex)) /\ ((N + (ey + uy - ey) + (ey + uy - (ey + uy)) = N + (ey + uy - ey)) /\ (O = O))) /\ (((R = R) /\ ((T = T) /\ (U = U))) /\ ((V = V) /\ ((Y = Y) /\ (Z = Z)))))))) -> ((Sp.ZaI K /\ Sp.ZaI N /\ Sp.ZaI O) /\ Sp.ZaI ux /\ Sp.ZaI uy /\ Sp.ZaI 0)) /\
       (((((A = A) /\ ((B = B) /\ (C = C))) /\ (((D = D) /\ ((E = E) /\ (F = F))) /\ (((G = G) /\ ((I = I) /\ (J = J))) /\ (((K + (ex + ux - ex) + (ex + ux - (ex + ux)) = K + (ex + ux - ex)) /\ ((N + (ey + uy - ey) + (ey + uy - (ey + uy)) = N + (ey + uy - ey)) /\ (O = O))) /\ (((R = R) /\ ((T = T) /\ (U = U))) /\ ((V = V) /\ ((Y = Y) /\ (Z = Z)))))))) /\ ((K + (ex + ux - ex) = K + ux) /\ ((N + (ey + uy - ey) = N + uy) /\ (O = O + 0)))) -> ((Sp.ZaI (K + (ex + ux - ex)) /\ Sp.ZaI (N + (ey + uy - ey)) /\ Sp.ZaI O) /\ Sp.ZaI ux /\ Sp.ZaI uy /\ Sp.ZaI 0)) /\
       vb (bif bif bif A == A && (B == B && (C == C && true)) && (D == D && (E == E && (F == F && true)) && (G == G && (I == I && (J == J && true)) && (K + (ex + ux - ex) + (ex + ux - (ex + ux)) == K + (ex + ux - ex) && (N + (ey + uy - ey) + (ey + uy - (ey + uy)) == N + (ey + uy - ey) && (O == O && true)) && (R == R && (T == T && (U == U && true)) && (V == V && (Y == Y && (Z == Z && true)) && true))))) then K + (ex + ux - ex) == K + ux && (N + (ey + uy - ey) == N + uy && (O == O + 0 && true)) else false then K + (ex + ux - ex) + (ex + ux - ex) == K + (ex + ux - ex) + ux && (N + (ey + uy - ey) + (ey + uy - ey) == N + (ey + uy - ey) + uy && (O == O + 0 && true)) else false then A == A && (B == B && (C == C && true)) && (D == D && (E == E && (F == F && true)) && (G == G && (I == I && (J == J && true)) && (K + (ex + ux - ex) + (ex - (ex + ux)) == K && (N + (ey + uy - ey) + (ey - (ey + uy)) == N && (O == O && true)) && (R == R && (T == T && (U == U && true)) && (V == V && (Y == Y && (Z == Z && true)) && true))))) else false) = dq) /\
      (¬(Sp.pP (K + (ex + ux - ex) + (ex - (ex + ux))) (N + (ey + uy - ey) + (ey - (ey + uy))) O) -> ((Sp.tv A B C D E F G I J (K + (ex + ux - ex)) (N + (ey + uy - ey)) O R T U V Y Z l = 0 /\ Sp.few l.length 1000000) /\ (Sp.pM (ex + ux) /\ Sp.pM (ey + uy)) /\ Sp.pM ex /\ Sp.pM ey) /\
       vb false = dq)) /\
     (¬(Sp.pP (K + (ex + ux - ex) + (ex + ux - ex)) (N + (ey + uy - ey) + (ey + uy - ey)) O) -> ((Sp.tv A B C D E F G I J (K + (ex + ux - ex)) (N + (ey + uy - ey)) O R T U V Y Z l = 0 /\ Sp.few l.length 1000000) /\ (Sp.pM ex /\ Sp.pM ey) /\ Sp.pM (ex + ux) /\ Sp.pM (ey + uy)) /\
      ((Sp.pP (K + (ex + ux - ex) + (ex - (ex + ux))) (N + (ey + uy - ey) + (ey - (ey + uy))) O) -> ((Sp.tv A B C D E F G I J (K + (ex + ux - ex)) (N + (ey + uy - ey)) O R T U V Y Z l = 0 /\ Sp.few l.length 1000000) /\ (Sp.pM (ex + ux) /\ Sp.pM (ey + uy)) /\ Sp.pM ex /\ Sp.pM ey) /\
       vb false = dq) /\
      (¬(Sp.pP (K + (ex + ux - ex) + (ex - (ex + ux))) (N + (ey + uy - ey) + (ey - (ey + uy))) O) -> ((Sp.tv A B C D E F G I J (K + (ex + ux - ex)) (N + (ey + uy - ey)) O R T U V Y Z l = 0 /\ Sp.few l.length 1000000) /\ (Sp.pM (ex + ux) /\ Sp.pM (ey + uy)) /\ Sp.pM ex /\ Sp.pM ey) /\
       vb false = dq))) /\
    (¬(Sp.pP (K + (ex + ux - ex) + (ex + ux - (ex + ux))) (N + (ey + uy - ey) + (ey + uy - (ey + uy))) O) -> ((Sp.tv A B C D E F G I J (K + (ex + ux - ex)) (N + (ey + uy - ey)) O R T U V Y Z l = 0 /\ Sp.few l.length 1000000) /\ (Sp.pM (ex + ux) /\ Sp.pM (ey + uy)) /\ Sp.pM (ex + ux) /\ Sp.pM (ey + uy)) /\
     ((Sp.pP (K + (ex + ux - ex) + (ex + ux - ex)) (N + (ey + uy - ey) + (ey + uy - ey)) O) -> ((Sp.tv A B C D E F G I J (K + (ex + ux - ex)) (N + (ey + uy - ey)) O R T U V Y Z l = 0 /\ Sp.few l.length 1000000) /\ (Sp.pM ex /\ Sp.pM ey) /\ Sp.pM (ex + ux) /\ Sp.pM (ey + uy)) /\
      ((Sp.pP (K + (ex + ux - ex) + (ex - (ex + ux))) (N + (ey + uy - ey) + (ey - (ey + uy))) O) -> ((Sp.tv A B C D E F G I J (K + (ex + ux - ex)) (N + (ey + uy - ey)) O R T U V Y Z l = 0 /\ Sp.few l.length 1000000) /\ (Sp.pM (ex + ux) /\ Sp.pM (ey + uy)) /\ Sp.pM ex /\ Sp.pM ey) /\
       vb false = dq) /\
      (¬(Sp.pP (K + (ex + ux - ex) + (ex - (ex + ux))) (N + (ey + uy - ey) + (ey - (ey + uy))) O) -> ((Sp.tv A B C D E F G I J (K + (ex + ux - ex)) (N + (ey + uy - ey)) O R T U V Y Z l = 0 /\ Sp.few l.length 1000000) /\ (Sp.pM (ex + ux) /\ Sp.pM (ey + uy)) /\ Sp.pM ex /\ Sp.pM ey) /\
       vb false = dq)) /\
     (¬(Sp.pP (K + (ex + ux - ex) + (ex + ux - ex)) (N + (ey + uy - ey) + (ey + uy - ey)) O) -> ((Sp.tv A B C D E F G I J (K + (ex + ux - ex)) (N + (ey + uy - ey)) O R T U V Y Z l = 0 /\ Sp.few l.length 1000000) /\ (Sp.pM ex /\ Sp.pM ey) /\ Sp.pM (ex + ux) /\ Sp.pM (ey + uy)) /\
      ((Sp.pP (K + (ex + ux - ex) + (ex - (ex + ux))) (N + (ey + uy - ey) + (ey - (ey + uy))) O) -> ((Sp.tv A B C D E F G I J (K + (ex + ux - ex)) (N + (ey + uy - ey)) O R T U V Y Z l = 0 /\ Sp.few l.length 1000000) /\ (Sp.pM (ex + ux) /\ Sp.pM (ey + uy)) /\ Sp.pM ex /\ Sp.pM ey) /\
       vb false = dq) /\
      (¬(Sp.pP (K + (ex + ux - ex) + (ex - (ex + ux))) (N + (ey + uy - ey) + (ey - (ey + uy))) O) -> ((Sp.tv A B C D E F G I J (K + (ex + ux - ex)) (N + (ey + uy - ey)) O R T U V Y Z l = 0 /\ Sp.few l.length 1000000) /\ (Sp.pM (ex + ux) /\ Sp.pM (ey + uy)) /\ Sp.pM ex /\ Sp.pM ey) /\
       vb false = dq)))) /\
   (¬(Sp.pP (K + (ex + ux - ex)) (N + (ey + uy - ey)) O) -> ((Sp.tv A B C D E F G I J K N O R T U V Y Z l = 0 /\ Sp.few l.length 1000000) /\ (Sp.pM ex /\ Sp.pM ey) /\ Sp.pM (ex + ux) /\ Sp.pM (ey + uy)) /\
    ∃ (x1:Pp) (x2:Pp) (x3:Pp) (x4:Pp) (x5:Pp) (x6:Pp) (l1:List (Ln)) (n1:Int),
    (Ev M1 (Conf.pure 27 [ag [vi 0,vi 0,vi 0,vi 0,vi 0,vi 0,vi 0,vi 0,vi 0,vi 0,vi 0,vi 0,vi 0,vi 0,vi 0,vi 0,vi 0,vi 0,AV.vnil],vi 57000,ag [vi (ex + ux),vi (ey + uy)],ag [vi (ex + ux),vi (ey + uy)]]) (tu [ag [vi x1.x,vi x1.y,vi x1.z,vi x2.x,vi x2.y,vi x2.z,vi x3.x,vi x3.y,vi x3.z,vi x4.x,vi x4.y,vi x4.z,vi x5.x,vi x5.y,vi x5.z,vi x6.x,vi x6.y,vi x6.z,AV.vec false 2 (List.map Ln.a l1)],vi n1]) []) /\
    ∃ (x7:Pp) (x8:Pp) (x9:Pp) (x10:Pp) (x11:Pp) (x12:Pp) (l2:List (Ln)) (n2:Int),
    (Ev M1 (Conf.pure 27 [ag [vi 0,vi 0,vi 0,vi 0,vi 0,vi 0,vi 0,vi 0,vi 0,vi 0,vi 0,vi 0,vi 0,vi 0,vi 0,vi 0,vi 0,vi 0,AV.vnil],vi 57000,ag [vi ex,vi ey],ag [vi (ex + ux),vi (ey + uy)]]) (tu [ag [vi x7.x,vi x7.y,vi x7.z,vi x8.x,vi x8.y,vi x8.z,vi x9.x,vi x9.y,vi x9.z,vi x10.x,vi x10.y,vi x10.z,vi x11.x,vi x11.y,vi x11.z,vi x12.x,vi x12.y,vi x12.z,AV.vec false 2 (List.map Ln.a l2)],vi n2]) []) /\
    ∃ (x13:Pp) (x14:Pp) (x15:Pp) (x16:Pp) (x17:Pp) (x18:Pp) (l3:List (Ln)) (n3:Int),
    (Ev M1 (Conf.pure 27 [ag [vi 0,vi 0,vi 0,vi 0,vi 0,vi 0,vi 0,vi 0,vi 0,vi 0,vi 0,vi 0,vi 0,vi 0,vi 0,vi 0,vi 0,vi 0,AV.vnil],vi 57000,ag [vi (ex + ux),vi (ey + uy)],ag [vi ex,vi ey]]) (tu [ag [vi x13.x,vi x13.y,vi x13.z,vi x14.x,vi x14.y,vi x14.z,vi x15.x,vi x15.y,vi x15.z,vi x16.x,vi x16.y,vi x16.z,vi x17.x,vi x17.y,vi x17.z,vi x18.x,vi x18.y,vi x18.z,AV.vec false 2 (List.map Ln.a l3)],vi n3]) []) /\
    vb false = dq))) :
 ZeQ f l A B C D E F G I J K N O R T U V Y Z ex ey ux uy s r g X (Zak dq):=by
 unfold ZeQ
 rcases xq H with ⟨d2,H⟩|⟨d2,H⟩
 ·exact Zae (G:=Zad kp5 [] []) 1000 [true] (asm:=[true,true,true,true,true,true,!(decide ((if N > K then N else K) > 1000000) == false && true) || true,!(decide ((if N > K then N else K) > 1000000) == false && true) || true,!(decide ((if N > K then N else K) > 1000000) == false && true) || true,!(decide ((if N > K then N else K) > 1000000) == false && true) || true,!(decide ((if N > K then N else K) > 1000000) == false && true) || true,!(decide ((if N > K then N else K) > 1000000) == false && true) || true,(Zda N K) == true]) (vb true) (by kernel_rfl) (bc rfl (bc rfl (bc rfl (bc rfl (bc rfl (bc rfl (bc (Bool.or_true _) (bc (Bool.or_true _) (bc (Bool.or_true _) (bc (Bool.or_true _) (bc (Bool.or_true _) (bc (Bool.or_true _) (bc (ZaG ((Zag Zaa Zaa).2 d2)) b0))))))))))))) q0 c0 H
 ·obtain ⟨k3,H⟩:=H
  have w4:wi ex = ex:=wI64 k3
  obtain ⟨k5,H⟩:=H
  have w6:wi ey = ey:=wI64 k5
  obtain ⟨k7,H⟩:=H
  have w8:wi ux = ux:=wI64 k7
  obtain ⟨k9,H⟩:=H
  have w10:wi (ex + ux) = ex + ux:=wI64 k9
  obtain ⟨k11,H⟩:=H
  have w12:wi uy = uy:=wI64 k11
  obtain ⟨k13,H⟩:=H
  have w14:wi (ey + uy) = ey + uy:=wI64 k13
  obtain ⟨k15,H⟩:=H
  rcases xq H with ⟨d16,H⟩|⟨d16,H⟩
  ·obtain ⟨k17,H⟩:=H
   rcases xq H with ⟨d18,H⟩|⟨d18,H⟩
   ·obtain ⟨k19,H⟩:=H
    rcases xq H with ⟨d20,H⟩|⟨d20,H⟩
    ·obtain ⟨k21,H⟩:=H
     rcases xq H with ⟨d22,H⟩|⟨d22,H⟩
     ·obtain ⟨k23,k25,k27,H⟩:=H
      exact Zae (G:=Zad kp5 [(9,1,.call (ag [vi A,vi B,vi C,vi D,vi E,vi F,vi G,vi I,vi J,vi K,vi N,vi O,vi R,vi T,vi U,vi V,vi Y,vi Z,AV.vec false 2 (List.map Ln.a l)]) none),(9,5,.call (tu [ag [vi A,vi B,vi C,vi D,vi E,vi F,vi G,vi I,vi J,vi (K + (ex + ux - ex)),vi (N + (ey + uy - ey)),vi O,vi R,vi T,vi U,vi V,vi Y,vi Z,AV.vec false 2 (List.map Ln.a l)],vi 0]) none),(10,4,.call (tu [ag [vi A,vi B,vi C,vi D,vi E,vi F,vi G,vi I,vi J,vi (K + (ex + ux - ex) + (ex + ux - (ex + ux))),vi (N + (ey + uy - ey) + (ey + uy - (ey + uy))),vi O,vi R,vi T,vi U,vi V,vi Y,vi Z,AV.vec false 2 (List.map Ln.a l)],vi 0]) none),(11,4,.call (tu [ag [vi A,vi B,vi C,vi D,vi E,vi F,vi G,vi I,vi J,vi (K + (ex + ux - ex) + (ex + ux - ex)),vi (N + (ey + uy - ey) + (ey + uy - ey)),vi O,vi R,vi T,vi U,vi V,vi Y,vi Z,AV.vec false 2 (List.map Ln.a l)],vi 0]) none),(12,4,.call (tu [ag [vi A,vi B,vi C,vi D,vi E,vi F,vi G,vi I,vi J,vi (K + (ex + ux - ex) + (ex - (ex + ux))),vi (N + (ey + uy - ey) + (ey - (ey + uy))),vi O,vi R,vi T,vi U,vi V,vi Y,vi Z,AV.vec false 2 (List.map Ln.a l)],vi 0]) none),(16,15,.call ((zNpP28 K ux N uy O)) none),(16,28,.call ((zNpP26 K ex ux N ey uy O)) none)] []) 1000 [false,false] (asm:=[true,true,true,true,true,true,!(decide ((if N > K then N else K) > 1000000) == false && true) || true,!(decide ((if N > K then N else K) > 1000000) == false && true) || true,!(decide ((if N > K then N else K) > 1000000) == false && true) || true,!(decide ((if N > K then N else K) > 1000000) == false && true) || true,!(decide ((if N > K then N else K) > 1000000) == false && true) || true,!(decide ((if N > K then N else K) > 1000000) == false && true) || true,(Zda N K) == false,true,true,true,true,true,true,true,true,true,true,true,true,true,true,true,true,true,true,true,true,true,true,true,true,true,true,true,true,true,true,true,true,false == false,true,true,true,true,true,true,true,true,true,!((A == A && (B == B && (C == C && true)) && (D == D && (E == E && (F == F && true)) && (G == G && (I == I && (J == J && true)) && (K + (ex + ux - ex) + (ex + ux - (ex + ux)) == K + (ex + ux - ex) && (N + (ey + uy - ey) + (ey + uy - (ey + uy)) == N + (ey + uy - ey) && (O == O && true)) && (R == R && (T == T && (U == U && true)) && (V == V && (Y == Y && (Z == Z && true)) && true)))))) == true && true) || true,!((A == A && (B == B && (C == C && true)) && (D == D && (E == E && (F == F && true)) && (G == G && (I == I && (J == J && true)) && (K + (ex + ux - ex) + (ex + ux - (ex + ux)) == K + (ex + ux - ex) && (N + (ey + uy - ey) + (ey + uy - (ey + uy)) == N + (ey + uy - ey) && (O == O && true)) && (R == R && (T == T && (U == U && true)) && (V == V && (Y == Y && (Z == Z && true)) && true)))))) == true && true) || true,!((A == A && (B == B && (C == C && true)) && (D == D && (E == E && (F == F && true)) && (G == G && (I == I && (J == J && true)) && (K + (ex + ux - ex) + (ex + ux - (ex + ux)) == K + (ex + ux - ex) && (N + (ey + uy - ey) + (ey + uy - (ey + uy)) == N + (ey + uy - ey) && (O == O && true)) && (R == R && (T == T && (U == U && true)) && (V == V && (Y == Y && (Z == Z && true)) && true)))))) == true && true) || true,!((A == A && (B == B && (C == C && true)) && (D == D && (E == E && (F == F && true)) && (G == G && (I == I && (J == J && true)) && (K + (ex + ux - ex) + (ex + ux - (ex + ux)) == K + (ex + ux - ex) && (N + (ey + uy - ey) + (ey + uy - (ey + uy)) == N + (ey + uy - ey) && (O == O && true)) && (R == R && (T == T && (U == U && true)) && (V == V && (Y == Y && (Z == Z && true)) && true)))))) == true && true) || true,!((A == A && (B == B && (C == C && true)) && (D == D && (E == E && (F == F && true)) && (G == G && (I == I && (J == J && true)) && (K + (ex + ux - ex) + (ex + ux - (ex + ux)) == K + (ex + ux - ex) && (N + (ey + uy - ey) + (ey + uy - (ey + uy)) == N + (ey + uy - ey) && (O == O && true)) && (R == R && (T == T && (U == U && true)) && (V == V && (Y == Y && (Z == Z && true)) && true)))))) == true && true) || true,!((A == A && (B == B && (C == C && true)) && (D == D && (E == E && (F == F && true)) && (G == G && (I == I && (J == J && true)) && (K + (ex + ux - ex) + (ex + ux - (ex + ux)) == K + (ex + ux - ex) && (N + (ey + uy - ey) + (ey + uy - (ey + uy)) == N + (ey + uy - ey) && (O == O && true)) && (R == R && (T == T && (U == U && true)) && (V == V && (Y == Y && (Z == Z && true)) && true)))))) == true && true) || true,!((A == A && (B == B && (C == C && true)) && (D == D && (E == E && (F == F && true)) && (G == G && (I == I && (J == J && true)) && (K + (ex + ux - ex) + (ex + ux - (ex + ux)) == K + (ex + ux - ex) && (N + (ey + uy - ey) + (ey + uy - (ey + uy)) == N + (ey + uy - ey) && (O == O && true)) && (R == R && (T == T && (U == U && true)) && (V == V && (Y == Y && (Z == Z && true)) && true)))))) == true && true) || true,!((Zd6 A B C D E F G I J K ex ux N ey uy O R T U V Y Z) == true && true) || true,!((Zd6 A B C D E F G I J K ex ux N ey uy O R T U V Y Z) == true && true) || true,!((Zd6 A B C D E F G I J K ex ux N ey uy O R T U V Y Z) == true && true) || true,!((Zd6 A B C D E F G I J K ex ux N ey uy O R T U V Y Z) == true && true) || true,!((Zd6 A B C D E F G I J K ex ux N ey uy O R T U V Y Z) == true && true) || true,!((Zd6 A B C D E F G I J K ex ux N ey uy O R T U V Y Z) == true && true) || true,!((Zd6 A B C D E F G I J K ex ux N ey uy O R T U V Y Z) == true && true) || true,!((zNpP25 A B C D E F G I J K ex ux N ey uy O R T U V Y Z) == true && true) || true,!((zNpP25 A B C D E F G I J K ex ux N ey uy O R T U V Y Z) == true && true) || true]) (calls:=[⟨true,false,28,[ag [vi A,vi B,vi C,vi D,vi E,vi F,vi G,vi I,vi J,vi K,vi N,vi O,vi R,vi T,vi U,vi V,vi Y,vi Z,AV.vec f 2 (List.map Ln.a l)]],[],ag [vi A,vi B,vi C,vi D,vi E,vi F,vi G,vi I,vi J,vi K,vi N,vi O,vi R,vi T,vi U,vi V,vi Y,vi Z,AV.vec false 2 (List.map Ln.a l)],[]⟩,⟨true,false,27,[ag [vi A,vi B,vi C,vi D,vi E,vi F,vi G,vi I,vi J,vi K,vi N,vi O,vi R,vi T,vi U,vi V,vi Y,vi Z,AV.vec false 2 (List.map Ln.a l)],vi 57000,ag [vi (wi ex),vi (wi ey)],ag [vi (wi (wi ex + wi ux)),vi (wi (wi ey + wi uy))]],[],tu [ag [vi A,vi B,vi C,vi D,vi E,vi F,vi G,vi I,vi J,vi (K + (ex + ux - ex)),vi (N + (ey + uy - ey)),vi O,vi R,vi T,vi U,vi V,vi Y,vi Z,AV.vec false 2 (List.map Ln.a l)],vi 0],[]⟩,⟨true,false,27,[ag [vi A,vi B,vi C,vi D,vi E,vi F,vi G,vi I,vi J,vi (K + (ex + ux - ex)),vi (N + (ey + uy - ey)),vi O,vi R,vi T,vi U,vi V,vi Y,vi Z,AV.vec false 2 (List.map Ln.a l)],vi 57000,ag [vi (wi (wi ex + wi ux)),vi (wi (wi ey + wi uy))],ag [vi (wi (wi ex + wi ux)),vi (wi (wi ey + wi uy))]],[],tu [ag [vi A,vi B,vi C,vi D,vi E,vi F,vi G,vi I,vi J,vi (K + (ex + ux - ex) + (ex + ux - (ex + ux))),vi (N + (ey + uy - ey) + (ey + uy - (ey + uy))),vi O,vi R,vi T,vi U,vi V,vi Y,vi Z,AV.vec false 2 (List.map Ln.a l)],vi 0],[]⟩,⟨true,false,27,[ag [vi A,vi B,vi C,vi D,vi E,vi F,vi G,vi I,vi J,vi (K + (ex + ux - ex)),vi (N + (ey + uy - ey)),vi O,vi R,vi T,vi U,vi V,vi Y,vi Z,AV.vec false 2 (List.map Ln.a l)],vi 57000,ag [vi (wi ex),vi (wi ey)],ag [vi (wi (wi ex + wi ux)),vi (wi (wi ey + wi uy))]],[],tu [ag [vi A,vi B,vi C,vi D,vi E,vi F,vi G,vi I,vi J,vi (K + (ex + ux - ex) + (ex + ux - ex)),vi (N + (ey + uy - ey) + (ey + uy - ey)),vi O,vi R,vi T,vi U,vi V,vi Y,vi Z,AV.vec false 2 (List.map Ln.a l)],vi 0],[]⟩,⟨true,false,27,[ag [vi A,vi B,vi C,vi D,vi E,vi F,vi G,vi I,vi J,vi (K + (ex + ux - ex)),vi (N + (ey + uy - ey)),vi O,vi R,vi T,vi U,vi V,vi Y,vi Z,AV.vec false 2 (List.map Ln.a l)],vi 57000,ag [vi (wi (wi ex + wi ux)),vi (wi (wi ey + wi uy))],ag [vi (wi ex),vi (wi ey)]],[],tu [ag [vi A,vi B,vi C,vi D,vi E,vi F,vi G,vi I,vi J,vi (K + (ex + ux - ex) + (ex - (ex + ux))),vi (N + (ey + uy - ey) + (ey - (ey + uy))),vi O,vi R,vi T,vi U,vi V,vi Y,vi Z,AV.vec false 2 (List.map Ln.a l)],vi 0],[]⟩,⟨(A == A && (B == B && (C == C && true)) && (D == D && (E == E && (F == F && true)) && (G == G && (I == I && (J == J && true)) && (K + (ex + ux - ex) + (ex + ux - (ex + ux)) == K + (ex + ux - ex) && (N + (ey + uy - ey) + (ey + uy - (ey + uy)) == N + (ey + uy - ey) && (O == O && true)) && (R == R && (T == T && (U == U && true)) && (V == V && (Y == Y && (Z == Z && true)) && true)))))) == true && true && true,false,29,[ag [vi K,vi N,vi O],ag [vi (wi ux),vi (wi uy),vi 0]],[],(zNpP28 K ux N uy O),[]⟩,⟨(Zd6 A B C D E F G I J K ex ux N ey uy O R T U V Y Z) == true && true && true,false,29,[ag [vi (K + (ex + ux - ex)),vi (N + (ey + uy - ey)),vi O],ag [vi (wi ux),vi (wi uy),vi 0]],[],(zNpP26 K ex ux N ey uy O),[]⟩]) (vb (bif bif bif A == A && (B == B && (C == C && true)) && (D == D && (E == E && (F == F && true)) && (G == G && (I == I && (J == J && true)) && (K + (ex + ux - ex) + (ex + ux - (ex + ux)) == K + (ex + ux - ex) && (N + (ey + uy - ey) + (ey + uy - (ey + uy)) == N + (ey + uy - ey) && (O == O && true)) && (R == R && (T == T && (U == U && true)) && (V == V && (Y == Y && (Z == Z && true)) && true))))) then K + (ex + ux - ex) == K + ux && (N + (ey + uy - ey) == N + uy && (O == O + 0 && true)) else false then K + (ex + ux - ex) + (ex + ux - ex) == K + (ex + ux - ex) + ux && (N + (ey + uy - ey) + (ey + uy - ey) == N + (ey + uy - ey) + uy && (O == O + 0 && true)) else false then A == A && (B == B && (C == C && true)) && (D == D && (E == E && (F == F && true)) && (G == G && (I == I && (J == J && true)) && (K + (ex + ux - ex) + (ex - (ex + ux)) == K && (N + (ey + uy - ey) + (ey - (ey + uy)) == N && (O == O && true)) && (R == R && (T == T && (U == U && true)) && (V == V && (Y == Y && (Z == Z && true)) && true))))) else false)) (by kernel_rfl) (bc rfl (bc rfl (bc rfl (bc rfl (bc rfl (bc rfl (bc (Bool.or_true _) (bc (Bool.or_true _) (bc (Bool.or_true _) (bc (Bool.or_true _) (bc (Bool.or_true _) (bc (Bool.or_true _) (bc (Zaj (fun h => d2 ((Zag Zaa Zaa).1 h))) (bc rfl (bc rfl (bc rfl (bc rfl (bc rfl (bc rfl (bc rfl (bc rfl (bc rfl (bc rfl (bc rfl (bc rfl (bc rfl (bc rfl (bc rfl (bc rfl (bc rfl (bc rfl (bc rfl (bc rfl (bc rfl (bc rfl (bc rfl (bc rfl (bc rfl (bc rfl (bc rfl (bc rfl (bc rfl (bc rfl (bc rfl (bc rfl (bc rfl (bc rfl (bc rfl (bc rfl (bc rfl (bc rfl (bc rfl (bc rfl (bc rfl (bc rfl (bc (Bool.or_true _) (bc (Bool.or_true _) (bc (Bool.or_true _) (bc (Bool.or_true _) (bc (Bool.or_true _) (bc (Bool.or_true _) (bc (Bool.or_true _) (bc (Bool.or_true _) (bc (Bool.or_true _) (bc (Bool.or_true _) (bc (Bool.or_true _) (bc (Bool.or_true _) (bc (Bool.or_true _) (bc (Bool.or_true _) (bc (Bool.or_true _) (bc (Bool.or_true _) b0))))))))))))))))))))))))))))))))))))))))))))))))))))))))))))))))))))))) q0 (cc (fun _ => (@ev28 (f) (l) (A) (B) (C) (D) (E) (F) (G) (I) (J) (K) (N) (O) (R) (T) (U) (V) (Y) (Z) k15)) (cc (fun _ => (by (try rw [w4]);(try rw [w6]);(try rw [w8]);(try rw [w10]);(try rw [w12]);(try rw [w14]);all_goals exact (@ZaT (false) (l) (A) (B) (C) (D) (E) (F) (G) (I) (J) (K) (N) (O) (R) (T) (U) (V) (Y) (Z) (ex) (ey) (ex + ux) (ey + uy) k17 d16))) (cc (fun _ => (by (try rw [w4]);(try rw [w6]);(try rw [w8]);(try rw [w10]);(try rw [w12]);(try rw [w14]);all_goals exact (@ZaT (false) (l) (A) (B) (C) (D) (E) (F) (G) (I) (J) (K + (ex + ux - ex)) (N + (ey + uy - ey)) (O) (R) (T) (U) (V) (Y) (Z) (ex + ux) (ey + uy) (ex + ux) (ey + uy) k19 d18))) (cc (fun _ => (by (try rw [w4]);(try rw [w6]);(try rw [w8]);(try rw [w10]);(try rw [w12]);(try rw [w14]);all_goals exact (@ZaT (false) (l) (A) (B) (C) (D) (E) (F) (G) (I) (J) (K + (ex + ux - ex)) (N + (ey + uy - ey)) (O) (R) (T) (U) (V) (Y) (Z) (ex) (ey) (ex + ux) (ey + uy) k21 d20))) (cc (fun _ => (by (try rw [w4]);(try rw [w6]);(try rw [w8]);(try rw [w10]);(try rw [w12]);(try rw [w14]);all_goals exact (@ZaT (false) (l) (A) (B) (C) (D) (E) (F) (G) (I) (J) (K + (ex + ux - ex)) (N + (ey + uy - ey)) (O) (R) (T) (U) (V) (Y) (Z) (ex + ux) (ey + uy) (ex) (ey) k23 d22))) (cc (fun hc => ((by (try rw [w8]);(try rw [w12]);all_goals exact (@ev29 (K) (N) (O) (ux) (uy) (0) (k25 ((i_at (i_at (i_bt (Zab (Zab i_eq (Zab i_eq (i_at i_eq))) (Zab (Zab i_eq (Zab i_eq (i_at i_eq))) (Zab (Zab i_eq (Zab i_eq (i_at i_eq))) (Zab (Zab i_eq (Zab i_eq (i_at i_eq))) (Zab (Zab i_eq (Zab i_eq (i_at i_eq))) (i_at (Zab i_eq (Zab i_eq (i_at i_eq)))))))))))).1 hc)))):Ev M1 (Conf.pure 29 [ag [vi K,vi N,vi O],ag [vi (wi ux),vi (wi uy),vi 0]]) ((zNpP28 K ux N uy O)) [])) (cc (fun hc => ((by (try rw [w8]);(try rw [w12]);all_goals exact (@ev29 (K + (ex + ux - ex)) (N + (ey + uy - ey)) (O) (ux) (uy) (0) (k27 ((i_at (i_at (i_bt (Zcy (Zab (Zab i_eq (Zab i_eq (i_at i_eq))) (Zab (Zab i_eq (Zab i_eq (i_at i_eq))) (Zab (Zab i_eq (Zab i_eq (i_at i_eq))) (Zab (Zab i_eq (Zab i_eq (i_at i_eq))) (Zab (Zab i_eq (Zab i_eq (i_at i_eq))) (i_at (Zab i_eq (Zab i_eq (i_at i_eq))))))))) (Zab i_eq (Zab i_eq (i_at i_eq))))))).1 hc)))):Ev M1 (Conf.pure 29 [ag [vi (K + (ex + ux - ex)),vi (N + (ey + uy - ey)),vi O],ag [vi (wi ux),vi (wi uy),vi 0]]) ((zNpP26 K ex ux N ey uy O)) [])) c0))))))) H
     ·obtain ⟨k28,H⟩:=H
      exact Zae (G:=Zad kp5 [(9,1,.call (ag [vi A,vi B,vi C,vi D,vi E,vi F,vi G,vi I,vi J,vi K,vi N,vi O,vi R,vi T,vi U,vi V,vi Y,vi Z,AV.vec false 2 (List.map Ln.a l)]) none),(9,5,.call (tu [ag [vi A,vi B,vi C,vi D,vi E,vi F,vi G,vi I,vi J,vi (K + (ex + ux - ex)),vi (N + (ey + uy - ey)),vi O,vi R,vi T,vi U,vi V,vi Y,vi Z,AV.vec false 2 (List.map Ln.a l)],vi 0]) none),(10,4,.call (tu [ag [vi A,vi B,vi C,vi D,vi E,vi F,vi G,vi I,vi J,vi (K + (ex + ux - ex) + (ex + ux - (ex + ux))),vi (N + (ey + uy - ey) + (ey + uy - (ey + uy))),vi O,vi R,vi T,vi U,vi V,vi Y,vi Z,AV.vec false 2 (List.map Ln.a l)],vi 0]) none),(11,4,.call (tu [ag [vi A,vi B,vi C,vi D,vi E,vi F,vi G,vi I,vi J,vi (K + (ex + ux - ex) + (ex + ux - ex)),vi (N + (ey + uy - ey) + (ey + uy - ey)),vi O,vi R,vi T,vi U,vi V,vi Y,vi Z,AV.vec false 2 (List.map Ln.a l)],vi 0]) none),(12,4,.call (tu [ZaL,vi 11]) none)] []) 1000 [false,true] (asm:=[true,true,true,true,true,true,!(decide ((if N > K then N else K) > 1000000) == false && true) || true,!(decide ((if N > K then N else K) > 1000000) == false && true) || true,!(decide ((if N > K then N else K) > 1000000) == false && true) || true,!(decide ((if N > K then N else K) > 1000000) == false && true) || true,!(decide ((if N > K then N else K) > 1000000) == false && true) || true,!(decide ((if N > K then N else K) > 1000000) == false && true) || true,(Zda N K) == false,true,true,true,true,true,true,true,true,true,true,true,true,true,true,true,true,true,true,true,true,true,true,true,true,true,true,true,true,true,true,true,true,true == true]) (calls:=[pc 28 [ag [vi A,vi B,vi C,vi D,vi E,vi F,vi G,vi I,vi J,vi K,vi N,vi O,vi R,vi T,vi U,vi V,vi Y,vi Z,AV.vec f 2 (List.map Ln.a l)]] (ag [vi A,vi B,vi C,vi D,vi E,vi F,vi G,vi I,vi J,vi K,vi N,vi O,vi R,vi T,vi U,vi V,vi Y,vi Z,AV.vec false 2 (List.map Ln.a l)]),pc 27 [ag [vi A,vi B,vi C,vi D,vi E,vi F,vi G,vi I,vi J,vi K,vi N,vi O,vi R,vi T,vi U,vi V,vi Y,vi Z,AV.vec false 2 (List.map Ln.a l)],vi 57000,ag [vi (wi ex),vi (wi ey)],ag [vi (wi (wi ex + wi ux)),vi (wi (wi ey + wi uy))]] (tu [ag [vi A,vi B,vi C,vi D,vi E,vi F,vi G,vi I,vi J,vi (K + (ex + ux - ex)),vi (N + (ey + uy - ey)),vi O,vi R,vi T,vi U,vi V,vi Y,vi Z,AV.vec false 2 (List.map Ln.a l)],vi 0]),pc 27 [ag [vi A,vi B,vi C,vi D,vi E,vi F,vi G,vi I,vi J,vi (K + (ex + ux - ex)),vi (N + (ey + uy - ey)),vi O,vi R,vi T,vi U,vi V,vi Y,vi Z,AV.vec false 2 (List.map Ln.a l)],vi 57000,ag [vi (wi (wi ex + wi ux)),vi (wi (wi ey + wi uy))],ag [vi (wi (wi ex + wi ux)),vi (wi (wi ey + wi uy))]] (tu [ag [vi A,vi B,vi C,vi D,vi E,vi F,vi G,vi I,vi J,vi (K + (ex + ux - ex) + (ex + ux - (ex + ux))),vi (N + (ey + uy - ey) + (ey + uy - (ey + uy))),vi O,vi R,vi T,vi U,vi V,vi Y,vi Z,AV.vec false 2 (List.map Ln.a l)],vi 0]),pc 27 [ag [vi A,vi B,vi C,vi D,vi E,vi F,vi G,vi I,vi J,vi (K + (ex + ux - ex)),vi (N + (ey + uy - ey)),vi O,vi R,vi T,vi U,vi V,vi Y,vi Z,AV.vec false 2 (List.map Ln.a l)],vi 57000,ag [vi (wi ex),vi (wi ey)],ag [vi (wi (wi ex + wi ux)),vi (wi (wi ey + wi uy))]] (tu [ag [vi A,vi B,vi C,vi D,vi E,vi F,vi G,vi I,vi J,vi (K + (ex + ux - ex) + (ex + ux - ex)),vi (N + (ey + uy - ey) + (ey + uy - ey)),vi O,vi R,vi T,vi U,vi V,vi Y,vi Z,AV.vec false 2 (List.map Ln.a l)],vi 0]),pc 27 [ag [vi A,vi B,vi C,vi D,vi E,vi F,vi G,vi I,vi J,vi (K + (ex + ux - ex)),vi (N + (ey + uy - ey)),vi O,vi R,vi T,vi U,vi V,vi Y,vi Z,AV.vec false 2 (List.map Ln.a l)],vi 57000,ag [vi (wi (wi ex + wi ux)),vi (wi (wi ey + wi uy))],ag [vi (wi ex),vi (wi ey)]] (tu [ZaL,vi 11])]) (vb false) (by kernel_rfl) (bc rfl (bc rfl (bc rfl (bc rfl (bc rfl (bc rfl (bc (Bool.or_true _) (bc (Bool.or_true _) (bc (Bool.or_true _) (bc (Bool.or_true _) (bc (Bool.or_true _) (bc (Bool.or_true _) (bc (Zaj (fun h => d2 ((Zag Zaa Zaa).1 h))) (bc rfl (bc rfl (bc rfl (bc rfl (bc rfl (bc rfl (bc rfl (bc rfl (bc rfl (bc rfl (bc rfl (bc rfl (bc rfl (bc rfl (bc rfl (bc rfl (bc rfl (bc rfl (bc rfl (bc rfl (bc rfl (bc rfl (bc rfl (bc rfl (bc rfl (bc rfl (bc rfl (bc rfl (bc rfl (bc rfl (bc rfl (bc rfl (bc rfl b0)))))))))))))))))))))))))))))))))))))))))))))) q0 (ce (@ev28 (f) (l) (A) (B) (C) (D) (E) (F) (G) (I) (J) (K) (N) (O) (R) (T) (U) (V) (Y) (Z) k15) (ce (by (try rw [w4]);(try rw [w6]);(try rw [w8]);(try rw [w10]);(try rw [w12]);(try rw [w14]);all_goals exact (@ZaT (false) (l) (A) (B) (C) (D) (E) (F) (G) (I) (J) (K) (N) (O) (R) (T) (U) (V) (Y) (Z) (ex) (ey) (ex + ux) (ey + uy) k17 d16)) (ce (by (try rw [w4]);(try rw [w6]);(try rw [w8]);(try rw [w10]);(try rw [w12]);(try rw [w14]);all_goals exact (@ZaT (false) (l) (A) (B) (C) (D) (E) (F) (G) (I) (J) (K + (ex + ux - ex)) (N + (ey + uy - ey)) (O) (R) (T) (U) (V) (Y) (Z) (ex + ux) (ey + uy) (ex + ux) (ey + uy) k19 d18)) (ce (by (try rw [w4]);(try rw [w6]);(try rw [w8]);(try rw [w10]);(try rw [w12]);(try rw [w14]);all_goals exact (@ZaT (false) (l) (A) (B) (C) (D) (E) (F) (G) (I) (J) (K + (ex + ux - ex)) (N + (ey + uy - ey)) (O) (R) (T) (U) (V) (Y) (Z) (ex) (ey) (ex + ux) (ey + uy) k21 d20)) (ce (by (try rw [w4]);(try rw [w6]);(try rw [w8]);(try rw [w10]);(try rw [w12]);(try rw [w14]);all_goals exact (@Zbz (false) (l) (A) (B) (C) (D) (E) (F) (G) (I) (J) (K + (ex + ux - ex)) (N + (ey + uy - ey)) (O) (R) (T) (U) (V) (Y) (Z) (ex + ux) (ey + uy) (ex) (ey) k28 d22)) c0))))) H
    ·obtain ⟨k29,H⟩:=H
     rcases xq H with ⟨d30,H⟩|⟨d30,H⟩
     ·obtain ⟨k31,H⟩:=H
      exact Zae (G:=Zad kp5 [(9,1,.call (ag [vi A,vi B,vi C,vi D,vi E,vi F,vi G,vi I,vi J,vi K,vi N,vi O,vi R,vi T,vi U,vi V,vi Y,vi Z,AV.vec false 2 (List.map Ln.a l)]) none),(9,5,.call (tu [ag [vi A,vi B,vi C,vi D,vi E,vi F,vi G,vi I,vi J,vi (K + (ex + ux - ex)),vi (N + (ey + uy - ey)),vi O,vi R,vi T,vi U,vi V,vi Y,vi Z,AV.vec false 2 (List.map Ln.a l)],vi 0]) none),(10,4,.call (tu [ag [vi A,vi B,vi C,vi D,vi E,vi F,vi G,vi I,vi J,vi (K + (ex + ux - ex) + (ex + ux - (ex + ux))),vi (N + (ey + uy - ey) + (ey + uy - (ey + uy))),vi O,vi R,vi T,vi U,vi V,vi Y,vi Z,AV.vec false 2 (List.map Ln.a l)],vi 0]) none),(11,4,.call (tu [ZaL,vi 11]) none),(12,4,.call (tu [ag [vi A,vi B,vi C,vi D,vi E,vi F,vi G,vi I,vi J,vi (K + (ex + ux - ex) + (ex - (ex + ux))),vi (N + (ey + uy - ey) + (ey - (ey + uy))),vi O,vi R,vi T,vi U,vi V,vi Y,vi Z,AV.vec false 2 (List.map Ln.a l)],vi 0]) none)] []) 1000 [false,true] (asm:=[true,true,true,true,true,true,!(decide ((if N > K then N else K) > 1000000) == false && true) || true,!(decide ((if N > K then N else K) > 1000000) == false && true) || true,!(decide ((if N > K then N else K) > 1000000) == false && true) || true,!(decide ((if N > K then N else K) > 1000000) == false && true) || true,!(decide ((if N > K then N else K) > 1000000) == false && true) || true,!(decide ((if N > K then N else K) > 1000000) == false && true) || true,(Zda N K) == false,true,true,true,true,true,true,true,true,true,true,true,true,true,true,true,true,true,true,true,true,true,true,true,true,true,true,true,true,true,true,true,true,true == true]) (calls:=[pc 28 [ag [vi A,vi B,vi C,vi D,vi E,vi F,vi G,vi I,vi J,vi K,vi N,vi O,vi R,vi T,vi U,vi V,vi Y,vi Z,AV.vec f 2 (List.map Ln.a l)]] (ag [vi A,vi B,vi C,vi D,vi E,vi F,vi G,vi I,vi J,vi K,vi N,vi O,vi R,vi T,vi U,vi V,vi Y,vi Z,AV.vec false 2 (List.map Ln.a l)]),pc 27 [ag [vi A,vi B,vi C,vi D,vi E,vi F,vi G,vi I,vi J,vi K,vi N,vi O,vi R,vi T,vi U,vi V,vi Y,vi Z,AV.vec false 2 (List.map Ln.a l)],vi 57000,ag [vi (wi ex),vi (wi ey)],ag [vi (wi (wi ex + wi ux)),vi (wi (wi ey + wi uy))]] (tu [ag [vi A,vi B,vi C,vi D,vi E,vi F,vi G,vi I,vi J,vi (K + (ex + ux - ex)),vi (N + (ey + uy - ey)),vi O,vi R,vi T,vi U,vi V,vi Y,vi Z,AV.vec false 2 (List.map Ln.a l)],vi 0]),pc 27 [ag [vi A,vi B,vi C,vi D,vi E,vi F,vi G,vi I,vi J,vi (K + (ex + ux - ex)),vi (N + (ey + uy - ey)),vi O,vi R,vi T,vi U,vi V,vi Y,vi Z,AV.vec false 2 (List.map Ln.a l)],vi 57000,ag [vi (wi (wi ex + wi ux)),vi (wi (wi ey + wi uy))],ag [vi (wi (wi ex + wi ux)),vi (wi (wi ey + wi uy))]] (tu [ag [vi A,vi B,vi C,vi D,vi E,vi F,vi G,vi I,vi J,vi (K + (ex + ux - ex) + (ex + ux - (ex + ux))),vi (N + (ey + uy - ey) + (ey + uy - (ey + uy))),vi O,vi R,vi T,vi U,vi V,vi Y,vi Z,AV.vec false 2 (List.map Ln.a l)],vi 0]),pc 27 [ag [vi A,vi B,vi C,vi D,vi E,vi F,vi G,vi I,vi J,vi (K + (ex + ux - ex)),vi (N + (ey + uy - ey)),vi O,vi R,vi T,vi U,vi V,vi Y,vi Z,AV.vec false 2 (List.map Ln.a l)],vi 57000,ag [vi (wi ex),vi (wi ey)],ag [vi (wi (wi ex + wi ux)),vi (wi (wi ey + wi uy))]] (tu [ZaL,vi 11]),pc 27 [ag [vi A,vi B,vi C,vi D,vi E,vi F,vi G,vi I,vi J,vi (K + (ex + ux - ex)),vi (N + (ey + uy - ey)),vi O,vi R,vi T,vi U,vi V,vi Y,vi Z,AV.vec false 2 (List.map Ln.a l)],vi 57000,ag [vi (wi (wi ex + wi ux)),vi (wi (wi ey + wi uy))],ag [vi (wi ex),vi (wi ey)]] (tu [ag [vi A,vi B,vi C,vi D,vi E,vi F,vi G,vi I,vi J,vi (K + (ex + ux - ex) + (ex - (ex + ux))),vi (N + (ey + uy - ey) + (ey - (ey + uy))),vi O,vi R,vi T,vi U,vi V,vi Y,vi Z,AV.vec false 2 (List.map Ln.a l)],vi 0])]) (vb false) (by kernel_rfl) (bc rfl (bc rfl (bc rfl (bc rfl (bc rfl (bc rfl (bc (Bool.or_true _) (bc (Bool.or_true _) (bc (Bool.or_true _) (bc (Bool.or_true _) (bc (Bool.or_true _) (bc (Bool.or_true _) (bc (Zaj (fun h => d2 ((Zag Zaa Zaa).1 h))) (bc rfl (bc rfl (bc rfl (bc rfl (bc rfl (bc rfl (bc rfl (bc rfl (bc rfl (bc rfl (bc rfl (bc rfl (bc rfl (bc rfl (bc rfl (bc rfl (bc rfl (bc rfl (bc rfl (bc rfl (bc rfl (bc rfl (bc rfl (bc rfl (bc rfl (bc rfl (bc rfl (bc rfl (bc rfl (bc rfl (bc rfl (bc rfl (bc rfl b0)))))))))))))))))))))))))))))))))))))))))))))) q0 (ce (@ev28 (f) (l) (A) (B) (C) (D) (E) (F) (G) (I) (J) (K) (N) (O) (R) (T) (U) (V) (Y) (Z) k15) (ce (by (try rw [w4]);(try rw [w6]);(try rw [w8]);(try rw [w10]);(try rw [w12]);(try rw [w14]);all_goals exact (@ZaT (false) (l) (A) (B) (C) (D) (E) (F) (G) (I) (J) (K) (N) (O) (R) (T) (U) (V) (Y) (Z) (ex) (ey) (ex + ux) (ey + uy) k17 d16)) (ce (by (try rw [w4]);(try rw [w6]);(try rw [w8]);(try rw [w10]);(try rw [w12]);(try rw [w14]);all_goals exact (@ZaT (false) (l) (A) (B) (C) (D) (E) (F) (G) (I) (J) (K + (ex + ux - ex)) (N + (ey + uy - ey)) (O) (R) (T) (U) (V) (Y) (Z) (ex + ux) (ey + uy) (ex + ux) (ey + uy) k19 d18)) (ce (by (try rw [w4]);(try rw [w6]);(try rw [w8]);(try rw [w10]);(try rw [w12]);(try rw [w14]);all_goals exact (@Zbz (false) (l) (A) (B) (C) (D) (E) (F) (G) (I) (J) (K + (ex + ux - ex)) (N + (ey + uy - ey)) (O) (R) (T) (U) (V) (Y) (Z) (ex) (ey) (ex + ux) (ey + uy) k29 d20)) (ce (by (try rw [w4]);(try rw [w6]);(try rw [w8]);(try rw [w10]);(try rw [w12]);(try rw [w14]);all_goals exact (@ZaT (false) (l) (A) (B) (C) (D) (E) (F) (G) (I) (J) (K + (ex + ux - ex)) (N + (ey + uy - ey)) (O) (R) (T) (U) (V) (Y) (Z) (ex + ux) (ey + uy) (ex) (ey) k31 d30)) c0))))) H
     ·obtain ⟨k32,H⟩:=H
      exact Zae (G:=Zad kp5 [(9,1,.call (ag [vi A,vi B,vi C,vi D,vi E,vi F,vi G,vi I,vi J,vi K,vi N,vi O,vi R,vi T,vi U,vi V,vi Y,vi Z,AV.vec false 2 (List.map Ln.a l)]) none),(9,5,.call (tu [ag [vi A,vi B,vi C,vi D,vi E,vi F,vi G,vi I,vi J,vi (K + (ex + ux - ex)),vi (N + (ey + uy - ey)),vi O,vi R,vi T,vi U,vi V,vi Y,vi Z,AV.vec false 2 (List.map Ln.a l)],vi 0]) none),(10,4,.call (tu [ag [vi A,vi B,vi C,vi D,vi E,vi F,vi G,vi I,vi J,vi (K + (ex + ux - ex) + (ex + ux - (ex + ux))),vi (N + (ey + uy - ey) + (ey + uy - (ey + uy))),vi O,vi R,vi T,vi U,vi V,vi Y,vi Z,AV.vec false 2 (List.map Ln.a l)],vi 0]) none),(11,4,.call (tu [ZaL,vi 11]) none),(12,4,.call (tu [ZaL,vi 11]) none)] []) 1000 [false,true] (asm:=[true,true,true,true,true,true,!(decide ((if N > K then N else K) > 1000000) == false && true) || true,!(decide ((if N > K then N else K) > 1000000) == false && true) || true,!(decide ((if N > K then N else K) > 1000000) == false && true) || true,!(decide ((if N > K then N else K) > 1000000) == false && true) || true,!(decide ((if N > K then N else K) > 1000000) == false && true) || true,!(decide ((if N > K then N else K) > 1000000) == false && true) || true,(Zda N K) == false,true,true,true,true,true,true,true,true,true,true,true,true,true,true,true,true,true,true,true,true,true,true,true,true,true,true,true,true,true,true,true,true,true == true]) (calls:=[pc 28 [ag [vi A,vi B,vi C,vi D,vi E,vi F,vi G,vi I,vi J,vi K,vi N,vi O,vi R,vi T,vi U,vi V,vi Y,vi Z,AV.vec f 2 (List.map Ln.a l)]] (ag [vi A,vi B,vi C,vi D,vi E,vi F,vi G,vi I,vi J,vi K,vi N,vi O,vi R,vi T,vi U,vi V,vi Y,vi Z,AV.vec false 2 (List.map Ln.a l)]),pc 27 [ag [vi A,vi B,vi C,vi D,vi E,vi F,vi G,vi I,vi J,vi K,vi N,vi O,vi R,vi T,vi U,vi V,vi Y,vi Z,AV.vec false 2 (List.map Ln.a l)],vi 57000,ag [vi (wi ex),vi (wi ey)],ag [vi (wi (wi ex + wi ux)),vi (wi (wi ey + wi uy))]] (tu [ag [vi A,vi B,vi C,vi D,vi E,vi F,vi G,vi I,vi J,vi (K + (ex + ux - ex)),vi (N + (ey + uy - ey)),vi O,vi R,vi T,vi U,vi V,vi Y,vi Z,AV.vec false 2 (List.map Ln.a l)],vi 0]),pc 27 [ag [vi A,vi B,vi C,vi D,vi E,vi F,vi G,vi I,vi J,vi (K + (ex + ux - ex)),vi (N + (ey + uy - ey)),vi O,vi R,vi T,vi U,vi V,vi Y,vi Z,AV.vec false 2 (List.map Ln.a l)],vi 57000,ag [vi (wi (wi ex + wi ux)),vi (wi (wi ey + wi uy))],ag [vi (wi (wi ex + wi ux)),vi (wi (wi ey + wi uy))]] (tu [ag [vi A,vi B,vi C,vi D,vi E,vi F,vi G,vi I,vi J,vi (K + (ex + ux - ex) + (ex + ux - (ex + ux))),vi (N + (ey + uy - ey) + (ey + uy - (ey + uy))),vi O,vi R,vi T,vi U,vi V,vi Y,vi Z,AV.vec false 2 (List.map Ln.a l)],vi 0]),pc 27 [ag [vi A,vi B,vi C,vi D,vi E,vi F,vi G,vi I,vi J,vi (K + (ex + ux - ex)),vi (N + (ey + uy - ey)),vi O,vi R,vi T,vi U,vi V,vi Y,vi Z,AV.vec false 2 (List.map Ln.a l)],vi 57000,ag [vi (wi ex),vi (wi ey)],ag [vi (wi (wi ex + wi ux)),vi (wi (wi ey + wi uy))]] (tu [ZaL,vi 11]),pc 27 [ag [vi A,vi B,vi C,vi D,vi E,vi F,vi G,vi I,vi J,vi (K + (ex + ux - ex)),vi (N + (ey + uy - ey)),vi O,vi R,vi T,vi U,vi V,vi Y,vi Z,AV.vec false 2 (List.map Ln.a l)],vi 57000,ag [vi (wi (wi ex + wi ux)),vi (wi (wi ey + wi uy))],ag [vi (wi ex),vi (wi ey)]] (tu [ZaL,vi 11])]) (vb false) (by kernel_rfl) (bc rfl (bc rfl (bc rfl (bc rfl (bc rfl (bc rfl (bc (Bool.or_true _) (bc (Bool.or_true _) (bc (Bool.or_true _) (bc (Bool.or_true _) (bc (Bool.or_true _) (bc (Bool.or_true _) (bc (Zaj (fun h => d2 ((Zag Zaa Zaa).1 h))) (bc rfl (bc rfl (bc rfl (bc rfl (bc rfl (bc rfl (bc rfl (bc rfl (bc rfl (bc rfl (bc rfl (bc rfl (bc rfl (bc rfl (bc rfl (bc rfl (bc rfl (bc rfl (bc rfl (bc rfl (bc rfl (bc rfl (bc rfl (bc rfl (bc rfl (bc rfl (bc rfl (bc rfl (bc rfl (bc rfl (bc rfl (bc rfl (bc rfl b0)))))))))))))))))))))))))))))))))))))))))))))) q0 (ce (@ev28 (f) (l) (A) (B) (C) (D) (E) (F) (G) (I) (J) (K) (N) (O) (R) (T) (U) (V) (Y) (Z) k15) (ce (by (try rw [w4]);(try rw [w6]);(try rw [w8]);(try rw [w10]);(try rw [w12]);(try rw [w14]);all_goals exact (@ZaT (false) (l) (A) (B) (C) (D) (E) (F) (G) (I) (J) (K) (N) (O) (R) (T) (U) (V) (Y) (Z) (ex) (ey) (ex + ux) (ey + uy) k17 d16)) (ce (by (try rw [w4]);(try rw [w6]);(try rw [w8]);(try rw [w10]);(try rw [w12]);(try rw [w14]);all_goals exact (@ZaT (false) (l) (A) (B) (C) (D) (E) (F) (G) (I) (J) (K + (ex + ux - ex)) (N + (ey + uy - ey)) (O) (R) (T) (U) (V) (Y) (Z) (ex + ux) (ey + uy) (ex + ux) (ey + uy) k19 d18)) (ce (by (try rw [w4]);(try rw [w6]);(try rw [w8]);(try rw [w10]);(try rw [w12]);(try rw [w14]);all_goals exact (@Zbz (false) (l) (A) (B) (C) (D) (E) (F) (G) (I) (J) (K + (ex + ux - ex)) (N + (ey + uy - ey)) (O) (R) (T) (U) (V) (Y) (Z) (ex) (ey) (ex + ux) (ey + uy) k29 d20)) (ce (by (try rw [w4]);(try rw [w6]);(try rw [w8]);(try rw [w10]);(try rw [w12]);(try rw [w14]);all_goals exact (@Zbz (false) (l) (A) (B) (C) (D) (E) (F) (G) (I) (J) (K + (ex + ux - ex)) (N + (ey + uy - ey)) (O) (R) (T) (U) (V) (Y) (Z) (ex + ux) (ey + uy) (ex) (ey) k32 d30)) c0))))) H
   ·obtain ⟨k33,H⟩:=H
    rcases xq H with ⟨d34,H⟩|⟨d34,H⟩
    ·obtain ⟨k35,H⟩:=H
     rcases xq H with ⟨d36,H⟩|⟨d36,H⟩
     ·obtain ⟨k37,H⟩:=H
      exact Zae (G:=Zad kp5 [(9,1,.call (ag [vi A,vi B,vi C,vi D,vi E,vi F,vi G,vi I,vi J,vi K,vi N,vi O,vi R,vi T,vi U,vi V,vi Y,vi Z,AV.vec false 2 (List.map Ln.a l)]) none),(9,5,.call (tu [ag [vi A,vi B,vi C,vi D,vi E,vi F,vi G,vi I,vi J,vi (K + (ex + ux - ex)),vi (N + (ey + uy - ey)),vi O,vi R,vi T,vi U,vi V,vi Y,vi Z,AV.vec false 2 (List.map Ln.a l)],vi 0]) none),(10,4,.call (tu [ZaL,vi 11]) none),(11,4,.call (tu [ag [vi A,vi B,vi C,vi D,vi E,vi F,vi G,vi I,vi J,vi (K + (ex + ux - ex) + (ex + ux - ex)),vi (N + (ey + uy - ey) + (ey + uy - ey)),vi O,vi R,vi T,vi U,vi V,vi Y,vi Z,AV.vec false 2 (List.map Ln.a l)],vi 0]) none),(12,4,.call (tu [ag [vi A,vi B,vi C,vi D,vi E,vi F,vi G,vi I,vi J,vi (K + (ex + ux - ex) + (ex - (ex + ux))),vi (N + (ey + uy - ey) + (ey - (ey + uy))),vi O,vi R,vi T,vi U,vi V,vi Y,vi Z,AV.vec false 2 (List.map Ln.a l)],vi 0]) none)] []) 1000 [false,true] (asm:=[true,true,true,true,true,true,!(decide ((if N > K then N else K) > 1000000) == false && true) || true,!(decide ((if N > K then N else K) > 1000000) == false && true) || true,!(decide ((if N > K then N else K) > 1000000) == false && true) || true,!(decide ((if N > K then N else K) > 1000000) == false && true) || true,!(decide ((if N > K then N else K) > 1000000) == false && true) || true,!(decide ((if N > K then N else K) > 1000000) == false && true) || true,(Zda N K) == false,true,true,true,true,true,true,true,true,true,true,true,true,true,true,true,true,true,true,true,true,true,true,true,true,true,true,true,true,true,true,true,true,true == true]) (calls:=[pc 28 [ag [vi A,vi B,vi C,vi D,vi E,vi F,vi G,vi I,vi J,vi K,vi N,vi O,vi R,vi T,vi U,vi V,vi Y,vi Z,AV.vec f 2 (List.map Ln.a l)]] (ag [vi A,vi B,vi C,vi D,vi E,vi F,vi G,vi I,vi J,vi K,vi N,vi O,vi R,vi T,vi U,vi V,vi Y,vi Z,AV.vec false 2 (List.map Ln.a l)]),pc 27 [ag [vi A,vi B,vi C,vi D,vi E,vi F,vi G,vi I,vi J,vi K,vi N,vi O,vi R,vi T,vi U,vi V,vi Y,vi Z,AV.vec false 2 (List.map Ln.a l)],vi 57000,ag [vi (wi ex),vi (wi ey)],ag [vi (wi (wi ex + wi ux)),vi (wi (wi ey + wi uy))]] (tu [ag [vi A,vi B,vi C,vi D,vi E,vi F,vi G,vi I,vi J,vi (K + (ex + ux - ex)),vi (N + (ey + uy - ey)),vi O,vi R,vi T,vi U,vi V,vi Y,vi Z,AV.vec false 2 (List.map Ln.a l)],vi 0]),pc 27 [ag [vi A,vi B,vi C,vi D,vi E,vi F,vi G,vi I,vi J,vi (K + (ex + ux - ex)),vi (N + (ey + uy - ey)),vi O,vi R,vi T,vi U,vi V,vi Y,vi Z,AV.vec false 2 (List.map Ln.a l)],vi 57000,ag [vi (wi (wi ex + wi ux)),vi (wi (wi ey + wi uy))],ag [vi (wi (wi ex + wi ux)),vi (wi (wi ey + wi uy))]] (tu [ZaL,vi 11]),pc 27 [ag [vi A,vi B,vi C,vi D,vi E,vi F,vi G,vi I,vi J,vi (K + (ex + ux - ex)),vi (N + (ey + uy - ey)),vi O,vi R,vi T,vi U,vi V,vi Y,vi Z,AV.vec false 2 (List.map Ln.a l)],vi 57000,ag [vi (wi ex),vi (wi ey)],ag [vi (wi (wi ex + wi ux)),vi (wi (wi ey + wi uy))]] (tu [ag [vi A,vi B,vi C,vi D,vi E,vi F,vi G,vi I,vi J,vi (K + (ex + ux - ex) + (ex + ux - ex)),vi (N + (ey + uy - ey) + (ey + uy - ey)),vi O,vi R,vi T,vi U,vi V,vi Y,vi Z,AV.vec false 2 (List.map Ln.a l)],vi 0]),pc 27 [ag [vi A,vi B,vi C,vi D,vi E,vi F,vi G,vi I,vi J,vi (K + (ex + ux - ex)),vi (N + (ey + uy - ey)),vi O,vi R,vi T,vi U,vi V,vi Y,vi Z,AV.vec false 2 (List.map Ln.a l)],vi 57000,ag [vi (wi (wi ex + wi ux)),vi (wi (wi ey + wi uy))],ag [vi (wi ex),vi (wi ey)]] (tu [ag [vi A,vi B,vi C,vi D,vi E,vi F,vi G,vi I,vi J,vi (K + (ex + ux - ex) + (ex - (ex + ux))),vi (N + (ey + uy - ey) + (ey - (ey + uy))),vi O,vi R,vi T,vi U,vi V,vi Y,vi Z,AV.vec false 2 (List.map Ln.a l)],vi 0])]) (vb false) (by kernel_rfl) (bc rfl (bc rfl (bc rfl (bc rfl (bc rfl (bc rfl (bc (Bool.or_true _) (bc (Bool.or_true _) (bc (Bool.or_true _) (bc (Bool.or_true _) (bc (Bool.or_true _) (bc (Bool.or_true _) (bc (Zaj (fun h => d2 ((Zag Zaa Zaa).1 h))) (bc rfl (bc rfl (bc rfl (bc rfl (bc rfl (bc rfl (bc rfl (bc rfl (bc rfl (bc rfl (bc rfl (bc rfl (bc rfl (bc rfl (bc rfl (bc rfl (bc rfl (bc rfl (bc rfl (bc rfl (bc rfl (bc rfl (bc rfl (bc rfl (bc rfl (bc rfl (bc rfl (bc rfl (bc rfl (bc rfl (bc rfl (bc rfl (bc rfl b0)))))))))))))))))))))))))))))))))))))))))))))) q0 (ce (@ev28 (f) (l) (A) (B) (C) (D) (E) (F) (G) (I) (J) (K) (N) (O) (R) (T) (U) (V) (Y) (Z) k15) (ce (by (try rw [w4]);(try rw [w6]);(try rw [w8]);(try rw [w10]);(try rw [w12]);(try rw [w14]);all_goals exact (@ZaT (false) (l) (A) (B) (C) (D) (E) (F) (G) (I) (J) (K) (N) (O) (R) (T) (U) (V) (Y) (Z) (ex) (ey) (ex + ux) (ey + uy) k17 d16)) (ce (by (try rw [w4]);(try rw [w6]);(try rw [w8]);(try rw [w10]);(try rw [w12]);(try rw [w14]);all_goals exact (@Zbz (false) (l) (A) (B) (C) (D) (E) (F) (G) (I) (J) (K + (ex + ux - ex)) (N + (ey + uy - ey)) (O) (R) (T) (U) (V) (Y) (Z) (ex + ux) (ey + uy) (ex + ux) (ey + uy) k33 d18)) (ce (by (try rw [w4]);(try rw [w6]);(try rw [w8]);(try rw [w10]);(try rw [w12]);(try rw [w14]);all_goals exact (@ZaT (false) (l) (A) (B) (C) (D) (E) (F) (G) (I) (J) (K + (ex + ux - ex)) (N + (ey + uy - ey)) (O) (R) (T) (U) (V) (Y) (Z) (ex) (ey) (ex + ux) (ey + uy) k35 d34)) (ce (by (try rw [w4]);(try rw [w6]);(try rw [w8]);(try rw [w10]);(try rw [w12]);(try rw [w14]);all_goals exact (@ZaT (false) (l) (A) (B) (C) (D) (E) (F) (G) (I) (J) (K + (ex + ux - ex)) (N + (ey + uy - ey)) (O) (R) (T) (U) (V) (Y) (Z) (ex + ux) (ey + uy) (ex) (ey) k37 d36)) c0))))) H
     ·obtain ⟨k38,H⟩:=H
      exact Zae (G:=Zad kp5 [(9,1,.call (ag [vi A,vi B,vi C,vi D,vi E,vi F,vi G,vi I,vi J,vi K,vi N,vi O,vi R,vi T,vi U,vi V,vi Y,vi Z,AV.vec false 2 (List.map Ln.a l)]) none),(9,5,.call (tu [ag [vi A,vi B,vi C,vi D,vi E,vi F,vi G,vi I,vi J,vi (K + (ex + ux - ex)),vi (N + (ey + uy - ey)),vi O,vi R,vi T,vi U,vi V,vi Y,vi Z,AV.vec false 2 (List.map Ln.a l)],vi 0]) none),(10,4,.call (tu [ZaL,vi 11]) none),(11,4,.call (tu [ag [vi A,vi B,vi C,vi D,vi E,vi F,vi G,vi I,vi J,vi (K + (ex + ux - ex) + (ex + ux - ex)),vi (N + (ey + uy - ey) + (ey + uy - ey)),vi O,vi R,vi T,vi U,vi V,vi Y,vi Z,AV.vec false 2 (List.map Ln.a l)],vi 0]) none),(12,4,.call (tu [ZaL,vi 11]) none)] []) 1000 [false,true] (asm:=[true,true,true,true,true,true,!(decide ((if N > K then N else K) > 1000000) == false && true) || true,!(decide ((if N > K then N else K) > 1000000) == false && true) || true,!(decide ((if N > K then N else K) > 1000000) == false && true) || true,!(decide ((if N > K then N else K) > 1000000) == false && true) || true,!(decide ((if N > K then N else K) > 1000000) == false && true) || true,!(decide ((if N > K then N else K) > 1000000) == false && true) || true,(Zda N K) == false,true,true,true,true,true,true,true,true,true,true,true,true,true,true,true,true,true,true,true,true,true,true,true,true,true,true,true,true,true,true,true,true,true == true]) (calls:=[pc 28 [ag [vi A,vi B,vi C,vi D,vi E,vi F,vi G,vi I,vi J,vi K,vi N,vi O,vi R,vi T,vi U,vi V,vi Y,vi Z,AV.vec f 2 (List.map Ln.a l)]] (ag [vi A,vi B,vi C,vi D,vi E,vi F,vi G,vi I,vi J,vi K,vi N,vi O,vi R,vi T,vi U,vi V,vi Y,vi Z,AV.vec false 2 (List.map Ln.a l)]),pc 27 [ag [vi A,vi B,vi C,vi D,vi E,vi F,vi G,vi I,vi J,vi K,vi N,vi O,vi R,vi T,vi U,vi V,vi Y,vi Z,AV.vec false 2 (List.map Ln.a l)],vi 57000,ag [vi (wi ex),vi (wi ey)],ag [vi (wi (wi ex + wi ux)),vi (wi (wi ey + wi uy))]] (tu [ag [vi A,vi B,vi C,vi D,vi E,vi F,vi G,vi I,vi J,vi (K + (ex + ux - ex)),vi (N + (ey + uy - ey)),vi O,vi R,vi T,vi U,vi V,vi Y,vi Z,AV.vec false 2 (List.map Ln.a l)],vi 0]),pc 27 [ag [vi A,vi B,vi C,vi D,vi E,vi F,vi G,vi I,vi J,vi (K + (ex + ux - ex)),vi (N + (ey + uy - ey)),vi O,vi R,vi T,vi U,vi V,vi Y,vi Z,AV.vec false 2 (List.map Ln.a l)],vi 57000,ag [vi (wi (wi ex + wi ux)),vi (wi (wi ey + wi uy))],ag [vi (wi (wi ex + wi ux)),vi (wi (wi ey + wi uy))]] (tu [ZaL,vi 11]),pc 27 [ag [vi A,vi B,vi C,vi D,vi E,vi F,vi G,vi I,vi J,vi (K + (ex + ux - ex)),vi (N + (ey + uy - ey)),vi O,vi R,vi T,vi U,vi V,vi Y,vi Z,AV.vec false 2 (List.map Ln.a l)],vi 57000,ag [vi (wi ex),vi (wi ey)],ag [vi (wi (wi ex + wi ux)),vi (wi (wi ey + wi uy))]] (tu [ag [vi A,vi B,vi C,vi D,vi E,vi F,vi G,vi I,vi J,vi (K + (ex + ux - ex) + (ex + ux - ex)),vi (N + (ey + uy - ey) + (ey + uy - ey)),vi O,vi R,vi T,vi U,vi V,vi Y,vi Z,AV.vec false 2 (List.map Ln.a l)],vi 0]),pc 27 [ag [vi A,vi B,vi C,vi D,vi E,vi F,vi G,vi I,vi J,vi (K + (ex + ux - ex)),vi (N + (ey + uy - ey)),vi O,vi R,vi T,vi U,vi V,vi Y,vi Z,AV.vec false 2 (List.map Ln.a l)],vi 57000,ag [vi (wi (wi ex + wi ux)),vi (wi (wi ey + wi uy))],ag [vi (wi ex),vi (wi ey)]] (tu [ZaL,vi 11])]) (vb false) (by kernel_rfl) (bc rfl (bc rfl (bc rfl (bc rfl (bc rfl (bc rfl (bc (Bool.or_true _) (bc (Bool.or_true _) (bc (Bool.or_true _) (bc (Bool.or_true _) (bc (Bool.or_true _) (bc (Bool.or_true _) (bc (Zaj (fun h => d2 ((Zag Zaa Zaa).1 h))) (bc rfl (bc rfl (bc rfl (bc rfl (bc rfl (bc rfl (bc rfl (bc rfl (bc rfl (bc rfl (bc rfl (bc rfl (bc rfl (bc rfl (bc rfl (bc rfl (bc rfl (bc rfl (bc rfl (bc rfl (bc rfl (bc rfl (bc rfl (bc rfl (bc rfl (bc rfl (bc rfl (bc rfl (bc rfl (bc rfl (bc rfl (bc rfl (bc rfl b0)))))))))))))))))))))))))))))))))))))))))))))) q0 (ce (@ev28 (f) (l) (A) (B) (C) (D) (E) (F) (G) (I) (J) (K) (N) (O) (R) (T) (U) (V) (Y) (Z) k15) (ce (by (try rw [w4]);(try rw [w6]);(try rw [w8]);(try rw [w10]);(try rw [w12]);(try rw [w14]);all_goals exact (@ZaT (false) (l) (A) (B) (C) (D) (E) (F) (G) (I) (J) (K) (N) (O) (R) (T) (U) (V) (Y) (Z) (ex) (ey) (ex + ux) (ey + uy) k17 d16)) (ce (by (try rw [w4]);(try rw [w6]);(try rw [w8]);(try rw [w10]);(try rw [w12]);(try rw [w14]);all_goals exact (@Zbz (false) (l) (A) (B) (C) (D) (E) (F) (G) (I) (J) (K + (ex + ux - ex)) (N + (ey + uy - ey)) (O) (R) (T) (U) (V) (Y) (Z) (ex + ux) (ey + uy) (ex + ux) (ey + uy) k33 d18)) (ce (by (try rw [w4]);(try rw [w6]);(try rw [w8]);(try rw [w10]);(try rw [w12]);(try rw [w14]);all_goals exact (@ZaT (false) (l) (A) (B) (C) (D) (E) (F) (G) (I) (J) (K + (ex + ux - ex)) (N + (ey + uy - ey)) (O) (R) (T) (U) (V) (Y) (Z) (ex) (ey) (ex + ux) (ey + uy) k35 d34)) (ce (by (try rw [w4]);(try rw [w6]);(try rw [w8]);(try rw [w10]);(try rw [w12]);(try rw [w14]);all_goals exact (@Zbz (false) (l) (A) (B) (C) (D) (E) (F) (G) (I) (J) (K + (ex + ux - ex)) (N + (ey + uy - ey)) (O) (R) (T) (U) (V) (Y) (Z) (ex + ux) (ey + uy) (ex) (ey) k38 d36)) c0))))) H
    ·obtain ⟨k39,H⟩:=H
     rcases xq H with ⟨d40,H⟩|⟨d40,H⟩
     ·obtain ⟨k41,H⟩:=H
      exact Zae (G:=Zad kp5 [(9,1,.call (ag [vi A,vi B,vi C,vi D,vi E,vi F,vi G,vi I,vi J,vi K,vi N,vi O,vi R,vi T,vi U,vi V,vi Y,vi Z,AV.vec false 2 (List.map Ln.a l)]) none),(9,5,.call (tu [ag [vi A,vi B,vi C,vi D,vi E,vi F,vi G,vi I,vi J,vi (K + (ex + ux - ex)),vi (N + (ey + uy - ey)),vi O,vi R,vi T,vi U,vi V,vi Y,vi Z,AV.vec false 2 (List.map Ln.a l)],vi 0]) none),(10,4,.call (tu [ZaL,vi 11]) none),(11,4,.call (tu [ZaL,vi 11]) none),(12,4,.call (tu [ag [vi A,vi B,vi C,vi D,vi E,vi F,vi G,vi I,vi J,vi (K + (ex + ux - ex) + (ex - (ex + ux))),vi (N + (ey + uy - ey) + (ey - (ey + uy))),vi O,vi R,vi T,vi U,vi V,vi Y,vi Z,AV.vec false 2 (List.map Ln.a l)],vi 0]) none)] []) 1000 [false,true] (asm:=[true,true,true,true,true,true,!(decide ((if N > K then N else K) > 1000000) == false && true) || true,!(decide ((if N > K then N else K) > 1000000) == false && true) || true,!(decide ((if N > K then N else K) > 1000000) == false && true) || true,!(decide ((if N > K then N else K) > 1000000) == false && true) || true,!(decide ((if N > K then N else K) > 1000000) == false && true) || true,!(decide ((if N > K then N else K) > 1000000) == false && true) || true,(Zda N K) == false,true,true,true,true,true,true,true,true,true,true,true,true,true,true,true,true,true,true,true,true,true,true,true,true,true,true,true,true,true,true,true,true,true == true]) (calls:=[pc 28 [ag [vi A,vi B,vi C,vi D,vi E,vi F,vi G,vi I,vi J,vi K,vi N,vi O,vi R,vi T,vi U,vi V,vi Y,vi Z,AV.vec f 2 (List.map Ln.a l)]] (ag [vi A,vi B,vi C,vi D,vi E,vi F,vi G,vi I,vi J,vi K,vi N,vi O,vi R,vi T,vi U,vi V,vi Y,vi Z,AV.vec false 2 (List.map Ln.a l)]),pc 27 [ag [vi A,vi B,vi C,vi D,vi E,vi F,vi G,vi I,vi J,vi K,vi N,vi O,vi R,vi T,vi U,vi V,vi Y,vi Z,AV.vec false 2 (List.map Ln.a l)],vi 57000,ag [vi (wi ex),vi (wi ey)],ag [vi (wi (wi ex + wi ux)),vi (wi (wi ey + wi uy))]] (tu [ag [vi A,vi B,vi C,vi D,vi E,vi F,vi G,vi I,vi J,vi (K + (ex + ux - ex)),vi (N + (ey + uy - ey)),vi O,vi R,vi T,vi U,vi V,vi Y,vi Z,AV.vec false 2 (List.map Ln.a l)],vi 0]),pc 27 [ag [vi A,vi B,vi C,vi D,vi E,vi F,vi G,vi I,vi J,vi (K + (ex + ux - ex)),vi (N + (ey + uy - ey)),vi O,vi R,vi T,vi U,vi V,vi Y,vi Z,AV.vec false 2 (List.map Ln.a l)],vi 57000,ag [vi (wi (wi ex + wi ux)),vi (wi (wi ey + wi uy))],ag [vi (wi (wi ex + wi ux)),vi (wi (wi ey + wi uy))]] (tu [ZaL,vi 11]),pc 27 [ag [vi A,vi B,vi C,vi D,vi E,vi F,vi G,vi I,vi J,vi (K + (ex + ux - ex)),vi (N + (ey + uy - ey)),vi O,vi R,vi T,vi U,vi V,vi Y,vi Z,AV.vec false 2 (List.map Ln.a l)],vi 57000,ag [vi (wi ex),vi (wi ey)],ag [vi (wi (wi ex + wi ux)),vi (wi (wi ey + wi uy))]] (tu [ZaL,vi 11]),pc 27 [ag [vi A,vi B,vi C,vi D,vi E,vi F,vi G,vi I,vi J,vi (K + (ex + ux - ex)),vi (N + (ey + uy - ey)),vi O,vi R,vi T,vi U,vi V,vi Y,vi Z,AV.vec false 2 (List.map Ln.a l)],vi 57000,ag [vi (wi (wi ex + wi ux)),vi (wi (wi ey + wi uy))],ag [vi (wi ex),vi (wi ey)]] (tu [ag [vi A,vi B,vi C,vi D,vi E,vi F,vi G,vi I,vi J,vi (K + (ex + ux - ex) + (ex - (ex + ux))),vi (N + (ey + uy - ey) + (ey - (ey + uy))),vi O,vi R,vi T,vi U,vi V,vi Y,vi Z,AV.vec false 2 (List.map Ln.a l)],vi 0])]) (vb false) (by kernel_rfl) (bc rfl (bc rfl (bc rfl (bc rfl (bc rfl (bc rfl (bc (Bool.or_true _) (bc (Bool.or_true _) (bc (Bool.or_true _) (bc (Bool.or_true _) (bc (Bool.or_true _) (bc (Bool.or_true _) (bc (Zaj (fun h => d2 ((Zag Zaa Zaa).1 h))) (bc rfl (bc rfl (bc rfl (bc rfl (bc rfl (bc rfl (bc rfl (bc rfl (bc rfl (bc rfl (bc rfl (bc rfl (bc rfl (bc rfl (bc rfl (bc rfl (bc rfl (bc rfl (bc rfl (bc rfl (bc rfl (bc rfl (bc rfl (bc rfl (bc rfl (bc rfl (bc rfl (bc rfl (bc rfl (bc rfl (bc rfl (bc rfl (bc rfl b0)))))))))))))))))))))))))))))))))))))))))))))) q0 (ce (@ev28 (f) (l) (A) (B) (C) (D) (E) (F) (G) (I) (J) (K) (N) (O) (R) (T) (U) (V) (Y) (Z) k15) (ce (by (try rw [w4]);(try rw [w6]);(try rw [w8]);(try rw [w10]);(try rw [w12]);(try rw [w14]);all_goals exact (@ZaT (false) (l) (A) (B) (C) (D) (E) (F) (G) (I) (J) (K) (N) (O) (R) (T) (U) (V) (Y) (Z) (ex) (ey) (ex + ux) (ey + uy) k17 d16)) (ce (by (try rw [w4]);(try rw [w6]);(try rw [w8]);(try rw [w10]);(try rw [w12]);(try rw [w14]);all_goals exact (@Zbz (false) (l) (A) (B) (C) (D) (E) (F) (G) (I) (J) (K + (ex + ux - ex)) (N + (ey + uy - ey)) (O) (R) (T) (U) (V) (Y) (Z) (ex + ux) (ey + uy) (ex + ux) (ey + uy) k33 d18)) (ce (by (try rw [w4]);(try rw [w6]);(try rw [w8]);(try rw [w10]);(try rw [w12]);(try rw [w14]);all_goals exact (@Zbz (false) (l) (A) (B) (C) (D) (E) (F) (G) (I) (J) (K + (ex + ux - ex)) (N + (ey + uy - ey)) (O) (R) (T) (U) (V) (Y) (Z) (ex) (ey) (ex + ux) (ey + uy) k39 d34)) (ce (by (try rw [w4]);(try rw [w6]);(try rw [w8]);(try rw [w10]);(try rw [w12]);(try rw [w14]);all_goals exact (@ZaT (false) (l) (A) (B) (C) (D) (E) (F) (G) (I) (J) (K + (ex + ux - ex)) (N + (ey + uy - ey)) (O) (R) (T) (U) (V) (Y) (Z) (ex + ux) (ey + uy) (ex) (ey) k41 d40)) c0))))) H
     ·obtain ⟨k42,H⟩:=H
      exact Zae (G:=Zad kp5 [(9,1,.call (ag [vi A,vi B,vi C,vi D,vi E,vi F,vi G,vi I,vi J,vi K,vi N,vi O,vi R,vi T,vi U,vi V,vi Y,vi Z,AV.vec false 2 (List.map Ln.a l)]) none),(9,5,.call (tu [ag [vi A,vi B,vi C,vi D,vi E,vi F,vi G,vi I,vi J,vi (K + (ex + ux - ex)),vi (N + (ey + uy - ey)),vi O,vi R,vi T,vi U,vi V,vi Y,vi Z,AV.vec false 2 (List.map Ln.a l)],vi 0]) none),(10,4,.call (tu [ZaL,vi 11]) none),(11,4,.call (tu [ZaL,vi 11]) none),(12,4,.call (tu [ZaL,vi 11]) none)] []) 1000 [false,true] (asm:=[true,true,true,true,true,true,!(decide ((if N > K then N else K) > 1000000) == false && true) || true,!(decide ((if N > K then N else K) > 1000000) == false && true) || true,!(decide ((if N > K then N else K) > 1000000) == false && true) || true,!(decide ((if N > K then N else K) > 1000000) == false && true) || true,!(decide ((if N > K then N else K) > 1000000) == false && true) || true,!(decide ((if N > K then N else K) > 1000000) == false && true) || true,(Zda N K) == false,true,true,true,true,true,true,true,true,true,true,true,true,true,true,true,true,true,true,true,true,true,true,true,true,true,true,true,true,true,true,true,true,true == true]) (calls:=[pc 28 [ag [vi A,vi B,vi C,vi D,vi E,vi F,vi G,vi I,vi J,vi K,vi N,vi O,vi R,vi T,vi U,vi V,vi Y,vi Z,AV.vec f 2 (List.map Ln.a l)]] (ag [vi A,vi B,vi C,vi D,vi E,vi F,vi G,vi I,vi J,vi K,vi N,vi O,vi R,vi T,vi U,vi V,vi Y,vi Z,AV.vec false 2 (List.map Ln.a l)]),pc 27 [ag [vi A,vi B,vi C,vi D,vi E,vi F,vi G,vi I,vi J,vi K,vi N,vi O,vi R,vi T,vi U,vi V,vi Y,vi Z,AV.vec false 2 (List.map Ln.a l)],vi 57000,ag [vi (wi ex),vi (wi ey)],ag [vi (wi (wi ex + wi ux)),vi (wi (wi ey + wi uy))]] (tu [ag [vi A,vi B,vi C,vi D,vi E,vi F,vi G,vi I,vi J,vi (K + (ex + ux - ex)),vi (N + (ey + uy - ey)),vi O,vi R,vi T,vi U,vi V,vi Y,vi Z,AV.vec false 2 (List.map Ln.a l)],vi 0]),pc 27 [ag [vi A,vi B,vi C,vi D,vi E,vi F,vi G,vi I,vi J,vi (K + (ex + ux - ex)),vi (N + (ey + uy - ey)),vi O,vi R,vi T,vi U,vi V,vi Y,vi Z,AV.vec false 2 (List.map Ln.a l)],vi 57000,ag [vi (wi (wi ex + wi ux)),vi (wi (wi ey + wi uy))],ag [vi (wi (wi ex + wi ux)),vi (wi (wi ey + wi uy))]] (tu [ZaL,vi 11]),pc 27 [ag [vi A,vi B,vi C,vi D,vi E,vi F,vi G,vi I,vi J,vi (K + (ex + ux - ex)),vi (N + (ey + uy - ey)),vi O,vi R,vi T,vi U,vi V,vi Y,vi Z,AV.vec false 2 (List.map Ln.a l)],vi 57000,ag [vi (wi ex),vi (wi ey)],ag [vi (wi (wi ex + wi ux)),vi (wi (wi ey + wi uy))]] (tu [ZaL,vi 11]),pc 27 [ag [vi A,vi B,vi C,vi D,vi E,vi F,vi G,vi I,vi J,vi (K + (ex + ux - ex)),vi (N + (ey + uy - ey)),vi O,vi R,vi T,vi U,vi V,vi Y,vi Z,AV.vec false 2 (List.map Ln.a l)],vi 57000,ag [vi (wi (wi ex + wi ux)),vi (wi (wi ey + wi uy))],ag [vi (wi ex),vi (wi ey)]] (tu [ZaL,vi 11])]) (vb false) (by kernel_rfl) (bc rfl (bc rfl (bc rfl (bc rfl (bc rfl (bc rfl (bc (Bool.or_true _) (bc (Bool.or_true _) (bc (Bool.or_true _) (bc (Bool.or_true _) (bc (Bool.or_true _) (bc (Bool.or_true _) (bc (Zaj (fun h => d2 ((Zag Zaa Zaa).1 h))) (bc rfl (bc rfl (bc rfl (bc rfl (bc rfl (bc rfl (bc rfl (bc rfl (bc rfl (bc rfl (bc rfl (bc rfl (bc rfl (bc rfl (bc rfl (bc rfl (bc rfl (bc rfl (bc rfl (bc rfl (bc rfl (bc rfl (bc rfl (bc rfl (bc rfl (bc rfl (bc rfl (bc rfl (bc rfl (bc rfl (bc rfl (bc rfl (bc rfl b0)))))))))))))))))))))))))))))))))))))))))))))) q0 (ce (@ev28 (f) (l) (A) (B) (C) (D) (E) (F) (G) (I) (J) (K) (N) (O) (R) (T) (U) (V) (Y) (Z) k15) (ce (by (try rw [w4]);(try rw [w6]);(try rw [w8]);(try rw [w10]);(try rw [w12]);(try rw [w14]);all_goals exact (@ZaT (false) (l) (A) (B) (C) (D) (E) (F) (G) (I) (J) (K) (N) (O) (R) (T) (U) (V) (Y) (Z) (ex) (ey) (ex + ux) (ey + uy) k17 d16)) (ce (by (try rw [w4]);(try rw [w6]);(try rw [w8]);(try rw [w10]);(try rw [w12]);(try rw [w14]);all_goals exact (@Zbz (false) (l) (A) (B) (C) (D) (E) (F) (G) (I) (J) (K + (ex + ux - ex)) (N + (ey + uy - ey)) (O) (R) (T) (U) (V) (Y) (Z) (ex + ux) (ey + uy) (ex + ux) (ey + uy) k33 d18)) (ce (by (try rw [w4]);(try rw [w6]);(try rw [w8]);(try rw [w10]);(try rw [w12]);(try rw [w14]);all_goals exact (@Zbz (false) (l) (A) (B) (C) (D) (E) (F) (G) (I) (J) (K + (ex + ux - ex)) (N + (ey + uy - ey)) (O) (R) (T) (U) (V) (Y) (Z) (ex) (ey) (ex + ux) (ey + uy) k39 d34)) (ce (by (try rw [w4]);(try rw [w6]);(try rw [w8]);(try rw [w10]);(try rw [w12]);(try rw [w14]);all_goals exact (@Zbz (false) (l) (A) (B) (C) (D) (E) (F) (G) (I) (J) (K + (ex + ux - ex)) (N + (ey + uy - ey)) (O) (R) (T) (U) (V) (Y) (Z) (ex + ux) (ey + uy) (ex) (ey) k42 d40)) c0))))) H
  ·obtain ⟨k43,x1,x2,x3,x4,x5,x6,l1,n1,k44,x7,x8,x9,x10,x11,x12,l2,n2,k45,x13,x14,x15,x16,x17,x18,l3,n3,k46,H⟩:=H
   exact Zae (G:=Zad kp5 [(9,1,.call (ag [vi A,vi B,vi C,vi D,vi E,vi F,vi G,vi I,vi J,vi K,vi N,vi O,vi R,vi T,vi U,vi V,vi Y,vi Z,AV.vec false 2 (List.map Ln.a l)]) none),(9,5,.call (tu [ZaL,vi 11]) none),(10,4,.call (tu [ag [vi x1.x,vi x1.y,vi x1.z,vi x2.x,vi x2.y,vi x2.z,vi x3.x,vi x3.y,vi x3.z,vi x4.x,vi x4.y,vi x4.z,vi x5.x,vi x5.y,vi x5.z,vi x6.x,vi x6.y,vi x6.z,AV.vec false 2 (List.map Ln.a l1)],vi n1]) none),(11,4,.call (tu [ag [vi x7.x,vi x7.y,vi x7.z,vi x8.x,vi x8.y,vi x8.z,vi x9.x,vi x9.y,vi x9.z,vi x10.x,vi x10.y,vi x10.z,vi x11.x,vi x11.y,vi x11.z,vi x12.x,vi x12.y,vi x12.z,AV.vec false 2 (List.map Ln.a l2)],vi n2]) none),(12,4,.call (tu [ag [vi x13.x,vi x13.y,vi x13.z,vi x14.x,vi x14.y,vi x14.z,vi x15.x,vi x15.y,vi x15.z,vi x16.x,vi x16.y,vi x16.z,vi x17.x,vi x17.y,vi x17.z,vi x18.x,vi x18.y,vi x18.z,AV.vec false 2 (List.map Ln.a l3)],vi n3]) none)] []) 1000 [false,true] (asm:=[true,true,true,true,true,true,!(decide ((if N > K then N else K) > 1000000) == false && true) || true,!(decide ((if N > K then N else K) > 1000000) == false && true) || true,!(decide ((if N > K then N else K) > 1000000) == false && true) || true,!(decide ((if N > K then N else K) > 1000000) == false && true) || true,!(decide ((if N > K then N else K) > 1000000) == false && true) || true,!(decide ((if N > K then N else K) > 1000000) == false && true) || true,(Zda N K) == false,true,true,true,true,true,true,true,true,true,true,true,true,true,true,true,true,true,true,true,true,true,true,true,true,true,true,true,true,true,true,true,true,true == true]) (calls:=[pc 28 [ag [vi A,vi B,vi C,vi D,vi E,vi F,vi G,vi I,vi J,vi K,vi N,vi O,vi R,vi T,vi U,vi V,vi Y,vi Z,AV.vec f 2 (List.map Ln.a l)]] (ag [vi A,vi B,vi C,vi D,vi E,vi F,vi G,vi I,vi J,vi K,vi N,vi O,vi R,vi T,vi U,vi V,vi Y,vi Z,AV.vec false 2 (List.map Ln.a l)]),pc 27 [ag [vi A,vi B,vi C,vi D,vi E,vi F,vi G,vi I,vi J,vi K,vi N,vi O,vi R,vi T,vi U,vi V,vi Y,vi Z,AV.vec false 2 (List.map Ln.a l)],vi 57000,ag [vi (wi ex),vi (wi ey)],ag [vi (wi (wi ex + wi ux)),vi (wi (wi ey + wi uy))]] (tu [ZaL,vi 11]),pc 27 [ZaL,vi 57000,ag [vi (wi (wi ex + wi ux)),vi (wi (wi ey + wi uy))],ag [vi (wi (wi ex + wi ux)),vi (wi (wi ey + wi uy))]] (tu [ag [vi x1.x,vi x1.y,vi x1.z,vi x2.x,vi x2.y,vi x2.z,vi x3.x,vi x3.y,vi x3.z,vi x4.x,vi x4.y,vi x4.z,vi x5.x,vi x5.y,vi x5.z,vi x6.x,vi x6.y,vi x6.z,AV.vec false 2 (List.map Ln.a l1)],vi n1]),pc 27 [ZaL,vi 57000,ag [vi (wi ex),vi (wi ey)],ag [vi (wi (wi ex + wi ux)),vi (wi (wi ey + wi uy))]] (tu [ag [vi x7.x,vi x7.y,vi x7.z,vi x8.x,vi x8.y,vi x8.z,vi x9.x,vi x9.y,vi x9.z,vi x10.x,vi x10.y,vi x10.z,vi x11.x,vi x11.y,vi x11.z,vi x12.x,vi x12.y,vi x12.z,AV.vec false 2 (List.map Ln.a l2)],vi n2]),pc 27 [ZaL,vi 57000,ag [vi (wi (wi ex + wi ux)),vi (wi (wi ey + wi uy))],ag [vi (wi ex),vi (wi ey)]] (tu [ag [vi x13.x,vi x13.y,vi x13.z,vi x14.x,vi x14.y,vi x14.z,vi x15.x,vi x15.y,vi x15.z,vi x16.x,vi x16.y,vi x16.z,vi x17.x,vi x17.y,vi x17.z,vi x18.x,vi x18.y,vi x18.z,AV.vec false 2 (List.map Ln.a l3)],vi n3])]) (vb false) (by kernel_rfl) (bc rfl (bc rfl (bc rfl (bc rfl (bc rfl (bc rfl (bc (Bool.or_true _) (bc (Bool.or_true _) (bc (Bool.or_true _) (bc (Bool.or_true _) (bc (Bool.or_true _) (bc (Bool.or_true _) (bc (Zaj (fun h => d2 ((Zag Zaa Zaa).1 h))) (bc rfl (bc rfl (bc rfl (bc rfl (bc rfl (bc rfl (bc rfl (bc rfl (bc rfl (bc rfl (bc rfl (bc rfl (bc rfl (bc rfl (bc rfl (bc rfl (bc rfl (bc rfl (bc rfl (bc rfl (bc rfl (bc rfl (bc rfl (bc rfl (bc rfl (bc rfl (bc rfl (bc rfl (bc rfl (bc rfl (bc rfl (bc rfl (bc rfl b0)))))))))))))))))))))))))))))))))))))))))))))) q0 (ce (@ev28 (f) (l) (A) (B) (C) (D) (E) (F) (G) (I) (J) (K) (N) (O) (R) (T) (U) (V) (Y) (Z) k15) (ce (by (try rw [w4]);(try rw [w6]);(try rw [w8]);(try rw [w10]);(try rw [w12]);(try rw [w14]);all_goals exact (@Zbz (false) (l) (A) (B) (C) (D) (E) (F) (G) (I) (J) (K) (N) (O) (R) (T) (U) (V) (Y) (Z) (ex) (ey) (ex + ux) (ey + uy) k43 d16)) (ce (by (try rw [w4]);(try rw [w6]);(try rw [w8]);(try rw [w10]);(try rw [w12]);(try rw [w14]);all_goals exact k44) (ce (by (try rw [w4]);(try rw [w6]);(try rw [w8]);(try rw [w10]);(try rw [w12]);(try rw [w14]);all_goals exact k45) (ce (by (try rw [w4]);(try rw [w6]);(try rw [w8]);(try rw [w10]);(try rw [w12]);(try rw [w14]);all_goals exact k46) c0))))) H
noncomputable abbrev ZaK:=ag [vi 0,vi 0,vi 0,vi 0,vi 0,vi 0,vi 0,vi 0,vi 0,vi 0,vi 0,vi 0,vi 0,vi 0,vi 0,vi 0,vi 0,vi 0,AV.vnil]
noncomputable abbrev Zd5 (A:Int) (B:Int) (C:Int) (D:Int) (E:Int) (F:Int) (G:Int) (I:Int) (J:Int) (K:Int) (N:Int) (O:Int) (R:Int) (ex:Int) (ux:Int) (T:Int) (ey:Int) (uy:Int) (U:Int) (V:Int) (Y:Int) (Z:Int):=bif A==A&&(B==B&&(C==C&&true))&&(D==D&&(E==E&&(F==F&&true))&&(G==G&&(I==I&&(J==J&&true))&&(K==K&&(N==N&&(O==O&&true))&&(R+(ex+ux-ex)+(ex+ux-(ex+ux))==R+(ex+ux-ex)&&(T+(ey+uy-ey)+(ey+uy-(ey+uy))==T+(ey+uy-ey)&&(U==U&&true))&&(V==V&&(Y==Y&&(Z==Z&&true))&&true))))) then R+(ex+ux-ex)==R+ux&&(T+(ey+uy-ey)==T+uy&&(U==U+0&&true)) else false
noncomputable abbrev Zc9 (T:Int) (R:Int):=bif decide ((if T>R then T else R)>1000000) then true else decide ((if T<R then T else R) < -1000000)
noncomputable abbrev zNpP32 (A:Int) (B:Int) (C:Int) (D:Int) (E:Int) (F:Int) (G:Int) (I:Int) (J:Int) (K:Int) (N:Int) (O:Int) (R:Int) (ex:Int) (ux:Int) (T:Int) (ey:Int) (uy:Int) (U:Int) (V:Int) (Y:Int) (Z:Int):=bif bif A==A&&(B==B&&(C==C&&true))&&(D==D&&(E==E&&(F==F&&true))&&(G==G&&(I==I&&(J==J&&true))&&(K==K&&(N==N&&(O==O&&true))&&(R+(ex+ux-ex)+(ex+ux-(ex+ux))==R+(ex+ux-ex)&&(T+(ey+uy-ey)+(ey+uy-(ey+uy))==T+(ey+uy-ey)&&(U==U&&true))&&(V==V&&(Y==Y&&(Z==Z&&true))&&true))))) then R+(ex+ux-ex)==R+ux&&(T+(ey+uy-ey)==T+uy&&(U==U+0&&true)) else false then R+(ex+ux-ex)+(ex+ux-ex)==R+(ex+ux-ex)+ux&&(T+(ey+uy-ey)+(ey+uy-ey)==T+(ey+uy-ey)+uy&&(U==U+0&&true)) else false
noncomputable abbrev zNpP33 (R:Int) (ex:Int) (ux:Int) (T:Int) (ey:Int) (uy:Int) (U:Int):=ag [vi (R+(ex+ux-ex)+ux),vi (T+(ey+uy-ey)+uy),vi (U+0)]
noncomputable abbrev zNpP34 (R:Int) (ex:Int) (ux:Int) (T:Int) (ey:Int) (uy:Int) (U:Int):=Sp.pP (R+(ex+ux-ex)+(ex-(ex+ux))) (T+(ey+uy-ey)+(ey-(ey+uy))) U
noncomputable abbrev zNpP35 (R:Int) (ux:Int) (T:Int) (uy:Int) (U:Int):=ag [vi (R+ux),vi (T+uy),vi (U+0)]
theorem lwTwC4 (f:Bool) (l:List Ln) (A B C D E F G I J K N O R T U V Y Z:Int) (ex ey ux uy s r:Int) (g:Bool) (X:List AV)  (dq:AV) (H :
  ((((if T > R then T else R) > 1000000) \/ ((if T < R then T else R) < -1000000)) -> vb true = dq) /\
  (¬(((if T > R then T else R) > 1000000) \/ ((if T < R then T else R) < -1000000)) -> (-9223372036854775808 <= ex /\ ex <= 9223372036854775807) /\
   (-9223372036854775808 <= ey /\ ey <= 9223372036854775807) /\
   (-9223372036854775808 <= ux /\ ux <= 9223372036854775807) /\
   (-9223372036854775808 <= ex + ux /\ ex + ux <= 9223372036854775807) /\
   (-9223372036854775808 <= uy /\ uy <= 9223372036854775807) /\
   (-9223372036854775808 <= ey + uy /\ ey + uy <= 9223372036854775807) /\
   (Sp.few l.length 1000000) /\
   ((Sp.pP (R + (ex + ux - ex)) (T + (ey + uy - ey)) U) -> ((Sp.tv A B C D E F G I J K N O R T U V Y Z l = 0 /\ Sp.few l.length 1000000) /\ (Sp.pM ex /\ Sp.pM ey) /\ Sp.pM (ex + ux) /\ Sp.pM (ey + uy)) /\
    ((Sp.pP (R + (ex + ux - ex) + (ex + ux - (ex + ux))) (T + (ey + uy - ey) + (ey + uy - (ey + uy))) U) -> ((Sp.tv A B C D E F G I J K N O (R + (ex + ux - ex)) (T + (ey + uy - ey)) U V Y Z l = 0 /\ Sp.few l.length 1000000) /\ (Sp.pM (ex + ux) /\ Sp.pM (ey + uy)) /\ Sp.pM (ex + ux) /\ Sp.pM (ey + uy)) /\
     ((Sp.pP (R + (ex + ux - ex) + (ex + ux - ex)) (T + (ey + uy - ey) + (ey + uy - ey)) U) -> ((Sp.tv A B C D E F G I J K N O (R + (ex + ux - ex)) (T + (ey + uy - ey)) U V Y Z l = 0 /\ Sp.few l.length 1000000) /\ (Sp.pM ex /\ Sp.pM ey) /\ Sp.pM (ex + ux) /\ Sp.pM (ey + uy)) /\
      ((Sp.pP (R + (ex + ux - ex) + (ex - (ex + ux))) (T + (ey + uy - ey) + (ey - (ey + uy))) U) -> ((Sp.tv A B C D E F G I J K N O (R + (ex + ux - ex)) (T + (ey + uy - ey)) U V Y Z l = 0 /\ Sp.few l.length 1000000) /\ (Sp.pM (ex + ux) /\ Sp.pM (ey + uy)) /\ Sp.pM ex /\ Sp.pM ey) /\
       ((((A = A) /\ ((B = B) /\ (C = C))) /\ (((D = D) /\ ((E = E) /\ (F = F))) /\ (((G = G) /\ ((I = I) /\ (J = J))) /\ (((K = K) /\ ((N = N) /\ (O = O))) /\ (((R + (ex + ux - ex) + (ex + ux - (ex + ux)) = R + (ex + ux - ex)) /\ ((T + (ey + uy - ey) + (ey + uy - (ey + uy)) = T + (ey + uy - ey)) /\ (U = U))) /\ ((V = V) /\ ((Y = Y) /\ (Z = Z)))))))) -> ((Sp.ZaI R /\ Sp.ZaI T /\ Sp.ZaI U) /\ Sp.ZaI ux /\ Sp.ZaI uy /\ Sp.ZaI 0)) /\
       (((((A = A) /\ ((B = B) /\ (C = C))) /\ (((D = D) /\ ((E = E) /\ (F = F))) /\ (((G = G) /\ ((I = I) /\ (J = J))) /\ (((K = K) /\ ((N = N) /\ (O = O))) /\ (((R + (ex + ux - ex) + (ex + ux - (ex + ux)) = R + (ex + ux - ex)) /\ ((T + (ey + uy - ey) + (ey + uy - (ey + uy)) = T + (ey + uy - ey)) /\ (U = U))) /\ ((V = V) /\ ((Y = Y) /\ (Z = Z)))))))) /\ ((R + (ex + ux - ex) = R + ux) /\ ((T + (ey + uy - ey) = T + uy) /\ (U = U + 0)))) -> ((Sp.ZaI (R + (ex + ux - ex)) /\ Sp.ZaI (T + (ey + uy - ey)) /\ Sp.ZaI U) /\ Sp.ZaI ux /\ Sp.ZaI uy /\ Sp.ZaI 0)) /\
       vb (bif bif bif A == A && (B == B && (C == C && true)) && (D == D && (E == E && (F == F && true)) && (G == G && (I == I && (J == J && true)) && (K == K && (N == N && (O == O && true)) && (R + (ex + ux - ex) + (ex + ux - (ex + ux)) == R + (ex + ux - ex) && (T + (ey + uy - ey) + (ey + uy - (ey + uy)) == T + (ey + uy - ey) && (U == U && true)) && (V == V && (Y == Y && (Z == Z && true)) && true))))) then R + (ex + ux - ex) == R + ux && (T + (ey + uy - ey) == T + uy && (U == U + 0 && true)) else false then R + (ex + ux - ex) + (ex + ux - ex) == R + (ex + ux - ex) + ux && (T + (ey + uy - ey) + (ey + uy - ey) == T + (ey + uy - ey) + uy && (U == U + 0 && true)) else false then A == A && (B == B && (C == C && true)) && (D == D && (E == E && (F == F && true)) && (G == G && (I == I && (J == J && true)) && (K == K && (N == N && (O == O && true)) && (R + (ex + ux - ex) + (ex - (ex + ux)) == R && (T + (ey + uy - ey) + (ey - (ey + uy)) == T && (U == U && true)) && (V == V && (Y == Y && (Z == Z && true)) && true))))) else false) = dq) /\
      (¬(Sp.pP (R + (ex + ux - ex) + (ex - (ex + ux))) (T + (ey + uy - ey) + (ey - (ey + uy))) U) -> ((Sp.tv A B C D E F G I J K N O (R + (ex + ux - ex)) (T + (ey + uy - ey)) U V Y Z l = 0 /\ Sp.few l.length 1000000) /\ (Sp.pM (ex + ux) /\ Sp.pM (ey + uy)) /\ Sp.pM ex /\ Sp.pM ey) /\
       vb false = dq)) /\
     (¬(Sp.pP (R + (ex + ux - ex) + (ex + ux - ex)) (T + (ey + uy - ey) + (ey + uy - ey)) U) -> ((Sp.tv A B C D E F G I J K N O (R + (ex + ux - ex)) (T + (ey + uy - ey)) U V Y Z l = 0 /\ Sp.few l.length 1000000) /\ (Sp.pM ex /\ Sp.pM ey) /\ Sp.pM (ex + ux) /\ Sp.pM (ey + uy)) /\
      ((Sp.pP (R + (ex + ux - ex) + (ex - (ex + ux))) (T + (ey + uy - ey) + (ey - (ey + uy))) U) -> ((Sp.tv A B C D E F G I J K N O (R + (ex + ux - ex)) (T + (ey + uy - ey)) U V Y Z l = 0 /\ Sp.few l.length 1000000) /\ (Sp.pM (ex + ux) /\ Sp.pM (ey + uy)) /\ Sp.pM ex /\ Sp.pM ey) /\
       vb false = dq) /\
      (¬(Sp.pP (R + (ex + ux - ex) + (ex - (ex + ux))) (T + (ey + uy - ey) + (ey - (ey + uy))) U) -> ((Sp.tv A B C D E F G I J K N O (R + (ex + ux - ex)) (T + (ey + uy - ey)) U V Y Z l = 0 /\ Sp.few l.length 1000000) /\ (Sp.pM (ex + ux) /\ Sp.pM (ey + uy)) /\ Sp.pM ex /\ Sp.pM ey) /\
       vb false = dq))) /\
    (¬(Sp.pP (R + (ex + ux - ex) + (ex + ux - (ex + ux))) (T + (ey + uy - ey) + (ey + uy - (ey + uy))) U) -> ((Sp.tv A B C D E F G I J K N O (R + (ex + ux - ex)) (T + (ey + uy - ey)) U V Y Z l = 0 /\ Sp.few l.length 1000000) /\ (Sp.pM (ex + ux) /\ Sp.pM (ey + uy)) /\ Sp.pM (ex + ux) /\ Sp.pM (ey + uy)) /\
     ((Sp.pP (R + (ex + ux - ex) + (ex + ux - ex)) (T + (ey + uy - ey) + (ey + uy - ey)) U) -> ((Sp.tv A B C D E F G I J K N O (R + (ex + ux - ex)) (T + (ey + uy - ey)) U V Y Z l = 0 /\ Sp.few l.length 1000000) /\ (Sp.pM ex /\ Sp.pM ey) /\ Sp.pM (ex + ux) /\ Sp.pM (ey + uy)) /\
      ((Sp.pP (R + (ex + ux - ex) + (ex - (ex + ux))) (T + (ey + uy - ey) + (ey - (ey + uy))) U) -> ((Sp.tv A B C D E F G I J K N O (R + (ex + ux - ex)) (T + (ey + uy - ey)) U V Y Z l = 0 /\ Sp.few l.length 1000000) /\ (Sp.pM (ex + ux) /\ Sp.pM (ey + uy)) /\ Sp.pM ex /\ Sp.pM ey) /\
       vb false = dq) /\
      (¬(Sp.pP (R + (ex + ux - ex) + (ex - (ex + ux))) (T + (ey + uy - ey) + (ey - (ey + uy))) U) -> ((Sp.tv A B C D E F G I J K N O (R + (ex + ux - ex)) (T + (ey + uy - ey)) U V Y Z l = 0 /\ Sp.few l.length 1000000) /\ (Sp.pM (ex + ux) /\ Sp.pM (ey + uy)) /\ Sp.pM ex /\ Sp.pM ey) /\
       vb false = dq)) /\
     (¬(Sp.pP (R + (ex + ux - ex) + (ex + ux - ex)) (T + (ey + uy - ey) + (ey + uy - ey)) U) -> ((Sp.tv A B C D E F G I J K N O (R + (ex + ux - ex)) (T + (ey + uy - ey)) U V Y Z l = 0 /\ Sp.few l.length 1000000) /\ (Sp.pM ex /\ Sp.pM ey) /\ Sp.pM (ex + ux) /\ Sp.pM (ey + uy)) /\
      ((Sp.pP (R + (ex + ux - ex) + (ex - (ex + ux))) (T + (ey + uy - ey) + (ey - (ey + uy))) U) -> ((Sp.tv A B C D E F G I J K N O (R + (ex + ux - ex)) (T + (ey + uy - ey)) U V Y Z l = 0 /\ Sp.few l.length 1000000) /\ (Sp.pM (ex + ux) /\ Sp.pM (ey + uy)) /\ Sp.pM ex /\ Sp.pM ey) /\
       vb false = dq) /\
      (¬(Sp.pP (R + (ex + ux - ex) + (ex - (ex + ux))) (T + (ey + uy - ey) + (ey - (ey + uy))) U) -> ((Sp.tv A B C D E F G I J K N O (R + (ex + ux - ex)) (T + (ey + uy - ey)) U V Y Z l = 0 /\ Sp.few l.length 1000000) /\ (Sp.pM (ex + ux) /\ Sp.pM (ey + uy)) /\ Sp.pM ex /\ Sp.pM ey) /\
       vb false = dq)))) /\
   (¬(Sp.pP (R + (ex + ux - ex)) (T + (ey + uy - ey)) U) -> ((Sp.tv A B C D E F G I J K N O R T U V Y Z l = 0 /\ Sp.few l.length 1000000) /\ (Sp.pM ex /\ Sp.pM ey) /\ Sp.pM (ex + ux) /\ Sp.pM (ey + uy)) /\
    ∃ (x1:Pp) (x2:Pp) (x3:Pp) (x4:Pp) (x5:Pp) (x6:Pp) (l1:List (Ln)) (n1:Int),
    (Ev M1 (Conf.pure 27 [ag [vi 0,vi 0,vi 0,vi 0,vi 0,vi 0,vi 0,vi 0,vi 0,vi 0,vi 0,vi 0,vi 0,vi 0,vi 0,vi 0,vi 0,vi 0,AV.vnil],vi 58000,ag [vi (ex + ux),vi (ey + uy)],ag [vi (ex + ux),vi (ey + uy)]]) (tu [ag [vi x1.x,vi x1.y,vi x1.z,vi x2.x,vi x2.y,vi x2.z,vi x3.x,vi x3.y,vi x3.z,vi x4.x,vi x4.y,vi x4.z,vi x5.x,vi x5.y,vi x5.z,vi x6.x,vi x6.y,vi x6.z,AV.vec false 2 (List.map Ln.a l1)],vi n1]) []) /\
    ∃ (x7:Pp) (x8:Pp) (x9:Pp) (x10:Pp) (x11:Pp) (x12:Pp) (l2:List (Ln)) (n2:Int),
    (Ev M1 (Conf.pure 27 [ag [vi 0,vi 0,vi 0,vi 0,vi 0,vi 0,vi 0,vi 0,vi 0,vi 0,vi 0,vi 0,vi 0,vi 0,vi 0,vi 0,vi 0,vi 0,AV.vnil],vi 58000,ag [vi ex,vi ey],ag [vi (ex + ux),vi (ey + uy)]]) (tu [ag [vi x7.x,vi x7.y,vi x7.z,vi x8.x,vi x8.y,vi x8.z,vi x9.x,vi x9.y,vi x9.z,vi x10.x,vi x10.y,vi x10.z,vi x11.x,vi x11.y,vi x11.z,vi x12.x,vi x12.y,vi x12.z,AV.vec false 2 (List.map Ln.a l2)],vi n2]) []) /\
    ∃ (x13:Pp) (x14:Pp) (x15:Pp) (x16:Pp) (x17:Pp) (x18:Pp) (l3:List (Ln)) (n3:Int),
    (Ev M1 (Conf.pure 27 [ag [vi 0,vi 0,vi 0,vi 0,vi 0,vi 0,vi 0,vi 0,vi 0,vi 0,vi 0,vi 0,vi 0,vi 0,vi 0,vi 0,vi 0,vi 0,AV.vnil],vi 58000,ag [vi (ex + ux),vi (ey + uy)],ag [vi ex,vi ey]]) (tu [ag [vi x13.x,vi x13.y,vi x13.z,vi x14.x,vi x14.y,vi x14.z,vi x15.x,vi x15.y,vi x15.z,vi x16.x,vi x16.y,vi x16.z,vi x17.x,vi x17.y,vi x17.z,vi x18.x,vi x18.y,vi x18.z,AV.vec false 2 (List.map Ln.a l3)],vi n3]) []) /\
    vb false = dq))) :
 ZeP f l A B C D E F G I J K N O R T U V Y Z ex ey ux uy s r g X (Zak dq):=by
 unfold ZeP
 rcases xq H with ⟨d2,H⟩|⟨d2,H⟩
 ·exact Zae (G:=Zad kp5 [] []) 1000 [true] (asm:=[true,true,true,true,true,true,!(decide ((if T > R then T else R) > 1000000) == false && true) || true,!(decide ((if T > R then T else R) > 1000000) == false && true) || true,!(decide ((if T > R then T else R) > 1000000) == false && true) || true,!(decide ((if T > R then T else R) > 1000000) == false && true) || true,!(decide ((if T > R then T else R) > 1000000) == false && true) || true,!(decide ((if T > R then T else R) > 1000000) == false && true) || true,(Zc9 T R) == true]) (vb true) (by kernel_rfl) (bc rfl (bc rfl (bc rfl (bc rfl (bc rfl (bc rfl (bc (Bool.or_true _) (bc (Bool.or_true _) (bc (Bool.or_true _) (bc (Bool.or_true _) (bc (Bool.or_true _) (bc (Bool.or_true _) (bc (ZaG ((Zag Zaa Zaa).2 d2)) b0))))))))))))) q0 c0 H
 ·obtain ⟨k3,H⟩:=H
  have w4:wi ex = ex:=wI64 k3
  obtain ⟨k5,H⟩:=H
  have w6:wi ey = ey:=wI64 k5
  obtain ⟨k7,H⟩:=H
  have w8:wi ux = ux:=wI64 k7
  obtain ⟨k9,H⟩:=H
  have w10:wi (ex + ux) = ex + ux:=wI64 k9
  obtain ⟨k11,H⟩:=H
  have w12:wi uy = uy:=wI64 k11
  obtain ⟨k13,H⟩:=H
  have w14:wi (ey + uy) = ey + uy:=wI64 k13
  obtain ⟨k15,H⟩:=H
  rcases xq H with ⟨d16,H⟩|⟨d16,H⟩
  ·obtain ⟨k17,H⟩:=H
   rcases xq H with ⟨d18,H⟩|⟨d18,H⟩
   ·obtain ⟨k19,H⟩:=H
    rcases xq H with ⟨d20,H⟩|⟨d20,H⟩
    ·obtain ⟨k21,H⟩:=H
     rcases xq H with ⟨d22,H⟩|⟨d22,H⟩
     ·obtain ⟨k23,k25,k27,H⟩:=H
      exact Zae (G:=Zad kp5 [(9,1,.call (ag [vi A,vi B,vi C,vi D,vi E,vi F,vi G,vi I,vi J,vi K,vi N,vi O,vi R,vi T,vi U,vi V,vi Y,vi Z,AV.vec false 2 (List.map Ln.a l)]) none),(9,5,.call (tu [ag [vi A,vi B,vi C,vi D,vi E,vi F,vi G,vi I,vi J,vi K,vi N,vi O,vi (R + (ex + ux - ex)),vi (T + (ey + uy - ey)),vi U,vi V,vi Y,vi Z,AV.vec false 2 (List.map Ln.a l)],vi 0]) none),(10,4,.call (tu [ag [vi A,vi B,vi C,vi D,vi E,vi F,vi G,vi I,vi J,vi K,vi N,vi O,vi (R + (ex + ux - ex) + (ex + ux - (ex + ux))),vi (T + (ey + uy - ey) + (ey + uy - (ey + uy))),vi U,vi V,vi Y,vi Z,AV.vec false 2 (List.map Ln.a l)],vi 0]) none),(11,4,.call (tu [ag [vi A,vi B,vi C,vi D,vi E,vi F,vi G,vi I,vi J,vi K,vi N,vi O,vi (R + (ex + ux - ex) + (ex + ux - ex)),vi (T + (ey + uy - ey) + (ey + uy - ey)),vi U,vi V,vi Y,vi Z,AV.vec false 2 (List.map Ln.a l)],vi 0]) none),(12,4,.call (tu [ag [vi A,vi B,vi C,vi D,vi E,vi F,vi G,vi I,vi J,vi K,vi N,vi O,vi (R + (ex + ux - ex) + (ex - (ex + ux))),vi (T + (ey + uy - ey) + (ey - (ey + uy))),vi U,vi V,vi Y,vi Z,AV.vec false 2 (List.map Ln.a l)],vi 0]) none),(16,15,.call ((zNpP35 R ux T uy U)) none),(16,28,.call ((zNpP33 R ex ux T ey uy U)) none)] []) 1000 [false,false] (asm:=[true,true,true,true,true,true,!(decide ((if T > R then T else R) > 1000000) == false && true) || true,!(decide ((if T > R then T else R) > 1000000) == false && true) || true,!(decide ((if T > R then T else R) > 1000000) == false && true) || true,!(decide ((if T > R then T else R) > 1000000) == false && true) || true,!(decide ((if T > R then T else R) > 1000000) == false && true) || true,!(decide ((if T > R then T else R) > 1000000) == false && true) || true,(Zc9 T R) == false,true,true,true,true,true,true,true,true,true,true,true,true,true,true,true,true,true,true,true,true,true,true,true,true,true,true,true,true,true,true,true,true,false == false,true,true,true,true,true,true,true,true,true,!((A == A && (B == B && (C == C && true)) && (D == D && (E == E && (F == F && true)) && (G == G && (I == I && (J == J && true)) && (K == K && (N == N && (O == O && true)) && (R + (ex + ux - ex) + (ex + ux - (ex + ux)) == R + (ex + ux - ex) && (T + (ey + uy - ey) + (ey + uy - (ey + uy)) == T + (ey + uy - ey) && (U == U && true)) && (V == V && (Y == Y && (Z == Z && true)) && true)))))) == true && true) || true,!((A == A && (B == B && (C == C && true)) && (D == D && (E == E && (F == F && true)) && (G == G && (I == I && (J == J && true)) && (K == K && (N == N && (O == O && true)) && (R + (ex + ux - ex) + (ex + ux - (ex + ux)) == R + (ex + ux - ex) && (T + (ey + uy - ey) + (ey + uy - (ey + uy)) == T + (ey + uy - ey) && (U == U && true)) && (V == V && (Y == Y && (Z == Z && true)) && true)))))) == true && true) || true,!((A == A && (B == B && (C == C && true)) && (D == D && (E == E && (F == F && true)) && (G == G && (I == I && (J == J && true)) && (K == K && (N == N && (O == O && true)) && (R + (ex + ux - ex) + (ex + ux - (ex + ux)) == R + (ex + ux - ex) && (T + (ey + uy - ey) + (ey + uy - (ey + uy)) == T + (ey + uy - ey) && (U == U && true)) && (V == V && (Y == Y && (Z == Z && true)) && true)))))) == true && true) || true,!((A == A && (B == B && (C == C && true)) && (D == D && (E == E && (F == F && true)) && (G == G && (I == I && (J == J && true)) && (K == K && (N == N && (O == O && true)) && (R + (ex + ux - ex) + (ex + ux - (ex + ux)) == R + (ex + ux - ex) && (T + (ey + uy - ey) + (ey + uy - (ey + uy)) == T + (ey + uy - ey) && (U == U && true)) && (V == V && (Y == Y && (Z == Z && true)) && true)))))) == true && true) || true,!((A == A && (B == B && (C == C && true)) && (D == D && (E == E && (F == F && true)) && (G == G && (I == I && (J == J && true)) && (K == K && (N == N && (O == O && true)) && (R + (ex + ux - ex) + (ex + ux - (ex + ux)) == R + (ex + ux - ex) && (T + (ey + uy - ey) + (ey + uy - (ey + uy)) == T + (ey + uy - ey) && (U == U && true)) && (V == V && (Y == Y && (Z == Z && true)) && true)))))) == true && true) || true,!((A == A && (B == B && (C == C && true)) && (D == D && (E == E && (F == F && true)) && (G == G && (I == I && (J == J && true)) && (K == K && (N == N && (O == O && true)) && (R + (ex + ux - ex) + (ex + ux - (ex + ux)) == R + (ex + ux - ex) && (T + (ey + uy - ey) + (ey + uy - (ey + uy)) == T + (ey + uy - ey) && (U == U && true)) && (V == V && (Y == Y && (Z == Z && true)) && true)))))) == true && true) || true,!((A == A && (B == B && (C == C && true)) && (D == D && (E == E && (F == F && true)) && (G == G && (I == I && (J == J && true)) && (K == K && (N == N && (O == O && true)) && (R + (ex + ux - ex) + (ex + ux - (ex + ux)) == R + (ex + ux - ex) && (T + (ey + uy - ey) + (ey + uy - (ey + uy)) == T + (ey + uy - ey) && (U == U && true)) && (V == V && (Y == Y && (Z == Z && true)) && true)))))) == true && true) || true,!((Zd5 A B C D E F G I J K N O R ex ux T ey uy U V Y Z) == true && true) || true,!((Zd5 A B C D E F G I J K N O R ex ux T ey uy U V Y Z) == true && true) || true,!((Zd5 A B C D E F G I J K N O R ex ux T ey uy U V Y Z) == true && true) || true,!((Zd5 A B C D E F G I J K N O R ex ux T ey uy U V Y Z) == true && true) || true,!((Zd5 A B C D E F G I J K N O R ex ux T ey uy U V Y Z) == true && true) || true,!((Zd5 A B C D E F G I J K N O R ex ux T ey uy U V Y Z) == true && true) || true,!((Zd5 A B C D E F G I J K N O R ex ux T ey uy U V Y Z) == true && true) || true,!((zNpP32 A B C D E F G I J K N O R ex ux T ey uy U V Y Z) == true && true) || true,!((zNpP32 A B C D E F G I J K N O R ex ux T ey uy U V Y Z) == true && true) || true]) (calls:=[⟨true,false,28,[ag [vi A,vi B,vi C,vi D,vi E,vi F,vi G,vi I,vi J,vi K,vi N,vi O,vi R,vi T,vi U,vi V,vi Y,vi Z,AV.vec f 2 (List.map Ln.a l)]],[],ag [vi A,vi B,vi C,vi D,vi E,vi F,vi G,vi I,vi J,vi K,vi N,vi O,vi R,vi T,vi U,vi V,vi Y,vi Z,AV.vec false 2 (List.map Ln.a l)],[]⟩,⟨true,false,27,[ag [vi A,vi B,vi C,vi D,vi E,vi F,vi G,vi I,vi J,vi K,vi N,vi O,vi R,vi T,vi U,vi V,vi Y,vi Z,AV.vec false 2 (List.map Ln.a l)],vi 58000,ag [vi (wi ex),vi (wi ey)],ag [vi (wi (wi ex + wi ux)),vi (wi (wi ey + wi uy))]],[],tu [ag [vi A,vi B,vi C,vi D,vi E,vi F,vi G,vi I,vi J,vi K,vi N,vi O,vi (R + (ex + ux - ex)),vi (T + (ey + uy - ey)),vi U,vi V,vi Y,vi Z,AV.vec false 2 (List.map Ln.a l)],vi 0],[]⟩,⟨true,false,27,[ag [vi A,vi B,vi C,vi D,vi E,vi F,vi G,vi I,vi J,vi K,vi N,vi O,vi (R + (ex + ux - ex)),vi (T + (ey + uy - ey)),vi U,vi V,vi Y,vi Z,AV.vec false 2 (List.map Ln.a l)],vi 58000,ag [vi (wi (wi ex + wi ux)),vi (wi (wi ey + wi uy))],ag [vi (wi (wi ex + wi ux)),vi (wi (wi ey + wi uy))]],[],tu [ag [vi A,vi B,vi C,vi D,vi E,vi F,vi G,vi I,vi J,vi K,vi N,vi O,vi (R + (ex + ux - ex) + (ex + ux - (ex + ux))),vi (T + (ey + uy - ey) + (ey + uy - (ey + uy))),vi U,vi V,vi Y,vi Z,AV.vec false 2 (List.map Ln.a l)],vi 0],[]⟩,⟨true,false,27,[ag [vi A,vi B,vi C,vi D,vi E,vi F,vi G,vi I,vi J,vi K,vi N,vi O,vi (R + (ex + ux - ex)),vi (T + (ey + uy - ey)),vi U,vi V,vi Y,vi Z,AV.vec false 2 (List.map Ln.a l)],vi 58000,ag [vi (wi ex),vi (wi ey)],ag [vi (wi (wi ex + wi ux)),vi (wi (wi ey + wi uy))]],[],tu [ag [vi A,vi B,vi C,vi D,vi E,vi F,vi G,vi I,vi J,vi K,vi N,vi O,vi (R + (ex + ux - ex) + (ex + ux - ex)),vi (T + (ey + uy - ey) + (ey + uy - ey)),vi U,vi V,vi Y,vi Z,AV.vec false 2 (List.map Ln.a l)],vi 0],[]⟩,⟨true,false,27,[ag [vi A,vi B,vi C,vi D,vi E,vi F,vi G,vi I,vi J,vi K,vi N,vi O,vi (R + (ex + ux - ex)),vi (T + (ey + uy - ey)),vi U,vi V,vi Y,vi Z,AV.vec false 2 (List.map Ln.a l)],vi 58000,ag [vi (wi (wi ex + wi ux)),vi (wi (wi ey + wi uy))],ag [vi (wi ex),vi (wi ey)]],[],tu [ag [vi A,vi B,vi C,vi D,vi E,vi F,vi G,vi I,vi J,vi K,vi N,vi O,vi (R + (ex + ux - ex) + (ex - (ex + ux))),vi (T + (ey + uy - ey) + (ey - (ey + uy))),vi U,vi V,vi Y,vi Z,AV.vec false 2 (List.map Ln.a l)],vi 0],[]⟩,⟨(A == A && (B == B && (C == C && true)) && (D == D && (E == E && (F == F && true)) && (G == G && (I == I && (J == J && true)) && (K == K && (N == N && (O == O && true)) && (R + (ex + ux - ex) + (ex + ux - (ex + ux)) == R + (ex + ux - ex) && (T + (ey + uy - ey) + (ey + uy - (ey + uy)) == T + (ey + uy - ey) && (U == U && true)) && (V == V && (Y == Y && (Z == Z && true)) && true)))))) == true && true && true,false,29,[ag [vi R,vi T,vi U],ag [vi (wi ux),vi (wi uy),vi 0]],[],(zNpP35 R ux T uy U),[]⟩,⟨(Zd5 A B C D E F G I J K N O R ex ux T ey uy U V Y Z) == true && true && true,false,29,[ag [vi (R + (ex + ux - ex)),vi (T + (ey + uy - ey)),vi U],ag [vi (wi ux),vi (wi uy),vi 0]],[],(zNpP33 R ex ux T ey uy U),[]⟩]) (vb (bif bif bif A == A && (B == B && (C == C && true)) && (D == D && (E == E && (F == F && true)) && (G == G && (I == I && (J == J && true)) && (K == K && (N == N && (O == O && true)) && (R + (ex + ux - ex) + (ex + ux - (ex + ux)) == R + (ex + ux - ex) && (T + (ey + uy - ey) + (ey + uy - (ey + uy)) == T + (ey + uy - ey) && (U == U && true)) && (V == V && (Y == Y && (Z == Z && true)) && true))))) then R + (ex + ux - ex) == R + ux && (T + (ey + uy - ey) == T + uy && (U == U + 0 && true)) else false then R + (ex + ux - ex) + (ex + ux - ex) == R + (ex + ux - ex) + ux && (T + (ey + uy - ey) + (ey + uy - ey) == T + (ey + uy - ey) + uy && (U == U + 0 && true)) else false then A == A && (B == B && (C == C && true)) && (D == D && (E == E && (F == F && true)) && (G == G && (I == I && (J == J && true)) && (K == K && (N == N && (O == O && true)) && (R + (ex + ux - ex) + (ex - (ex + ux)) == R && (T + (ey + uy - ey) + (ey - (ey + uy)) == T && (U == U && true)) && (V == V && (Y == Y && (Z == Z && true)) && true))))) else false)) (by kernel_rfl) (bc rfl (bc rfl (bc rfl (bc rfl (bc rfl (bc rfl (bc (Bool.or_true _) (bc (Bool.or_true _) (bc (Bool.or_true _) (bc (Bool.or_true _) (bc (Bool.or_true _) (bc (Bool.or_true _) (bc (Zaj (fun h => d2 ((Zag Zaa Zaa).1 h))) (bc rfl (bc rfl (bc rfl (bc rfl (bc rfl (bc rfl (bc rfl (bc rfl (bc rfl (bc rfl (bc rfl (bc rfl (bc rfl (bc rfl (bc rfl (bc rfl (bc rfl (bc rfl (bc rfl (bc rfl (bc rfl (bc rfl (bc rfl (bc rfl (bc rfl (bc rfl (bc rfl (bc rfl (bc rfl (bc rfl (bc rfl (bc rfl (bc rfl (bc rfl (bc rfl (bc rfl (bc rfl (bc rfl (bc rfl (bc rfl (bc rfl (bc rfl (bc (Bool.or_true _) (bc (Bool.or_true _) (bc (Bool.or_true _) (bc (Bool.or_true _) (bc (Bool.or_true _) (bc (Bool.or_true _) (bc (Bool.or_true _) (bc (Bool.or_true _) (bc (Bool.or_true _) (bc (Bool.or_true _) (bc (Bool.or_true _) (bc (Bool.or_true _) (bc (Bool.or_true _) (bc (Bool.or_true _) (bc (Bool.or_true _) (bc (Bool.or_true _) b0))))))))))))))))))))))))))))))))))))))))))))))))))))))))))))))))))))))) q0 (cc (fun _ => (@ev28 (f) (l) (A) (B) (C) (D) (E) (F) (G) (I) (J) (K) (N) (O) (R) (T) (U) (V) (Y) (Z) k15)) (cc (fun _ => (by (try rw [w4]);(try rw [w6]);(try rw [w8]);(try rw [w10]);(try rw [w12]);(try rw [w14]);all_goals exact (@ZaS (false) (l) (A) (B) (C) (D) (E) (F) (G) (I) (J) (K) (N) (O) (R) (T) (U) (V) (Y) (Z) (ex) (ey) (ex + ux) (ey + uy) k17 d16))) (cc (fun _ => (by (try rw [w4]);(try rw [w6]);(try rw [w8]);(try rw [w10]);(try rw [w12]);(try rw [w14]);all_goals exact (@ZaS (false) (l) (A) (B) (C) (D) (E) (F) (G) (I) (J) (K) (N) (O) (R + (ex + ux - ex)) (T + (ey + uy - ey)) (U) (V) (Y) (Z) (ex + ux) (ey + uy) (ex + ux) (ey + uy) k19 d18))) (cc (fun _ => (by (try rw [w4]);(try rw [w6]);(try rw [w8]);(try rw [w10]);(try rw [w12]);(try rw [w14]);all_goals exact (@ZaS (false) (l) (A) (B) (C) (D) (E) (F) (G) (I) (J) (K) (N) (O) (R + (ex + ux - ex)) (T + (ey + uy - ey)) (U) (V) (Y) (Z) (ex) (ey) (ex + ux) (ey + uy) k21 d20))) (cc (fun _ => (by (try rw [w4]);(try rw [w6]);(try rw [w8]);(try rw [w10]);(try rw [w12]);(try rw [w14]);all_goals exact (@ZaS (false) (l) (A) (B) (C) (D) (E) (F) (G) (I) (J) (K) (N) (O) (R + (ex + ux - ex)) (T + (ey + uy - ey)) (U) (V) (Y) (Z) (ex + ux) (ey + uy) (ex) (ey) k23 d22))) (cc (fun hc => ((by (try rw [w8]);(try rw [w12]);all_goals exact (@ev29 (R) (T) (U) (ux) (uy) (0) (k25 ((i_at (i_at (i_bt (Zab (Zab i_eq (Zab i_eq (i_at i_eq))) (Zab (Zab i_eq (Zab i_eq (i_at i_eq))) (Zab (Zab i_eq (Zab i_eq (i_at i_eq))) (Zab (Zab i_eq (Zab i_eq (i_at i_eq))) (Zab (Zab i_eq (Zab i_eq (i_at i_eq))) (i_at (Zab i_eq (Zab i_eq (i_at i_eq)))))))))))).1 hc)))):Ev M1 (Conf.pure 29 [ag [vi R,vi T,vi U],ag [vi (wi ux),vi (wi uy),vi 0]]) ((zNpP35 R ux T uy U)) [])) (cc (fun hc => ((by (try rw [w8]);(try rw [w12]);all_goals exact (@ev29 (R + (ex + ux - ex)) (T + (ey + uy - ey)) (U) (ux) (uy) (0) (k27 ((i_at (i_at (i_bt (Zcy (Zab (Zab i_eq (Zab i_eq (i_at i_eq))) (Zab (Zab i_eq (Zab i_eq (i_at i_eq))) (Zab (Zab i_eq (Zab i_eq (i_at i_eq))) (Zab (Zab i_eq (Zab i_eq (i_at i_eq))) (Zab (Zab i_eq (Zab i_eq (i_at i_eq))) (i_at (Zab i_eq (Zab i_eq (i_at i_eq))))))))) (Zab i_eq (Zab i_eq (i_at i_eq))))))).1 hc)))):Ev M1 (Conf.pure 29 [ag [vi (R + (ex + ux - ex)),vi (T + (ey + uy - ey)),vi U],ag [vi (wi ux),vi (wi uy),vi 0]]) ((zNpP33 R ex ux T ey uy U)) [])) c0))))))) H
     ·obtain ⟨k28,H⟩:=H
      exact Zae (G:=Zad kp5 [(9,1,.call (ag [vi A,vi B,vi C,vi D,vi E,vi F,vi G,vi I,vi J,vi K,vi N,vi O,vi R,vi T,vi U,vi V,vi Y,vi Z,AV.vec false 2 (List.map Ln.a l)]) none),(9,5,.call (tu [ag [vi A,vi B,vi C,vi D,vi E,vi F,vi G,vi I,vi J,vi K,vi N,vi O,vi (R + (ex + ux - ex)),vi (T + (ey + uy - ey)),vi U,vi V,vi Y,vi Z,AV.vec false 2 (List.map Ln.a l)],vi 0]) none),(10,4,.call (tu [ag [vi A,vi B,vi C,vi D,vi E,vi F,vi G,vi I,vi J,vi K,vi N,vi O,vi (R + (ex + ux - ex) + (ex + ux - (ex + ux))),vi (T + (ey + uy - ey) + (ey + uy - (ey + uy))),vi U,vi V,vi Y,vi Z,AV.vec false 2 (List.map Ln.a l)],vi 0]) none),(11,4,.call (tu [ag [vi A,vi B,vi C,vi D,vi E,vi F,vi G,vi I,vi J,vi K,vi N,vi O,vi (R + (ex + ux - ex) + (ex + ux - ex)),vi (T + (ey + uy - ey) + (ey + uy - ey)),vi U,vi V,vi Y,vi Z,AV.vec false 2 (List.map Ln.a l)],vi 0]) none),(12,4,.call (tu [ZaK,vi 11]) none)] []) 1000 [false,true] (asm:=[true,true,true,true,true,true,!(decide ((if T > R then T else R) > 1000000) == false && true) || true,!(decide ((if T > R then T else R) > 1000000) == false && true) || true,!(decide ((if T > R then T else R) > 1000000) == false && true) || true,!(decide ((if T > R then T else R) > 1000000) == false && true) || true,!(decide ((if T > R then T else R) > 1000000) == false && true) || true,!(decide ((if T > R then T else R) > 1000000) == false && true) || true,(Zc9 T R) == false,true,true,true,true,true,true,true,true,true,true,true,true,true,true,true,true,true,true,true,true,true,true,true,true,true,true,true,true,true,true,true,true,true == true]) (calls:=[pc 28 [ag [vi A,vi B,vi C,vi D,vi E,vi F,vi G,vi I,vi J,vi K,vi N,vi O,vi R,vi T,vi U,vi V,vi Y,vi Z,AV.vec f 2 (List.map Ln.a l)]] (ag [vi A,vi B,vi C,vi D,vi E,vi F,vi G,vi I,vi J,vi K,vi N,vi O,vi R,vi T,vi U,vi V,vi Y,vi Z,AV.vec false 2 (List.map Ln.a l)]),pc 27 [ag [vi A,vi B,vi C,vi D,vi E,vi F,vi G,vi I,vi J,vi K,vi N,vi O,vi R,vi T,vi U,vi V,vi Y,vi Z,AV.vec false 2 (List.map Ln.a l)],vi 58000,ag [vi (wi ex),vi (wi ey)],ag [vi (wi (wi ex + wi ux)),vi (wi (wi ey + wi uy))]] (tu [ag [vi A,vi B,vi C,vi D,vi E,vi F,vi G,vi I,vi J,vi K,vi N,vi O,vi (R + (ex + ux - ex)),vi (T + (ey + uy - ey)),vi U,vi V,vi Y,vi Z,AV.vec false 2 (List.map Ln.a l)],vi 0]),pc 27 [ag [vi A,vi B,vi C,vi D,vi E,vi F,vi G,vi I,vi J,vi K,vi N,vi O,vi (R + (ex + ux - ex)),vi (T + (ey + uy - ey)),vi U,vi V,vi Y,vi Z,AV.vec false 2 (List.map Ln.a l)],vi 58000,ag [vi (wi (wi ex + wi ux)),vi (wi (wi ey + wi uy))],ag [vi (wi (wi ex + wi ux)),vi (wi (wi ey + wi uy))]] (tu [ag [vi A,vi B,vi C,vi D,vi E,vi F,vi G,vi I,vi J,vi K,vi N,vi O,vi (R + (ex + ux - ex) + (ex + ux - (ex + ux))),vi (T + (ey + uy - ey) + (ey + uy - (ey + uy))),vi U,vi V,vi Y,vi Z,AV.vec false 2 (List.map Ln.a l)],vi 0]),pc 27 [ag [vi A,vi B,vi C,vi D,vi E,vi F,vi G,vi I,vi J,vi K,vi N,vi O,vi (R + (ex + ux - ex)),vi (T + (ey + uy - ey)),vi U,vi V,vi Y,vi Z,AV.vec false 2 (List.map Ln.a l)],vi 58000,ag [vi (wi ex),vi (wi ey)],ag [vi (wi (wi ex + wi ux)),vi (wi (wi ey + wi uy))]] (tu [ag [vi A,vi B,vi C,vi D,vi E,vi F,vi G,vi I,vi J,vi K,vi N,vi O,vi (R + (ex + ux - ex) + (ex + ux - ex)),vi (T + (ey + uy - ey) + (ey + uy - ey)),vi U,vi V,vi Y,vi Z,AV.vec false 2 (List.map Ln.a l)],vi 0]),pc 27 [ag [vi A,vi B,vi C,vi D,vi E,vi F,vi G,vi I,vi J,vi K,vi N,vi O,vi (R + (ex + ux - ex)),vi (T + (ey + uy - ey)),vi U,vi V,vi Y,vi Z,AV.vec false 2 (List.map Ln.a l)],vi 58000,ag [vi (wi (wi ex + wi ux)),vi (wi (wi ey + wi uy))],ag [vi (wi ex),vi (wi ey)]] (tu [ZaK,vi 11])]) (vb false) (by kernel_rfl) (bc rfl (bc rfl (bc rfl (bc rfl (bc rfl (bc rfl (bc (Bool.or_true _) (bc (Bool.or_true _) (bc (Bool.or_true _) (bc (Bool.or_true _) (bc (Bool.or_true _) (bc (Bool.or_true _) (bc (Zaj (fun h => d2 ((Zag Zaa Zaa).1 h))) (bc rfl (bc rfl (bc rfl (bc rfl (bc rfl (bc rfl (bc rfl (bc rfl (bc rfl (bc rfl (bc rfl (bc rfl (bc rfl (bc rfl (bc rfl (bc rfl (bc rfl (bc rfl (bc rfl (bc rfl (bc rfl (bc rfl (bc rfl (bc rfl (bc rfl (bc rfl (bc rfl (bc rfl (bc rfl (bc rfl (bc rfl (bc rfl (bc rfl b0)))))))))))))))))))))))))))))))))))))))))))))) q0 (ce (@ev28 (f) (l) (A) (B) (C) (D) (E) (F) (G) (I) (J) (K) (N) (O) (R) (T) (U) (V) (Y) (Z) k15) (ce (by (try rw [w4]);(try rw [w6]);(try rw [w8]);(try rw [w10]);(try rw [w12]);(try rw [w14]);all_goals exact (@ZaS (false) (l) (A) (B) (C) (D) (E) (F) (G) (I) (J) (K) (N) (O) (R) (T) (U) (V) (Y) (Z) (ex) (ey) (ex + ux) (ey + uy) k17 d16)) (ce (by (try rw [w4]);(try rw [w6]);(try rw [w8]);(try rw [w10]);(try rw [w12]);(try rw [w14]);all_goals exact (@ZaS (false) (l) (A) (B) (C) (D) (E) (F) (G) (I) (J) (K) (N) (O) (R + (ex + ux - ex)) (T + (ey + uy - ey)) (U) (V) (Y) (Z) (ex + ux) (ey + uy) (ex + ux) (ey + uy) k19 d18)) (ce (by (try rw [w4]);(try rw [w6]);(try rw [w8]);(try rw [w10]);(try rw [w12]);(try rw [w14]);all_goals exact (@ZaS (false) (l) (A) (B) (C) (D) (E) (F) (G) (I) (J) (K) (N) (O) (R + (ex + ux - ex)) (T + (ey + uy - ey)) (U) (V) (Y) (Z) (ex) (ey) (ex + ux) (ey + uy) k21 d20)) (ce (by (try rw [w4]);(try rw [w6]);(try rw [w8]);(try rw [w10]);(try rw [w12]);(try rw [w14]);all_goals exact (@Zby (false) (l) (A) (B) (C) (D) (E) (F) (G) (I) (J) (K) (N) (O) (R + (ex + ux - ex)) (T + (ey + uy - ey)) (U) (V) (Y) (Z) (ex + ux) (ey + uy) (ex) (ey) k28 d22)) c0))))) H
    ·obtain ⟨k29,H⟩:=H
     rcases xq H with ⟨d30,H⟩|⟨d30,H⟩
     ·obtain ⟨k31,H⟩:=H
      exact Zae (G:=Zad kp5 [(9,1,.call (ag [vi A,vi B,vi C,vi D,vi E,vi F,vi G,vi I,vi J,vi K,vi N,vi O,vi R,vi T,vi U,vi V,vi Y,vi Z,AV.vec false 2 (List.map Ln.a l)]) none),(9,5,.call (tu [ag [vi A,vi B,vi C,vi D,vi E,vi F,vi G,vi I,vi J,vi K,vi N,vi O,vi (R + (ex + ux - ex)),vi (T + (ey + uy - ey)),vi U,vi V,vi Y,vi Z,AV.vec false 2 (List.map Ln.a l)],vi 0]) none),(10,4,.call (tu [ag [vi A,vi B,vi C,vi D,vi E,vi F,vi G,vi I,vi J,vi K,vi N,vi O,vi (R + (ex + ux - ex) + (ex + ux - (ex + ux))),vi (T + (ey + uy - ey) + (ey + uy - (ey + uy))),vi U,vi V,vi Y,vi Z,AV.vec false 2 (List.map Ln.a l)],vi 0]) none),(11,4,.call (tu [ZaK,vi 11]) none),(12,4,.call (tu [ag [vi A,vi B,vi C,vi D,vi E,vi F,vi G,vi I,vi J,vi K,vi N,vi O,vi (R + (ex + ux - ex) + (ex - (ex + ux))),vi (T + (ey + uy - ey) + (ey - (ey + uy))),vi U,vi V,vi Y,vi Z,AV.vec false 2 (List.map Ln.a l)],vi 0]) none)] []) 1000 [false,true] (asm:=[true,true,true,true,true,true,!(decide ((if T > R then T else R) > 1000000) == false && true) || true,!(decide ((if T > R then T else R) > 1000000) == false && true) || true,!(decide ((if T > R then T else R) > 1000000) == false && true) || true,!(decide ((if T > R then T else R) > 1000000) == false && true) || true,!(decide ((if T > R then T else R) > 1000000) == false && true) || true,!(decide ((if T > R then T else R) > 1000000) == false && true) || true,(Zc9 T R) == false,true,true,true,true,true,true,true,true,true,true,true,true,true,true,true,true,true,true,true,true,true,true,true,true,true,true,true,true,true,true,true,true,true == true]) (calls:=[pc 28 [ag [vi A,vi B,vi C,vi D,vi E,vi F,vi G,vi I,vi J,vi K,vi N,vi O,vi R,vi T,vi U,vi V,vi Y,vi Z,AV.vec f 2 (List.map Ln.a l)]] (ag [vi A,vi B,vi C,vi D,vi E,vi F,vi G,vi I,vi J,vi K,vi N,vi O,vi R,vi T,vi U,vi V,vi Y,vi Z,AV.vec false 2 (List.map Ln.a l)]),pc 27 [ag [vi A,vi B,vi C,vi D,vi E,vi F,vi G,vi I,vi J,vi K,vi N,vi O,vi R,vi T,vi U,vi V,vi Y,vi Z,AV.vec false 2 (List.map Ln.a l)],vi 58000,ag [vi (wi ex),vi (wi ey)],ag [vi (wi (wi ex + wi ux)),vi (wi (wi ey + wi uy))]] (tu [ag [vi A,vi B,vi C,vi D,vi E,vi F,vi G,vi I,vi J,vi K,vi N,vi O,vi (R + (ex + ux - ex)),vi (T + (ey + uy - ey)),vi U,vi V,vi Y,vi Z,AV.vec false 2 (List.map Ln.a l)],vi 0]),pc 27 [ag [vi A,vi B,vi C,vi D,vi E,vi F,vi G,vi I,vi J,vi K,vi N,vi O,vi (R + (ex + ux - ex)),vi (T + (ey + uy - ey)),vi U,vi V,vi Y,vi Z,AV.vec false 2 (List.map Ln.a l)],vi 58000,ag [vi (wi (wi ex + wi ux)),vi (wi (wi ey + wi uy))],ag [vi (wi (wi ex + wi ux)),vi (wi (wi ey + wi uy))]] (tu [ag [vi A,vi B,vi C,vi D,vi E,vi F,vi G,vi I,vi J,vi K,vi N,vi O,vi (R + (ex + ux - ex) + (ex + ux - (ex + ux))),vi (T + (ey + uy - ey) + (ey + uy - (ey + uy))),vi U,vi V,vi Y,vi Z,AV.vec false 2 (List.map Ln.a l)],vi 0]),pc 27 [ag [vi A,vi B,vi C,vi D,vi E,vi F,vi G,vi I,vi J,vi K,vi N,vi O,vi (R + (ex + ux - ex)),vi (T + (ey + uy - ey)),vi U,vi V,vi Y,vi Z,AV.vec false 2 (List.map Ln.a l)],vi 58000,ag [vi (wi ex),vi (wi ey)],ag [vi (wi (wi ex + wi ux)),vi (wi (wi ey + wi uy))]] (tu [ZaK,vi 11]),pc 27 [ag [vi A,vi B,vi C,vi D,vi E,vi F,vi G,vi I,vi J,vi K,vi N,vi O,vi (R + (ex + ux - ex)),vi (T + (ey + uy - ey)),vi U,vi V,vi Y,vi Z,AV.vec false 2 (List.map Ln.a l)],vi 58000,ag [vi (wi (wi ex + wi ux)),vi (wi (wi ey + wi uy))],ag [vi (wi ex),vi (wi ey)]] (tu [ag [vi A,vi B,vi C,vi D,vi E,vi F,vi G,vi I,vi J,vi K,vi N,vi O,vi (R + (ex + ux - ex) + (ex - (ex + ux))),vi (T + (ey + uy - ey) + (ey - (ey + uy))),vi U,vi V,vi Y,vi Z,AV.vec false 2 (List.map Ln.a l)],vi 0])]) (vb false) (by kernel_rfl) (bc rfl (bc rfl (bc rfl (bc rfl (bc rfl (bc rfl (bc (Bool.or_true _) (bc (Bool.or_true _) (bc (Bool.or_true _) (bc (Bool.or_true _) (bc (Bool.or_true _) (bc (Bool.or_true _) (bc (Zaj (fun h => d2 ((Zag Zaa Zaa).1 h))) (bc rfl (bc rfl (bc rfl (bc rfl (bc rfl (bc rfl (bc rfl (bc rfl (bc rfl (bc rfl (bc rfl (bc rfl (bc rfl (bc rfl (bc rfl (bc rfl (bc rfl (bc rfl (bc rfl (bc rfl (bc rfl (bc rfl (bc rfl (bc rfl (bc rfl (bc rfl (bc rfl (bc rfl (bc rfl (bc rfl (bc rfl (bc rfl (bc rfl b0)))))))))))))))))))))))))))))))))))))))))))))) q0 (ce (@ev28 (f) (l) (A) (B) (C) (D) (E) (F) (G) (I) (J) (K) (N) (O) (R) (T) (U) (V) (Y) (Z) k15) (ce (by (try rw [w4]);(try rw [w6]);(try rw [w8]);(try rw [w10]);(try rw [w12]);(try rw [w14]);all_goals exact (@ZaS (false) (l) (A) (B) (C) (D) (E) (F) (G) (I) (J) (K) (N) (O) (R) (T) (U) (V) (Y) (Z) (ex) (ey) (ex + ux) (ey + uy) k17 d16)) (ce (by (try rw [w4]);(try rw [w6]);(try rw [w8]);(try rw [w10]);(try rw [w12]);(try rw [w14]);all_goals exact (@ZaS (false) (l) (A) (B) (C) (D) (E) (F) (G) (I) (J) (K) (N) (O) (R + (ex + ux - ex)) (T + (ey + uy - ey)) (U) (V) (Y) (Z) (ex + ux) (ey + uy) (ex + ux) (ey + uy) k19 d18)) (ce (by (try rw [w4]);(try rw [w6]);(try rw [w8]);(try rw [w10]);(try rw [w12]);(try rw [w14]);all_goals exact (@Zby (false) (l) (A) (B) (C) (D) (E) (F) (G) (I) (J) (K) (N) (O) (R + (ex + ux - ex)) (T + (ey + uy - ey)) (U) (V) (Y) (Z) (ex) (ey) (ex + ux) (ey + uy) k29 d20)) (ce (by (try rw [w4]);(try rw [w6]);(try rw [w8]);(try rw [w10]);(try rw [w12]);(try rw [w14]);all_goals exact (@ZaS (false) (l) (A) (B) (C) (D) (E) (F) (G) (I) (J) (K) (N) (O) (R + (ex + ux - ex)) (T + (ey + uy - ey)) (U) (V) (Y) (Z) (ex + ux) (ey + uy) (ex) (ey) k31 d30)) c0))))) H
     ·obtain ⟨k32,H⟩:=H
      exact Zae (G:=Zad kp5 [(9,1,.call (ag [vi A,vi B,vi C,vi D,vi E,vi F,vi G,vi I,vi J,vi K,vi N,vi O,vi R,vi T,vi U,vi V,vi Y,vi Z,AV.vec false 2 (List.map Ln.a l)]) none),(9,5,.call (tu [ag [vi A,vi B,vi C,vi D,vi E,vi F,vi G,vi I,vi J,vi K,vi N,vi O,vi (R + (ex + ux - ex)),vi (T + (ey + uy - ey)),vi U,vi V,vi Y,vi Z,AV.vec false 2 (List.map Ln.a l)],vi 0]) none),(10,4,.call (tu [ag [vi A,vi B,vi C,vi D,vi E,vi F,vi G,vi I,vi J,vi K,vi N,vi O,vi (R + (ex + ux - ex) + (ex + ux - (ex + ux))),vi (T + (ey + uy - ey) + (ey + uy - (ey + uy))),vi U,vi V,vi Y,vi Z,AV.vec false 2 (List.map Ln.a l)],vi 0]) none),(11,4,.call (tu [ZaK,vi 11]) none),(12,4,.call (tu [ZaK,vi 11]) none)] []) 1000 [false,true] (asm:=[true,true,true,true,true,true,!(decide ((if T > R then T else R) > 1000000) == false && true) || true,!(decide ((if T > R then T else R) > 1000000) == false && true) || true,!(decide ((if T > R then T else R) > 1000000) == false && true) || true,!(decide ((if T > R then T else R) > 1000000) == false && true) || true,!(decide ((if T > R then T else R) > 1000000) == false && true) || true,!(decide ((if T > R then T else R) > 1000000) == false && true) || true,(Zc9 T R) == false,true,true,true,true,true,true,true,true,true,true,true,true,true,true,true,true,true,true,true,true,true,true,true,true,true,true,true,true,true,true,true,true,true == true]) (calls:=[pc 28 [ag [vi A,vi B,vi C,vi D,vi E,vi F,vi G,vi I,vi J,vi K,vi N,vi O,vi R,vi T,vi U,vi V,vi Y,vi Z,AV.vec f 2 (List.map Ln.a l)]] (ag [vi A,vi B,vi C,vi D,vi E,vi F,vi G,vi I,vi J,vi K,vi N,vi O,vi R,vi T,vi U,vi V,vi Y,vi Z,AV.vec false 2 (List.map Ln.a l)]),pc 27 [ag [vi A,vi B,vi C,vi D,vi E,vi F,vi G,vi I,vi J,vi K,vi N,vi O,vi R,vi T,vi U,vi V,vi Y,vi Z,AV.vec false 2 (List.map Ln.a l)],vi 58000,ag [vi (wi ex),vi (wi ey)],ag [vi (wi (wi ex + wi ux)),vi (wi (wi ey + wi uy))]] (tu [ag [vi A,vi B,vi C,vi D,vi E,vi F,vi G,vi I,vi J,vi K,vi N,vi O,vi (R + (ex + ux - ex)),vi (T + (ey + uy - ey)),vi U,vi V,vi Y,vi Z,AV.vec false 2 (List.map Ln.a l)],vi 0]),pc 27 [ag [vi A,vi B,vi C,vi D,vi E,vi F,vi G,vi I,vi J,vi K,vi N,vi O,vi (R + (ex + ux - ex)),vi (T + (ey + uy - ey)),vi U,vi V,vi Y,vi Z,AV.vec false 2 (List.map Ln.a l)],vi 58000,ag [vi (wi (wi ex + wi ux)),vi (wi (wi ey + wi uy))],ag [vi (wi (wi ex + wi ux)),vi (wi (wi ey + wi uy))]] (tu [ag [vi A,vi B,vi C,vi D,vi E,vi F,vi G,vi I,vi J,vi K,vi N,vi O,vi (R + (ex + ux - ex) + (ex + ux - (ex + ux))),vi (T + (ey + uy - ey) + (ey + uy - (ey + uy))),vi U,vi V,vi Y,vi Z,AV.vec false 2 (List.map Ln.a l)],vi 0]),pc 27 [ag [vi A,vi B,vi C,vi D,vi E,vi F,vi G,vi I,vi J,vi K,vi N,vi O,vi (R + (ex + ux - ex)),vi (T + (ey + uy - ey)),vi U,vi V,vi Y,vi Z,AV.vec false 2 (List.map Ln.a l)],vi 58000,ag [vi (wi ex),vi (wi ey)],ag [vi (wi (wi ex + wi ux)),vi (wi (wi ey + wi uy))]] (tu [ZaK,vi 11]),pc 27 [ag [vi A,vi B,vi C,vi D,vi E,vi F,vi G,vi I,vi J,vi K,vi N,vi O,vi (R + (ex + ux - ex)),vi (T + (ey + uy - ey)),vi U,vi V,vi Y,vi Z,AV.vec false 2 (List.map Ln.a l)],vi 58000,ag [vi (wi (wi ex + wi ux)),vi (wi (wi ey + wi uy))],ag [vi (wi ex),vi (wi ey)]] (tu [ZaK,vi 11])]) (vb false) (by kernel_rfl) (bc rfl (bc rfl (bc rfl (bc rfl (bc rfl (bc rfl (bc (Bool.or_true _) (bc (Bool.or_true _) (bc (Bool.or_true _) (bc (Bool.or_true _) (bc (Bool.or_true _) (bc (Bool.or_true _) (bc (Zaj (fun h => d2 ((Zag Zaa Zaa).1 h))) (bc rfl (bc rfl (bc rfl (bc rfl (bc rfl (bc rfl (bc rfl (bc rfl (bc rfl (bc rfl (bc rfl (bc rfl (bc rfl (bc rfl (bc rfl (bc rfl (bc rfl (bc rfl (bc rfl (bc rfl (bc rfl (bc rfl (bc rfl (bc rfl (bc rfl (bc rfl (bc rfl (bc rfl (bc rfl (bc rfl (bc rfl (bc rfl (bc rfl b0)))))))))))))))))))))))))))))))))))))))))))))) q0 (ce (@ev28 (f) (l) (A) (B) (C) (D) (E) (F) (G) (I) (J) (K) (N) (O) (R) (T) (U) (V) (Y) (Z) k15) (ce (by (try rw [w4]);(try rw [w6]);(try rw [w8]);(try rw [w10]);(try rw [w12]);(try rw [w14]);all_goals exact (@ZaS (false) (l) (A) (B) (C) (D) (E) (F) (G) (I) (J) (K) (N) (O) (R) (T) (U) (V) (Y) (Z) (ex) (ey) (ex + ux) (ey + uy) k17 d16)) (ce (by (try rw [w4]);(try rw [w6]);(try rw [w8]);(try rw [w10]);(try rw [w12]);(try rw [w14]);all_goals exact (@ZaS (false) (l) (A) (B) (C) (D) (E) (F) (G) (I) (J) (K) (N) (O) (R + (ex + ux - ex)) (T + (ey + uy - ey)) (U) (V) (Y) (Z) (ex + ux) (ey + uy) (ex + ux) (ey + uy) k19 d18)) (ce (by (try rw [w4]);(try rw [w6]);(try rw [w8]);(try rw [w10]);(try rw [w12]);(try rw [w14]);all_goals exact (@Zby (false) (l) (A) (B) (C) (D) (E) (F) (G) (I) (J) (K) (N) (O) (R + (ex + ux - ex)) (T + (ey + uy - ey)) (U) (V) (Y) (Z) (ex) (ey) (ex + ux) (ey + uy) k29 d20)) (ce (by (try rw [w4]);(try rw [w6]);(try rw [w8]);(try rw [w10]);(try rw [w12]);(try rw [w14]);all_goals exact (@Zby (false) (l) (A) (B) (C) (D) (E) (F) (G) (I) (J) (K) (N) (O) (R + (ex + ux - ex)) (T + (ey + uy - ey)) (U) (V) (Y) (Z) (ex + ux) (ey + uy) (ex) (ey) k32 d30)) c0))))) H
   ·obtain ⟨k33,H⟩:=H
    rcases xq H with ⟨d34,H⟩|⟨d34,H⟩
    ·obtain ⟨k35,H⟩:=H
     rcases xq H with ⟨d36,H⟩|⟨d36,H⟩
     ·obtain ⟨k37,H⟩:=H
      exact Zae (G:=Zad kp5 [(9,1,.call (ag [vi A,vi B,vi C,vi D,vi E,vi F,vi G,vi I,vi J,vi K,vi N,vi O,vi R,vi T,vi U,vi V,vi Y,vi Z,AV.vec false 2 (List.map Ln.a l)]) none),(9,5,.call (tu [ag [vi A,vi B,vi C,vi D,vi E,vi F,vi G,vi I,vi J,vi K,vi N,vi O,vi (R + (ex + ux - ex)),vi (T + (ey + uy - ey)),vi U,vi V,vi Y,vi Z,AV.vec false 2 (List.map Ln.a l)],vi 0]) none),(10,4,.call (tu [ZaK,vi 11]) none),(11,4,.call (tu [ag [vi A,vi B,vi C,vi D,vi E,vi F,vi G,vi I,vi J,vi K,vi N,vi O,vi (R + (ex + ux - ex) + (ex + ux - ex)),vi (T + (ey + uy - ey) + (ey + uy - ey)),vi U,vi V,vi Y,vi Z,AV.vec false 2 (List.map Ln.a l)],vi 0]) none),(12,4,.call (tu [ag [vi A,vi B,vi C,vi D,vi E,vi F,vi G,vi I,vi J,vi K,vi N,vi O,vi (R + (ex + ux - ex) + (ex - (ex + ux))),vi (T + (ey + uy - ey) + (ey - (ey + uy))),vi U,vi V,vi Y,vi Z,AV.vec false 2 (List.map Ln.a l)],vi 0]) none)] []) 1000 [false,true] (asm:=[true,true,true,true,true,true,!(decide ((if T > R then T else R) > 1000000) == false && true) || true,!(decide ((if T > R then T else R) > 1000000) == false && true) || true,!(decide ((if T > R then T else R) > 1000000) == false && true) || true,!(decide ((if T > R then T else R) > 1000000) == false && true) || true,!(decide ((if T > R then T else R) > 1000000) == false && true) || true,!(decide ((if T > R then T else R) > 1000000) == false && true) || true,(Zc9 T R) == false,true,true,true,true,true,true,true,true,true,true,true,true,true,true,true,true,true,true,true,true,true,true,true,true,true,true,true,true,true,true,true,true,true == true]) (calls:=[pc 28 [ag [vi A,vi B,vi C,vi D,vi E,vi F,vi G,vi I,vi J,vi K,vi N,vi O,vi R,vi T,vi U,vi V,vi Y,vi Z,AV.vec f 2 (List.map Ln.a l)]] (ag [vi A,vi B,vi C,vi D,vi E,vi F,vi G,vi I,vi J,vi K,vi N,vi O,vi R,vi T,vi U,vi V,vi Y,vi Z,AV.vec false 2 (List.map Ln.a l)]),pc 27 [ag [vi A,vi B,vi C,vi D,vi E,vi F,vi G,vi I,vi J,vi K,vi N,vi O,vi R,vi T,vi U,vi V,vi Y,vi Z,AV.vec false 2 (List.map Ln.a l)],vi 58000,ag [vi (wi ex),vi (wi ey)],ag [vi (wi (wi ex + wi ux)),vi (wi (wi ey + wi uy))]] (tu [ag [vi A,vi B,vi C,vi D,vi E,vi F,vi G,vi I,vi J,vi K,vi N,vi O,vi (R + (ex + ux - ex)),vi (T + (ey + uy - ey)),vi U,vi V,vi Y,vi Z,AV.vec false 2 (List.map Ln.a l)],vi 0]),pc 27 [ag [vi A,vi B,vi C,vi D,vi E,vi F,vi G,vi I,vi J,vi K,vi N,vi O,vi (R + (ex + ux - ex)),vi (T + (ey + uy - ey)),vi U,vi V,vi Y,vi Z,AV.vec false 2 (List.map Ln.a l)],vi 58000,ag [vi (wi (wi ex + wi ux)),vi (wi (wi ey + wi uy))],ag [vi (wi (wi ex + wi ux)),vi (wi (wi ey + wi uy))]] (tu [ZaK,vi 11]),pc 27 [ag [vi A,vi B,vi C,vi D,vi E,vi F,vi G,vi I,vi J,vi K,vi N,vi O,vi (R + (ex + ux - ex)),vi (T + (ey + uy - ey)),vi U,vi V,vi Y,vi Z,AV.vec false 2 (List.map Ln.a l)],vi 58000,ag [vi (wi ex),vi (wi ey)],ag [vi (wi (wi ex + wi ux)),vi (wi (wi ey + wi uy))]] (tu [ag [vi A,vi B,vi C,vi D,vi E,vi F,vi G,vi I,vi J,vi K,vi N,vi O,vi (R + (ex + ux - ex) + (ex + ux - ex)),vi (T + (ey + uy - ey) + (ey + uy - ey)),vi U,vi V,vi Y,vi Z,AV.vec false 2 (List.map Ln.a l)],vi 0]),pc 27 [ag [vi A,vi B,vi C,vi D,vi E,vi F,vi G,vi I,vi J,vi K,vi N,vi O,vi (R + (ex + ux - ex)),vi (T + (ey + uy - ey)),vi U,vi V,vi Y,vi Z,AV.vec false 2 (List.map Ln.a l)],vi 58000,ag [vi (wi (wi ex + wi ux)),vi (wi (wi ey + wi uy))],ag [vi (wi ex),vi (wi ey)]] (tu [ag [vi A,vi B,vi C,vi D,vi E,vi F,vi G,vi I,vi J,vi K,vi N,vi O,vi (R + (ex + ux - ex) + (ex - (ex + ux))),vi (T + (ey + uy - ey) + (ey - (ey + uy))),vi U,vi V,vi Y,vi Z,AV.vec false 2 (List.map Ln.a l)],vi 0])]) (vb false) (by kernel_rfl) (bc rfl (bc rfl (bc rfl (bc rfl (bc rfl (bc rfl (bc (Bool.or_true _) (bc (Bool.or_true _) (bc (Bool.or_true _) (bc (Bool.or_true _) (bc (Bool.or_true _) (bc (Bool.or_true _) (bc (Zaj (fun h => d2 ((Zag Zaa Zaa).1 h))) (bc rfl (bc rfl (bc rfl (bc rfl (bc rfl (bc rfl (bc rfl (bc rfl (bc rfl (bc rfl (bc rfl (bc rfl (bc rfl (bc rfl (bc rfl (bc rfl (bc rfl (bc rfl (bc rfl (bc rfl (bc rfl (bc rfl (bc rfl (bc rfl (bc rfl (bc rfl (bc rfl (bc rfl (bc rfl (bc rfl (bc rfl (bc rfl (bc rfl b0)))))))))))))))))))))))))))))))))))))))))))))) q0 (ce (@ev28 (f) (l) (A) (B) (C) (D) (E) (F) (G) (I) (J) (K) (N) (O) (R) (T) (U) (V) (Y) (Z) k15) (ce (by (try rw [w4]);(try rw [w6]);(try rw [w8]);(try rw [w10]);(try rw [w12]);(try rw [w14]);all_goals exact (@ZaS (false) (l) (A) (B) (C) (D) (E) (F) (G) (I) (J) (K) (N) (O) (R) (T) (U) (V) (Y) (Z) (ex) (ey) (ex + ux) (ey + uy) k17 d16)) (ce (by (try rw [w4]);(try rw [w6]);(try rw [w8]);(try rw [w10]);(try rw [w12]);(try rw [w14]);all_goals exact (@Zby (false) (l) (A) (B) (C) (D) (E) (F) (G) (I) (J) (K) (N) (O) (R + (ex + ux - ex)) (T + (ey + uy - ey)) (U) (V) (Y) (Z) (ex + ux) (ey + uy) (ex + ux) (ey + uy) k33 d18)) (ce (by (try rw [w4]);(try rw [w6]);(try rw [w8]);(try rw [w10]);(try rw [w12]);(try rw [w14]);all_goals exact (@ZaS (false) (l) (A) (B) (C) (D) (E) (F) (G) (I) (J) (K) (N) (O) (R + (ex + ux - ex)) (T + (ey + uy - ey)) (U) (V) (Y) (Z) (ex) (ey) (ex + ux) (ey + uy) k35 d34)) (ce (by (try rw [w4]);(try rw [w6]);(try rw [w8]);(try rw [w10]);(try rw [w12]);(try rw [w14]);all_goals exact (@ZaS (false) (l) (A) (B) (C) (D) (E) (F) (G) (I) (J) (K) (N) (O) (R + (ex + ux - ex)) (T + (ey + uy - ey)) (U) (V) (Y) (Z) (ex + ux) (ey + uy) (ex) (ey) k37 d36)) c0))))) H
     ·obtain ⟨k38,H⟩:=H
      exact Zae (G:=Zad kp5 [(9,1,.call (ag [vi A,vi B,vi C,vi D,vi E,vi F,vi G,vi I,vi J,vi K,vi N,vi O,vi R,vi T,vi U,vi V,vi Y,vi Z,AV.vec false 2 (List.map Ln.a l)]) none),(9,5,.call (tu [ag [vi A,vi B,vi C,vi D,vi E,vi F,vi G,vi I,vi J,vi K,vi N,vi O,vi (R + (ex + ux - ex)),vi (T + (ey + uy - ey)),vi U,vi V,vi Y,vi Z,AV.vec false 2 (List.map Ln.a l)],vi 0]) none),(10,4,.call (tu [ZaK,vi 11]) none),(11,4,.call (tu [ag [vi A,vi B,vi C,vi D,vi E,vi F,vi G,vi I,vi J,vi K,vi N,vi O,vi (R + (ex + ux - ex) + (ex + ux - ex)),vi (T + (ey + uy - ey) + (ey + uy - ey)),vi U,vi V,vi Y,vi Z,AV.vec false 2 (List.map Ln.a l)],vi 0]) none),(12,4,.call (tu [ZaK,vi 11]) none)] []) 1000 [false,true] (asm:=[true,true,true,true,true,true,!(decide ((if T > R then T else R) > 1000000) == false && true) || true,!(decide ((if T > R then T else R) > 1000000) == false && true) || true,!(decide ((if T > R then T else R) > 1000000) == false && true) || true,!(decide ((if T > R then T else R) > 1000000) == false && true) || true,!(decide ((if T > R then T else R) > 1000000) == false && true) || true,!(decide ((if T > R then T else R) > 1000000) == false && true) || true,(Zc9 T R) == false,true,true,true,true,true,true,true,true,true,true,true,true,true,true,true,true,true,true,true,true,true,true,true,true,true,true,true,true,true,true,true,true,true == true]) (calls:=[pc 28 [ag [vi A,vi B,vi C,vi D,vi E,vi F,vi G,vi I,vi J,vi K,vi N,vi O,vi R,vi T,vi U,vi V,vi Y,vi Z,AV.vec f 2 (List.map Ln.a l)]] (ag [vi A,vi B,vi C,vi D,vi E,vi F,vi G,vi I,vi J,vi K,vi N,vi O,vi R,vi T,vi U,vi V,vi Y,vi Z,AV.vec false 2 (List.map Ln.a l)]),pc 27 [ag [vi A,vi B,vi C,vi D,vi E,vi F,vi G,vi I,vi J,vi K,vi N,vi O,vi R,vi T,vi U,vi V,vi Y,vi Z,AV.vec false 2 (List.map Ln.a l)],vi 58000,ag [vi (wi ex),vi (wi ey)],ag [vi (wi (wi ex + wi ux)),vi (wi (wi ey + wi uy))]] (tu [ag [vi A,vi B,vi C,vi D,vi E,vi F,vi G,vi I,vi J,vi K,vi N,vi O,vi (R + (ex + ux - ex)),vi (T + (ey + uy - ey)),vi U,vi V,vi Y,vi Z,AV.vec false 2 (List.map Ln.a l)],vi 0]),pc 27 [ag [vi A,vi B,vi C,vi D,vi E,vi F,vi G,vi I,vi J,vi K,vi N,vi O,vi (R + (ex + ux - ex)),vi (T + (ey + uy - ey)),vi U,vi V,vi Y,vi Z,AV.vec false 2 (List.map Ln.a l)],vi 58000,ag [vi (wi (wi ex + wi ux)),vi (wi (wi ey + wi uy))],ag [vi (wi (wi ex + wi ux)),vi (wi (wi ey + wi uy))]] (tu [ZaK,vi 11]),pc 27 [ag [vi A,vi B,vi C,vi D,vi E,vi F,vi G,vi I,vi J,vi K,vi N,vi O,vi (R + (ex + ux - ex)),vi (T + (ey + uy - ey)),vi U,vi V,vi Y,vi Z,AV.vec false 2 (List.map Ln.a l)],vi 58000,ag [vi (wi ex),vi (wi ey)],ag [vi (wi (wi ex + wi ux)),vi (wi (wi ey + wi uy))]] (tu [ag [vi A,vi B,vi C,vi D,vi E,vi F,vi G,vi I,vi J,vi K,vi N,vi O,vi (R + (ex + ux - ex) + (ex + ux - ex)),vi (T + (ey + uy - ey) + (ey + uy - ey)),vi U,vi V,vi Y,vi Z,AV.vec false 2 (List.map Ln.a l)],vi 0]),pc 27 [ag [vi A,vi B,vi C,vi D,vi E,vi F,vi G,vi I,vi J,vi K,vi N,vi O,vi (R + (ex + ux - ex)),vi (T + (ey + uy - ey)),vi U,vi V,vi Y,vi Z,AV.vec false 2 (List.map Ln.a l)],vi 58000,ag [vi (wi (wi ex + wi ux)),vi (wi (wi ey + wi uy))],ag [vi (wi ex),vi (wi ey)]] (tu [ZaK,vi 11])]) (vb false) (by kernel_rfl) (bc rfl (bc rfl (bc rfl (bc rfl (bc rfl (bc rfl (bc (Bool.or_true _) (bc (Bool.or_true _) (bc (Bool.or_true _) (bc (Bool.or_true _) (bc (Bool.or_true _) (bc (Bool.or_true _) (bc (Zaj (fun h => d2 ((Zag Zaa Zaa).1 h))) (bc rfl (bc rfl (bc rfl (bc rfl (bc rfl (bc rfl (bc rfl (bc rfl (bc rfl (bc rfl (bc rfl (bc rfl (bc rfl (bc rfl (bc rfl (bc rfl (bc rfl (bc rfl (bc rfl (bc rfl (bc rfl (bc rfl (bc rfl (bc rfl (bc rfl (bc rfl (bc rfl (bc rfl (bc rfl (bc rfl (bc rfl (bc rfl (bc rfl b0)))))))))))))))))))))))))))))))))))))))))))))) q0 (ce (@ev28 (f) (l) (A) (B) (C) (D) (E) (F) (G) (I) (J) (K) (N) (O) (R) (T) (U) (V) (Y) (Z) k15) (ce (by (try rw [w4]);(try rw [w6]);(try rw [w8]);(try rw [w10]);(try rw [w12]);(try rw [w14]);all_goals exact (@ZaS (false) (l) (A) (B) (C) (D) (E) (F) (G) (I) (J) (K) (N) (O) (R) (T) (U) (V) (Y) (Z) (ex) (ey) (ex + ux) (ey + uy) k17 d16)) (ce (by (try rw [w4]);(try rw [w6]);(try rw [w8]);(try rw [w10]);(try rw [w12]);(try rw [w14]);all_goals exact (@Zby (false) (l) (A) (B) (C) (D) (E) (F) (G) (I) (J) (K) (N) (O) (R + (ex + ux - ex)) (T + (ey + uy - ey)) (U) (V) (Y) (Z) (ex + ux) (ey + uy) (ex + ux) (ey + uy) k33 d18)) (ce (by (try rw [w4]);(try rw [w6]);(try rw [w8]);(try rw [w10]);(try rw [w12]);(try rw [w14]);all_goals exact (@ZaS (false) (l) (A) (B) (C) (D) (E) (F) (G) (I) (J) (K) (N) (O) (R + (ex + ux - ex)) (T + (ey + uy - ey)) (U) (V) (Y) (Z) (ex) (ey) (ex + ux) (ey + uy) k35 d34)) (ce (by (try rw [w4]);(try rw [w6]);(try rw [w8]);(try rw [w10]);(try rw [w12]);(try rw [w14]);all_goals exact (@Zby (false) (l) (A) (B) (C) (D) (E) (F) (G) (I) (J) (K) (N) (O) (R + (ex + ux - ex)) (T + (ey + uy - ey)) (U) (V) (Y) (Z) (ex + ux) (ey + uy) (ex) (ey) k38 d36)) c0))))) H
    ·obtain ⟨k39,H⟩:=H
     rcases xq H with ⟨d40,H⟩|⟨d40,H⟩
     ·obtain ⟨k41,H⟩:=H
      exact Zae (G:=Zad kp5 [(9,1,.call (ag [vi A,vi B,vi C,vi D,vi E,vi F,vi G,vi I,vi J,vi K,vi N,vi O,vi R,vi T,vi U,vi V,vi Y,vi Z,AV.vec false 2 (List.map Ln.a l)]) none),(9,5,.call (tu [ag [vi A,vi B,vi C,vi D,vi E,vi F,vi G,vi I,vi J,vi K,vi N,vi O,vi (R + (ex + ux - ex)),vi (T + (ey + uy - ey)),vi U,vi V,vi Y,vi Z,AV.vec false 2 (List.map Ln.a l)],vi 0]) none),(10,4,.call (tu [ZaK,vi 11]) none),(11,4,.call (tu [ZaK,vi 11]) none),(12,4,.call (tu [ag [vi A,vi B,vi C,vi D,vi E,vi F,vi G,vi I,vi J,vi K,vi N,vi O,vi (R + (ex + ux - ex) + (ex - (ex + ux))),vi (T + (ey + uy - ey) + (ey - (ey + uy))),vi U,vi V,vi Y,vi Z,AV.vec false 2 (List.map Ln.a l)],vi 0]) none)] []) 1000 [false,true] (asm:=[true,true,true,true,true,true,!(decide ((if T > R then T else R) > 1000000) == false && true) || true,!(decide ((if T > R then T else R) > 1000000) == false && true) || true,!(decide ((if T > R then T else R) > 1000000) == false && true) || true,!(decide ((if T > R then T else R) > 1000000) == false && true) || true,!(decide ((if T > R then T else R) > 1000000) == false && true) || true,!(decide ((if T > R then T else R) > 1000000) == false && true) || true,(Zc9 T R) == false,true,true,true,true,true,true,true,true,true,true,true,true,true,true,true,true,true,true,true,true,true,true,true,true,true,true,true,true,true,true,true,true,true == true]) (calls:=[pc 28 [ag [vi A,vi B,vi C,vi D,vi E,vi F,vi G,vi I,vi J,vi K,vi N,vi O,vi R,vi T,vi U,vi V,vi Y,vi Z,AV.vec f 2 (List.map Ln.a l)]] (ag [vi A,vi B,vi C,vi D,vi E,vi F,vi G,vi I,vi J,vi K,vi N,vi O,vi R,vi T,vi U,vi V,vi Y,vi Z,AV.vec false 2 (List.map Ln.a l)]),pc 27 [ag [vi A,vi B,vi C,vi D,vi E,vi F,vi G,vi I,vi J,vi K,vi N,vi O,vi R,vi T,vi U,vi V,vi Y,vi Z,AV.vec false 2 (List.map Ln.a l)],vi 58000,ag [vi (wi ex),vi (wi ey)],ag [vi (wi (wi ex + wi ux)),vi (wi (wi ey + wi uy))]] (tu [ag [vi A,vi B,vi C,vi D,vi E,vi F,vi G,vi I,vi J,vi K,vi N,vi O,vi (R + (ex + ux - ex)),vi (T + (ey + uy - ey)),vi U,vi V,vi Y,vi Z,AV.vec false 2 (List.map Ln.a l)],vi 0]),pc 27 [ag [vi A,vi B,vi C,vi D,vi E,vi F,vi G,vi I,vi J,vi K,vi N,vi O,vi (R + (ex + ux - ex)),vi (T + (ey + uy - ey)),vi U,vi V,vi Y,vi Z,AV.vec false 2 (List.map Ln.a l)],vi 58000,ag [vi (wi (wi ex + wi ux)),vi (wi (wi ey + wi uy))],ag [vi (wi (wi ex + wi ux)),vi (wi (wi ey + wi uy))]] (tu [ZaK,vi 11]),pc 27 [ag [vi A,vi B,vi C,vi D,vi E,vi F,vi G,vi I,vi J,vi K,vi N,vi O,vi (R + (ex + ux - ex)),vi (T + (ey + uy - ey)),vi U,vi V,vi Y,vi Z,AV.vec false 2 (List.map Ln.a l)],vi 58000,ag [vi (wi ex),vi (wi ey)],ag [vi (wi (wi ex + wi ux)),vi (wi (wi ey + wi uy))]] (tu [ZaK,vi 11]),pc 27 [ag [vi A,vi B,vi C,vi D,vi E,vi F,vi G,vi I,vi J,vi K,vi N,vi O,vi (R + (ex + ux - ex)),vi (T + (ey + uy - ey)),vi U,vi V,vi Y,vi Z,AV.vec false 2 (List.map Ln.a l)],vi 58000,ag [vi (wi (wi ex + wi ux)),vi (wi (wi ey + wi uy))],ag [vi (wi ex),vi (wi ey)]] (tu [ag [vi A,vi B,vi C,vi D,vi E,vi F,vi G,vi I,vi J,vi K,vi N,vi O,vi (R + (ex + ux - ex) + (ex - (ex + ux))),vi (T + (ey + uy - ey) + (ey - (ey + uy))),vi U,vi V,vi Y,vi Z,AV.vec false 2 (List.map Ln.a l)],vi 0])]) (vb false) (by kernel_rfl) (bc rfl (bc rfl (bc rfl (bc rfl (bc rfl (bc rfl (bc (Bool.or_true _) (bc (Bool.or_true _) (bc (Bool.or_true _) (bc (Bool.or_true _) (bc (Bool.or_true _) (bc (Bool.or_true _) (bc (Zaj (fun h => d2 ((Zag Zaa Zaa).1 h))) (bc rfl (bc rfl (bc rfl (bc rfl (bc rfl (bc rfl (bc rfl (bc rfl (bc rfl (bc rfl (bc rfl (bc rfl (bc rfl (bc rfl (bc rfl (bc rfl (bc rfl (bc rfl (bc rfl (bc rfl (bc rfl (bc rfl (bc rfl (bc rfl (bc rfl (bc rfl (bc rfl (bc rfl (bc rfl (bc rfl (bc rfl (bc rfl (bc rfl b0)))))))))))))))))))))))))))))))))))))))))))))) q0 (ce (@ev28 (f) (l) (A) (B) (C) (D) (E) (F) (G) (I) (J) (K) (N) (O) (R) (T) (U) (V) (Y) (Z) k15) (ce (by (try rw [w4]);(try rw [w6]);(try rw [w8]);(try rw [w10]);(try rw [w12]);(try rw [w14]);all_goals exact (@ZaS (false) (l) (A) (B) (C) (D) (E) (F) (G) (I) (J) (K) (N) (O) (R) (T) (U) (V) (Y) (Z) (ex) (ey) (ex + ux) (ey + uy) k17 d16)) (ce (by (try rw [w4]);(try rw [w6]);(try rw [w8]);(try rw [w10]);(try rw [w12]);(try rw [w14]);all_goals exact (@Zby (false) (l) (A) (B) (C) (D) (E) (F) (G) (I) (J) (K) (N) (O) (R + (ex + ux - ex)) (T + (ey + uy - ey)) (U) (V) (Y) (Z) (ex + ux) (ey + uy) (ex + ux) (ey + uy) k33 d18)) (ce (by (try rw [w4]);(try rw [w6]);(try rw [w8]);(try rw [w10]);(try rw [w12]);(try rw [w14]);all_goals exact (@Zby (false) (l) (A) (B) (C) (D) (E) (F) (G) (I) (J) (K) (N) (O) (R + (ex + ux - ex)) (T + (ey + uy - ey)) (U) (V) (Y) (Z) (ex) (ey) (ex + ux) (ey + uy) k39 d34)) (ce (by (try rw [w4]);(try rw [w6]);(try rw [w8]);(try rw [w10]);(try rw [w12]);(try rw [w14]);all_goals exact (@ZaS (false) (l) (A) (B) (C) (D) (E) (F) (G) (I) (J) (K) (N) (O) (R + (ex + ux - ex)) (T + (ey + uy - ey)) (U) (V) (Y) (Z) (ex + ux) (ey + uy) (ex) (ey) k41 d40)) c0))))) H
     ·obtain ⟨k42,H⟩:=H
      exact Zae (G:=Zad kp5 [(9,1,.call (ag [vi A,vi B,vi C,vi D,vi E,vi F,vi G,vi I,vi J,vi K,vi N,vi O,vi R,vi T,vi U,vi V,vi Y,vi Z,AV.vec false 2 (List.map Ln.a l)]) none),(9,5,.call (tu [ag [vi A,vi B,vi C,vi D,vi E,vi F,vi G,vi I,vi J,vi K,vi N,vi O,vi (R + (ex + ux - ex)),vi (T + (ey + uy - ey)),vi U,vi V,vi Y,vi Z,AV.vec false 2 (List.map Ln.a l)],vi 0]) none),(10,4,.call (tu [ZaK,vi 11]) none),(11,4,.call (tu [ZaK,vi 11]) none),(12,4,.call (tu [ZaK,vi 11]) none)] []) 1000 [false,true] (asm:=[true,true,true,true,true,true,!(decide ((if T > R then T else R) > 1000000) == false && true) || true,!(decide ((if T > R then T else R) > 1000000) == false && true) || true,!(decide ((if T > R then T else R) > 1000000) == false && true) || true,!(decide ((if T > R then T else R) > 1000000) == false && true) || true,!(decide ((if T > R then T else R) > 1000000) == false && true) || true,!(decide ((if T > R then T else R) > 1000000) == false && true) || true,(Zc9 T R) == false,true,true,true,true,true,true,true,true,true,true,true,true,true,true,true,true,true,true,true,true,true,true,true,true,true,true,true,true,true,true,true,true,true == true]) (calls:=[pc 28 [ag [vi A,vi B,vi C,vi D,vi E,vi F,vi G,vi I,vi J,vi K,vi N,vi O,vi R,vi T,vi U,vi V,vi Y,vi Z,AV.vec f 2 (List.map Ln.a l)]] (ag [vi A,vi B,vi C,vi D,vi E,vi F,vi G,vi I,vi J,vi K,vi N,vi O,vi R,vi T,vi U,vi V,vi Y,vi Z,AV.vec false 2 (List.map Ln.a l)]),pc 27 [ag [vi A,vi B,vi C,vi D,vi E,vi F,vi G,vi I,vi J,vi K,vi N,vi O,vi R,vi T,vi U,vi V,vi Y,vi Z,AV.vec false 2 (List.map Ln.a l)],vi 58000,ag [vi (wi ex),vi (wi ey)],ag [vi (wi (wi ex + wi ux)),vi (wi (wi ey + wi uy))]] (tu [ag [vi A,vi B,vi C,vi D,vi E,vi F,vi G,vi I,vi J,vi K,vi N,vi O,vi (R + (ex + ux - ex)),vi (T + (ey + uy - ey)),vi U,vi V,vi Y,vi Z,AV.vec false 2 (List.map Ln.a l)],vi 0]),pc 27 [ag [vi A,vi B,vi C,vi D,vi E,vi F,vi G,vi I,vi J,vi K,vi N,vi O,vi (R + (ex + ux - ex)),vi (T + (ey + uy - ey)),vi U,vi V,vi Y,vi Z,AV.vec false 2 (List.map Ln.a l)],vi 58000,ag [vi (wi (wi ex + wi ux)),vi (wi (wi ey + wi uy))],ag [vi (wi (wi ex + wi ux)),vi (wi (wi ey + wi uy))]] (tu [ZaK,vi 11]),pc 27 [ag [vi A,vi B,vi C,vi D,vi E,vi F,vi G,vi I,vi J,vi K,vi N,vi O,vi (R + (ex + ux - ex)),vi (T + (ey + uy - ey)),vi U,vi V,vi Y,vi Z,AV.vec false 2 (List.map Ln.a l)],vi 58000,ag [vi (wi ex),vi (wi ey)],ag [vi (wi (wi ex + wi ux)),vi (wi (wi ey + wi uy))]] (tu [ZaK,vi 11]),pc 27 [ag [vi A,vi B,vi C,vi D,vi E,vi F,vi G,vi I,vi J,vi K,vi N,vi O,vi (R + (ex + ux - ex)),vi (T + (ey + uy - ey)),vi U,vi V,vi Y,vi Z,AV.vec false 2 (List.map Ln.a l)],vi 58000,ag [vi (wi (wi ex + wi ux)),vi (wi (wi ey + wi uy))],ag [vi (wi ex),vi (wi ey)]] (tu [ZaK,vi 11])]) (vb false) (by kernel_rfl) (bc rfl (bc rfl (bc rfl (bc rfl (bc rfl (bc rfl (bc (Bool.or_true _) (bc (Bool.or_true _) (bc (Bool.or_true _) (bc (Bool.or_true _) (bc (Bool.or_true _) (bc (Bool.or_true _) (bc (Zaj (fun h => d2 ((Zag Zaa Zaa).1 h))) (bc rfl (bc rfl (bc rfl (bc rfl (bc rfl (bc rfl (bc rfl (bc rfl (bc rfl (bc rfl (bc rfl (bc rfl (bc rfl (bc rfl (bc rfl (bc rfl (bc rfl (bc rfl (bc rfl (bc rfl (bc rfl (bc rfl (bc rfl (bc rfl (bc rfl (bc rfl (bc rfl (bc rfl (bc rfl (bc rfl (bc rfl (bc rfl (bc rfl b0)))))))))))))))))))))))))))))))))))))))))))))) q0 (ce (@ev28 (f) (l) (A) (B) (C) (D) (E) (F) (G) (I) (J) (K) (N) (O) (R) (T) (U) (V) (Y) (Z) k15) (ce (by (try rw [w4]);(try rw [w6]);(try rw [w8]);(try rw [w10]);(try rw [w12]);(try rw [w14]);all_goals exact (@ZaS (false) (l) (A) (B) (C) (D) (E) (F) (G) (I) (J) (K) (N) (O) (R) (T) (U) (V) (Y) (Z) (ex) (ey) (ex + ux) (ey + uy) k17 d16)) (ce (by (try rw [w4]);(try rw [w6]);(try rw [w8]);(try rw [w10]);(try rw [w12]);(try rw [w14]);all_goals exact (@Zby (false) (l) (A) (B) (C) (D) (E) (F) (G) (I) (J) (K) (N) (O) (R + (ex + ux - ex)) (T + (ey + uy - ey)) (U) (V) (Y) (Z) (ex + ux) (ey + uy) (ex + ux) (ey + uy) k33 d18)) (ce (by (try rw [w4]);(try rw [w6]);(try rw [w8]);(try rw [w10]);(try rw [w12]);(try rw [w14]);all_goals exact (@Zby (false) (l) (A) (B) (C) (D) (E) (F) (G) (I) (J) (K) (N) (O) (R + (ex + ux - ex)) (T + (ey + uy - ey)) (U) (V) (Y) (Z) (ex) (ey) (ex + ux) (ey + uy) k39 d34)) (ce (by (try rw [w4]);(try rw [w6]);(try rw [w8]);(try rw [w10]);(try rw [w12]);(try rw [w14]);all_goals exact (@Zby (false) (l) (A) (B) (C) (D) (E) (F) (G) (I) (J) (K) (N) (O) (R + (ex + ux - ex)) (T + (ey + uy - ey)) (U) (V) (Y) (Z) (ex + ux) (ey + uy) (ex) (ey) k42 d40)) c0))))) H
  ·obtain ⟨k43,x1,x2,x3,x4,x5,x6,l1,n1,k44,x7,x8,x9,x10,x11,x12,l2,n2,k45,x13,x14,x15,x16,x17,x18,l3,n3,k46,H⟩:=H
   exact Zae (G:=Zad kp5 [(9,1,.call (ag [vi A,vi B,vi C,vi D,vi E,vi F,vi G,vi I,vi J,vi K,vi N,vi O,vi R,vi T,vi U,vi V,vi Y,vi Z,AV.vec false 2 (List.map Ln.a l)]) none),(9,5,.call (tu [ZaK,vi 11]) none),(10,4,.call (tu [ag [vi x1.x,vi x1.y,vi x1.z,vi x2.x,vi x2.y,vi x2.z,vi x3.x,vi x3.y,vi x3.z,vi x4.x,vi x4.y,vi x4.z,vi x5.x,vi x5.y,vi x5.z,vi x6.x,vi x6.y,vi x6.z,AV.vec false 2 (List.map Ln.a l1)],vi n1]) none),(11,4,.call (tu [ag [vi x7.x,vi x7.y,vi x7.z,vi x8.x,vi x8.y,vi x8.z,vi x9.x,vi x9.y,vi x9.z,vi x10.x,vi x10.y,vi x10.z,vi x11.x,vi x11.y,vi x11.z,vi x12.x,vi x12.y,vi x12.z,AV.vec false 2 (List.map Ln.a l2)],vi n2]) none),(12,4,.call (tu [ag [vi x13.x,vi x13.y,vi x13.z,vi x14.x,vi x14.y,vi x14.z,vi x15.x,vi x15.y,vi x15.z,vi x16.x,vi x16.y,vi x16.z,vi x17.x,vi x17.y,vi x17.z,vi x18.x,vi x18.y,vi x18.z,AV.vec false 2 (List.map Ln.a l3)],vi n3]) none)] []) 1000 [false,true] (asm:=[true,true,true,true,true,true,!(decide ((if T > R then T else R) > 1000000) == false && true) || true,!(decide ((if T > R then T else R) > 1000000) == false && true) || true,!(decide ((if T > R then T else R) > 1000000) == false && true) || true,!(decide ((if T > R then T else R) > 1000000) == false && true) || true,!(decide ((if T > R then T else R) > 1000000) == false && true) || true,!(decide ((if T > R then T else R) > 1000000) == false && true) || true,(Zc9 T R) == false,true,true,true,true,true,true,true,true,true,true,true,true,true,true,true,true,true,true,true,true,true,true,true,true,true,true,true,true,true,true,true,true,true == true]) (calls:=[pc 28 [ag [vi A,vi B,vi C,vi D,vi E,vi F,vi G,vi I,vi J,vi K,vi N,vi O,vi R,vi T,vi U,vi V,vi Y,vi Z,AV.vec f 2 (List.map Ln.a l)]] (ag [vi A,vi B,vi C,vi D,vi E,vi F,vi G,vi I,vi J,vi K,vi N,vi O,vi R,vi T,vi U,vi V,vi Y,vi Z,AV.vec false 2 (List.map Ln.a l)]),pc 27 [ag [vi A,vi B,vi C,vi D,vi E,vi F,vi G,vi I,vi J,vi K,vi N,vi O,vi R,vi T,vi U,vi V,vi Y,vi Z,AV.vec false 2 (List.map Ln.a l)],vi 58000,ag [vi (wi ex),vi (wi ey)],ag [vi (wi (wi ex + wi ux)),vi (wi (wi ey + wi uy))]] (tu [ZaK,vi 11]),pc 27 [ZaK,vi 58000,ag [vi (wi (wi ex + wi ux)),vi (wi (wi ey + wi uy))],ag [vi (wi (wi ex + wi ux)),vi (wi (wi ey + wi uy))]] (tu [ag [vi x1.x,vi x1.y,vi x1.z,vi x2.x,vi x2.y,vi x2.z,vi x3.x,vi x3.y,vi x3.z,vi x4.x,vi x4.y,vi x4.z,vi x5.x,vi x5.y,vi x5.z,vi x6.x,vi x6.y,vi x6.z,AV.vec false 2 (List.map Ln.a l1)],vi n1]),pc 27 [ZaK,vi 58000,ag [vi (wi ex),vi (wi ey)],ag [vi (wi (wi ex + wi ux)),vi (wi (wi ey + wi uy))]] (tu [ag [vi x7.x,vi x7.y,vi x7.z,vi x8.x,vi x8.y,vi x8.z,vi x9.x,vi x9.y,vi x9.z,vi x10.x,vi x10.y,vi x10.z,vi x11.x,vi x11.y,vi x11.z,vi x12.x,vi x12.y,vi x12.z,AV.vec false 2 (List.map Ln.a l2)],vi n2]),pc 27 [ZaK,vi 58000,ag [vi (wi (wi ex + wi ux)),vi (wi (wi ey + wi uy))],ag [vi (wi ex),vi (wi ey)]] (tu [ag [vi x13.x,vi x13.y,vi x13.z,vi x14.x,vi x14.y,vi x14.z,vi x15.x,vi x15.y,vi x15.z,vi x16.x,vi x16.y,vi x16.z,vi x17.x,vi x17.y,vi x17.z,vi x18.x,vi x18.y,vi x18.z,AV.vec false 2 (List.map Ln.a l3)],vi n3])]) (vb false) (by kernel_rfl) (bc rfl (bc rfl (bc rfl (bc rfl (bc rfl (bc rfl (bc (Bool.or_true _) (bc (Bool.or_true _) (bc (Bool.or_true _) (bc (Bool.or_true _) (bc (Bool.or_true _) (bc (Bool.or_true _) (bc (Zaj (fun h => d2 ((Zag Zaa Zaa).1 h))) (bc rfl (bc rfl (bc rfl (bc rfl (bc rfl (bc rfl (bc rfl (bc rfl (bc rfl (bc rfl (bc rfl (bc rfl (bc rfl (bc rfl (bc rfl (bc rfl (bc rfl (bc rfl (bc rfl (bc rfl (bc rfl (bc rfl (bc rfl (bc rfl (bc rfl (bc rfl (bc rfl (bc rfl (bc rfl (bc rfl (bc rfl (bc rfl (bc rfl b0)))))))))))))))))))))))))))))))))))))))))))))) q0 (ce (@ev28 (f) (l) (A) (B) (C) (D) (E) (F) (G) (I) (J) (K) (N) (O) (R) (T) (U) (V) (Y) (Z) k15) (ce (by (try rw [w4]);(try rw [w6]);(try rw [w8]);(try rw [w10]);(try rw [w12]);(try rw [w14]);all_goals exact (@Zby (false) (l) (A) (B) (C) (D) (E) (F) (G) (I) (J) (K) (N) (O) (R) (T) (U) (V) (Y) (Z) (ex) (ey) (ex + ux) (ey + uy) k43 d16)) (ce (by (try rw [w4]);(try rw [w6]);(try rw [w8]);(try rw [w10]);(try rw [w12]);(try rw [w14]);all_goals exact k44) (ce (by (try rw [w4]);(try rw [w6]);(try rw [w8]);(try rw [w10]);(try rw [w12]);(try rw [w14]);all_goals exact k45) (ce (by (try rw [w4]);(try rw [w6]);(try rw [w8]);(try rw [w10]);(try rw [w12]);(try rw [w14]);all_goals exact k46) c0))))) H
noncomputable abbrev ZaJ:=ag [vi 0,vi 0,vi 0,vi 0,vi 0,vi 0,vi 0,vi 0,vi 0,vi 0,vi 0,vi 0,vi 0,vi 0,vi 0,vi 0,vi 0,vi 0,AV.vnil]
noncomputable abbrev Zd4 (A:Int) (B:Int) (C:Int) (D:Int) (E:Int) (F:Int) (G:Int) (I:Int) (J:Int) (K:Int) (N:Int) (O:Int) (R:Int) (T:Int) (U:Int) (V:Int) (ex:Int) (ux:Int) (Y:Int) (ey:Int) (uy:Int) (Z:Int):=bif A==A&&(B==B&&(C==C&&true))&&(D==D&&(E==E&&(F==F&&true))&&(G==G&&(I==I&&(J==J&&true))&&(K==K&&(N==N&&(O==O&&true))&&(R==R&&(T==T&&(U==U&&true))&&(V+(ex+ux-ex)+(ex+ux-(ex+ux))==V+(ex+ux-ex)&&(Y+(ey+uy-ey)+(ey+uy-(ey+uy))==Y+(ey+uy-ey)&&(Z==Z&&true))&&true))))) then V+(ex+ux-ex)==V+ux&&(Y+(ey+uy-ey)==Y+uy&&(Z==Z+0&&true)) else false
noncomputable abbrev Zc8 (Y:Int) (V:Int):=bif decide ((if Y>V then Y else V)>1000000) then true else decide ((if Y<V then Y else V) < -1000000)
noncomputable abbrev zNpP39 (A:Int) (B:Int) (C:Int) (D:Int) (E:Int) (F:Int) (G:Int) (I:Int) (J:Int) (K:Int) (N:Int) (O:Int) (R:Int) (T:Int) (U:Int) (V:Int) (ex:Int) (ux:Int) (Y:Int) (ey:Int) (uy:Int) (Z:Int):=bif bif A==A&&(B==B&&(C==C&&true))&&(D==D&&(E==E&&(F==F&&true))&&(G==G&&(I==I&&(J==J&&true))&&(K==K&&(N==N&&(O==O&&true))&&(R==R&&(T==T&&(U==U&&true))&&(V+(ex+ux-ex)+(ex+ux-(ex+ux))==V+(ex+ux-ex)&&(Y+(ey+uy-ey)+(ey+uy-(ey+uy))==Y+(ey+uy-ey)&&(Z==Z&&true))&&true))))) then V+(ex+ux-ex)==V+ux&&(Y+(ey+uy-ey)==Y+uy&&(Z==Z+0&&true)) else false then V+(ex+ux-ex)+(ex+ux-ex)==V+(ex+ux-ex)+ux&&(Y+(ey+uy-ey)+(ey+uy-ey)==Y+(ey+uy-ey)+uy&&(Z==Z+0&&true)) else false
noncomputable abbrev zNpP40 (V:Int) (ex:Int) (ux:Int) (Y:Int) (ey:Int) (uy:Int) (Z:Int):=ag [vi (V+(ex+ux-ex)+ux),vi (Y+(ey+uy-ey)+uy),vi (Z+0)]
noncomputable abbrev zNpP41 (V:Int) (ex:Int) (ux:Int) (Y:Int) (ey:Int) (uy:Int) (Z:Int):=Sp.pP (V+(ex+ux-ex)+(ex-(ex+ux))) (Y+(ey+uy-ey)+(ey-(ey+uy))) Z
noncomputable abbrev zNpP42 (V:Int) (ux:Int) (Y:Int) (uy:Int) (Z:Int):=ag [vi (V+ux),vi (Y+uy),vi (Z+0)]
theorem lwTwC5 (f:Bool) (l:List Ln) (A B C D E F G I J K N O R T U V Y Z:Int) (ex ey ux uy s r:Int) (g:Bool) (X:List AV)  (dq:AV) (H :
  ((((if Y > V then Y else V) > 1000000) \/ ((if Y < V then Y else V) < -1000000)) -> vb true = dq) /\
  (¬(((if Y > V then Y else V) > 1000000) \/ ((if Y < V then Y else V) < -1000000)) -> (-9223372036854775808 <= ex /\ ex <= 9223372036854775807) /\
   (-9223372036854775808 <= ey /\ ey <= 9223372036854775807) /\
   (-9223372036854775808 <= ux /\ ux <= 9223372036854775807) /\
   (-9223372036854775808 <= ex + ux /\ ex + ux <= 9223372036854775807) /\
   (-9223372036854775808 <= uy /\ uy <= 9223372036854775807) /\
   (-9223372036854775808 <= ey + uy /\ ey + uy <= 9223372036854775807) /\
   (Sp.few l.length 1000000) /\
   ((Sp.pP (V + (ex + ux - ex)) (Y + (ey + uy - ey)) Z) -> ((Sp.tv A B C D E F G I J K N O R T U V Y Z l = 0 /\ Sp.few l.length 1000000) /\ (Sp.pM ex /\ Sp.pM ey) /\ Sp.pM (ex + ux) /\ Sp.pM (ey + uy)) /\
    ((Sp.pP (V + (ex + ux - ex) + (ex + ux - (ex + ux))) (Y + (ey + uy - ey) + (ey + uy - (ey + uy))) Z) -> ((Sp.tv A B C D E F G I J K N O R T U (V + (ex + ux - ex)) (Y + (ey + uy - ey)) Z l = 0 /\ Sp.few l.length 1000000) /\ (Sp.pM (ex + ux) /\ Sp.pM (ey + uy)) /\ Sp.pM (ex + ux) /\ Sp.pM (ey + uy)) /\
     ((Sp.pP (V + (ex + ux - ex) + (ex + ux - ex)) (Y + (ey + uy - ey) + (ey + uy - ey)) Z) -> ((Sp.tv A B C D E F G I J K N O R T U (V + (ex + ux - ex)) (Y + (ey + uy - ey)) Z l = 0 /\ Sp.few l.length 1000000) /\ (Sp.pM ex /\ Sp.pM ey) /\ Sp.pM (ex + ux) /\ Sp.pM (ey + uy)) /\
      ((Sp.pP (V + (ex + ux - ex) + (ex - (ex + ux))) (Y + (ey + uy - ey) + (ey - (ey + uy))) Z) -> ((Sp.tv A B C D E F G I J K N O R T U (V + (ex + ux - ex)) (Y + (ey + uy - ey)) Z l = 0 /\ Sp.few l.length 1000000) /\ (Sp.pM (ex + ux) /\ Sp.pM (ey + uy)) /\ Sp.pM ex /\ Sp.pM ey) /\
       ((((A = A) /\ ((B = B) /\ (C = C))) /\ (((D = D) /\ ((E = E) /\ (F = F))) /\ (((G = G) /\ ((I = I) /\ (J = J))) /\ (((K = K) /\ ((N = N) /\ (O = O))) /\ (((R = R) /\ ((T = T) /\ (U = U))) /\ ((V + (ex + ux - ex) + (ex + ux - (ex + ux)) = V + (ex + ux - ex)) /\ ((Y + (ey + uy - ey) + (ey + uy - (ey + uy)) = Y + (ey + uy - ey)) /\ (Z = Z)))))))) -> ((Sp.ZaI V /\ Sp.ZaI Y /\ Sp.ZaI Z) /\ Sp.ZaI ux /\ Sp.ZaI uy /\ Sp.ZaI 0)) /\
       (((((A = A) /\ ((B = B) /\ (C = C))) /\ (((D = D) /\ ((E = E) /\ (F = F))) /\ (((G = G) /\ ((I = I) /\ (J = J))) /\ (((K = K) /\ ((N = N) /\ (O = O))) /\ (((R = R) /\ ((T = T) /\ (U = U))) /\ ((V + (ex + ux - ex) + (ex + ux - (ex + ux)) = V + (ex + ux - ex)) /\ ((Y + (ey + uy - ey) + (ey + uy - (ey + uy)) = Y + (ey + uy - ey)) /\ (Z = Z)))))))) /\ ((V + (ex + ux - ex) = V + ux) /\ ((Y + (ey + uy - ey) = Y + uy) /\ (Z = Z + 0)))) -> ((Sp.ZaI (V + (ex + ux - ex)) /\ Sp.ZaI (Y + (ey + uy - ey)) /\ Sp.ZaI Z) /\ Sp.ZaI ux /\ Sp.ZaI uy /\ Sp.ZaI 0)) /\
       vb (bif bif bif A == A && (B == B && (C == C && true)) && (D == D && (E == E && (F == F && true)) && (G == G && (I == I && (J == J && true)) && (K == K && (N == N && (O == O && true)) && (R == R && (T == T && (U == U && true)) && (V + (ex + ux - ex) + (ex + ux - (ex + ux)) == V + (ex + ux - ex) && (Y + (ey + uy - ey) + (ey + uy - (ey + uy)) == Y + (ey + uy - ey) && (Z == Z && true)) && true))))) then V + (ex + ux - ex) == V + ux && (Y + (ey + uy - ey) == Y + uy && (Z == Z + 0 && true)) else false then V + (ex + ux - ex) + (ex + ux - ex) == V + (ex + ux - ex) + ux && (Y + (ey + uy - ey) + (ey + uy - ey) == Y + (ey + uy - ey) + uy && (Z == Z + 0 && true)) else false then A == A && (B == B && (C == C && true)) && (D == D && (E == E && (F == F && true)) && (G == G && (I == I && (J == J && true)) && (K == K && (N == N && (O == O && true)) && (R == R && (T == T && (U == U && true)) && (V + (ex + ux - ex) + (ex - (ex + ux)) == V && (Y + (ey + uy - ey) + (ey - (ey + uy)) == Y && (Z == Z && true)) && true))))) else false) = dq) /\
      (¬(Sp.pP (V + (ex + ux - ex) + (ex - (ex + ux))) (Y + (ey + uy - ey) + (ey - (ey + uy))) Z) -> ((Sp.tv A B C D E F G I J K N O R T U (V + (ex + ux - ex)) (Y + (ey + uy - ey)) Z l = 0 /\ Sp.few l.length 1000000) /\ (Sp.pM (ex + ux) /\ Sp.pM (ey + uy)) /\ Sp.pM ex /\ Sp.pM ey) /\
       vb false = dq)) /\
     (¬(Sp.pP (V + (ex + ux - ex) + (ex + ux - ex)) (Y + (ey + uy - ey) + (ey + uy - ey)) Z) -> ((Sp.tv A B C D E F G I J K N O R T U (V + (ex + ux - ex)) (Y + (ey + uy - ey)) Z l = 0 /\ Sp.few l.length 1000000) /\ (Sp.pM ex /\ Sp.pM ey) /\ Sp.pM (ex + ux) /\ Sp.pM (ey + uy)) /\
      ((Sp.pP (V + (ex + ux - ex) + (ex - (ex + ux))) (Y + (ey + uy - ey) + (ey - (ey + uy))) Z) -> ((Sp.tv A B C D E F G I J K N O R T U (V + (ex + ux - ex)) (Y + (ey + uy - ey)) Z l = 0 /\ Sp.few l.length 1000000) /\ (Sp.pM (ex + ux) /\ Sp.pM (ey + uy)) /\ Sp.pM ex /\ Sp.pM ey) /\
       vb false = dq) /\
      (¬(Sp.pP (V + (ex + ux - ex) + (ex - (ex + ux))) (Y + (ey + uy - ey) + (ey - (ey + uy))) Z) -> ((Sp.tv A B C D E F G I J K N O R T U (V + (ex + ux - ex)) (Y + (ey + uy - ey)) Z l = 0 /\ Sp.few l.length 1000000) /\ (Sp.pM (ex + ux) /\ Sp.pM (ey + uy)) /\ Sp.pM ex /\ Sp.pM ey) /\
       vb false = dq))) /\
    (¬(Sp.pP (V + (ex + ux - ex) + (ex + ux - (ex + ux))) (Y + (ey + uy - ey) + (ey + uy - (ey + uy))) Z) -> ((Sp.tv A B C D E F G I J K N O R T U (V + (ex + ux - ex)) (Y + (ey + uy - ey)) Z l = 0 /\ Sp.few l.length 1000000) /\ (Sp.pM (ex + ux) /\ Sp.pM (ey + uy)) /\ Sp.pM (ex + ux) /\ Sp.pM (ey + uy)) /\
     ((Sp.pP (V + (ex + ux - ex) + (ex + ux - ex)) (Y + (ey + uy - ey) + (ey + uy - ey)) Z) -> ((Sp.tv A B C D E F G I J K N O R T U (V + (ex + ux - ex)) (Y + (ey + uy - ey)) Z l = 0 /\ Sp.few l.length 1000000) /\ (Sp.pM ex /\ Sp.pM ey) /\ Sp.pM (ex + ux) /\ Sp.pM (ey + uy)) /\
      ((Sp.pP (V + (ex + ux - ex) + (ex - (ex + ux))) (Y + (ey + uy - ey) + (ey - (ey + uy))) Z) -> ((Sp.tv A B C D E F G I J K N O R T U (V + (ex + ux - ex)) (Y + (ey + uy - ey)) Z l = 0 /\ Sp.few l.length 1000000) /\ (Sp.pM (ex + ux) /\ Sp.pM (ey + uy)) /\ Sp.pM ex /\ Sp.pM ey) /\
       vb false = dq) /\
      (¬(Sp.pP (V + (ex + ux - ex) + (ex - (ex + ux))) (Y + (ey + uy - ey) + (ey - (ey + uy))) Z) -> ((Sp.tv A B C D E F G I J K N O R T U (V + (ex + ux - ex)) (Y + (ey + uy - ey)) Z l = 0 /\ Sp.few l.length 1000000) /\ (Sp.pM (ex + ux) /\ Sp.pM (ey + uy)) /\ Sp.pM ex /\ Sp.pM ey) /\
       vb false = dq)) /\
     (¬(Sp.pP (V + (ex + ux - ex) + (ex + ux - ex)) (Y + (ey + uy - ey) + (ey + uy - ey)) Z) -> ((Sp.tv A B C D E F G I J K N O R T U (V + (ex + ux - ex)) (Y + (ey + uy - ey)) Z l = 0 /\ Sp.few l.length 1000000) /\ (Sp.pM ex /\ Sp.pM ey) /\ Sp.pM (ex + ux) /\ Sp.pM (ey + uy)) /\
      ((Sp.pP (V + (ex + ux - ex) + (ex - (ex + ux))) (Y + (ey + uy - ey) + (ey - (ey + uy))) Z) -> ((Sp.tv A B C D E F G I J K N O R T U (V + (ex + ux - ex)) (Y + (ey + uy - ey)) Z l = 0 /\ Sp.few l.length 1000000) /\ (Sp.pM (ex + ux) /\ Sp.pM (ey + uy)) /\ Sp.pM ex /\ Sp.pM ey) /\
       vb false = dq) /\
      (¬(Sp.pP (V + (ex + ux - ex) + (ex - (ex + ux))) (Y + (ey + uy - ey) + (ey - (ey + uy))) Z) -> ((Sp.tv A B C D E F G I J K N O R T U (V + (ex + ux - ex)) (Y + (ey + uy - ey)) Z l = 0 /\ Sp.few l.length 1000000) /\ (Sp.pM (ex + ux) /\ Sp.pM (ey + uy)) /\ Sp.pM ex /\ Sp.pM ey) /\
       vb false = dq)))) /\
   (¬(Sp.pP (V + (ex + ux - ex)) (Y + (ey + uy - ey)) Z) -> ((Sp.tv A B C D E F G I J K N O R T U V Y Z l = 0 /\ Sp.few l.length 1000000) /\ (Sp.pM ex /\ Sp.pM ey) /\ Sp.pM (ex + ux) /\ Sp.pM (ey + uy)) /\
    ∃ (x1:Pp) (x2:Pp) (x3:Pp) (x4:Pp) (x5:Pp) (x6:Pp) (l1:List (Ln)) (n1:Int),
    (Ev M1 (Conf.pure 27 [ag [vi 0,vi 0,vi 0,vi 0,vi 0,vi 0,vi 0,vi 0,vi 0,vi 0,vi 0,vi 0,vi 0,vi 0,vi 0,vi 0,vi 0,vi 0,AV.vnil],vi 59000,ag [vi (ex + ux),vi (ey + uy)],ag [vi (ex + ux),vi (ey + uy)]]) (tu [ag [vi x1.x,vi x1.y,vi x1.z,vi x2.x,vi x2.y,vi x2.z,vi x3.x,vi x3.y,vi x3.z,vi x4.x,vi x4.y,vi x4.z,vi x5.x,vi x5.y,vi x5.z,vi x6.x,vi x6.y,vi x6.z,AV.vec false 2 (List.map Ln.a l1)],vi n1]) []) /\
    ∃ (x7:Pp) (x8:Pp) (x9:Pp) (x10:Pp) (x11:Pp) (x12:Pp) (l2:List (Ln)) (n2:Int),
    (Ev M1 (Conf.pure 27 [ag [vi 0,vi 0,vi 0,vi 0,vi 0,vi 0,vi 0,vi 0,vi 0,vi 0,vi 0,vi 0,vi 0,vi 0,vi 0,vi 0,vi 0,vi 0,AV.vnil],vi 59000,ag [vi ex,vi ey],ag [vi (ex + ux),vi (ey + uy)]]) (tu [ag [vi x7.x,vi x7.y,vi x7.z,vi x8.x,vi x8.y,vi x8.z,vi x9.x,vi x9.y,vi x9.z,vi x10.x,vi x10.y,vi x10.z,vi x11.x,vi x11.y,vi x11.z,vi x12.x,vi x12.y,vi x12.z,AV.vec false 2 (List.map Ln.a l2)],vi n2]) []) /\
    ∃ (x13:Pp) (x14:Pp) (x15:Pp) (x16:Pp) (x17:Pp) (x18:Pp) (l3:List (Ln)) (n3:Int),
    (Ev M1 (Conf.pure 27 [ag [vi 0,vi 0,vi 0,vi 0,vi 0,vi 0,vi 0,vi 0,vi 0,vi 0,vi 0,vi 0,vi 0,vi 0,vi 0,vi 0,vi 0,vi 0,AV.vnil],vi 59000,ag [vi (ex + ux),vi (ey + uy)],ag [vi ex,vi ey]]) (tu [ag [vi x13.x,vi x13.y,vi x13.z,vi x14.x,vi x14.y,vi x14.z,vi x15.x,vi x15.y,vi x15.z,vi x16.x,vi x16.y,vi x16.z,vi x17.x,vi x17.y,vi x17.z,vi x18.x,vi x18.y,vi x18.z,AV.vec false 2 (List.map Ln.a l3)],vi n3]) []) /\
    vb false = dq))) :
 ZeO f l A B C D E F G I J K N O R T U V Y Z ex ey ux uy s r g X (Zak dq):=by
 unfold ZeO
 rcases xq H with ⟨d2,H⟩|⟨d2,H⟩
 ·exact Zae (G:=Zad kp5 [] []) 1000 [true] (asm:=[true,true,true,true,true,true,!(decide ((if Y > V then Y else V) > 1000000) == false && true) || true,!(decide ((if Y > V then Y else V) > 1000000) == false && true) || true,!(decide ((if Y > V then Y else V) > 1000000) == false && true) || true,!(decide ((if Y > V then Y else V) > 1000000) == false && true) || true,!(decide ((if Y > V then Y else V) > 1000000) == false && true) || true,!(decide ((if Y > V then Y else V) > 1000000) == false && true) || true,(Zc8 Y V) == true]) (vb true) (by kernel_rfl) (bc rfl (bc rfl (bc rfl (bc rfl (bc rfl (bc rfl (bc (Bool.or_true _) (bc (Bool.or_true _) (bc (Bool.or_true _) (bc (Bool.or_true _) (bc (Bool.or_true _) (bc (Bool.or_true _) (bc (ZaG ((Zag Zaa Zaa).2 d2)) b0))))))))))))) q0 c0 H
 ·obtain ⟨k3,H⟩:=H
  have w4:wi ex = ex:=wI64 k3
  obtain ⟨k5,H⟩:=H
  have w6:wi ey = ey:=wI64 k5
  obtain ⟨k7,H⟩:=H
  have w8:wi ux = ux:=wI64 k7
  obtain ⟨k9,H⟩:=H
  have w10:wi (ex + ux) = ex + ux:=wI64 k9
  obtain ⟨k11,H⟩:=H
  have w12:wi uy = uy:=wI64 k11
  obtain ⟨k13,H⟩:=H
  have w14:wi (ey + uy) = ey + uy:=wI64 k13
  obtain ⟨k15,H⟩:=H
  rcases xq H with ⟨d16,H⟩|⟨d16,H⟩
  ·obtain ⟨k17,H⟩:=H
   rcases xq H with ⟨d18,H⟩|⟨d18,H⟩
   ·obtain ⟨k19,H⟩:=H
    rcases xq H with ⟨d20,H⟩|⟨d20,H⟩
    ·obtain ⟨k21,H⟩:=H
     rcases xq H with ⟨d22,H⟩|⟨d22,H⟩
     ·obtain ⟨k23,k25,k27,H⟩:=H
      exact Zae (G:=Zad kp5 [(9,1,.call (ag [vi A,vi B,vi C,vi D,vi E,vi F,vi G,vi I,vi J,vi K,vi N,vi O,vi R,vi T,vi U,vi V,vi Y,vi Z,AV.vec false 2 (List.map Ln.a l)]) none),(9,5,.call (tu [ag [vi A,vi B,vi C,vi D,vi E,vi F,vi G,vi I,vi J,vi K,vi N,vi O,vi R,vi T,vi U,vi (V + (ex + ux - ex)),vi (Y + (ey + uy - ey)),vi Z,AV.vec false 2 (List.map Ln.a l)],vi 0]) none),(10,4,.call (tu [ag [vi A,vi B,vi C,vi D,vi E,vi F,vi G,vi I,vi J,vi K,vi N,vi O,vi R,vi T,vi U,vi (V + (ex + ux - ex) + (ex + ux - (ex + ux))),vi (Y + (ey + uy - ey) + (ey + uy - (ey + uy))),vi Z,AV.vec false 2 (List.map Ln.a l)],vi 0]) none),(11,4,.call (tu [ag [vi A,vi B,vi C,vi D,vi E,vi F,vi G,vi I,vi J,vi K,vi N,vi O,vi R,vi T,vi U,vi (V + (ex + ux - ex) + (ex + ux - ex)),vi (Y + (ey + uy - ey) + (ey + uy - ey)),vi Z,AV.vec false 2 (List.map Ln.a l)],vi 0]) none),(12,4,.call (tu [ag [vi A,vi B,vi C,vi D,vi E,vi F,vi G,vi I,vi J,vi K,vi N,vi O,vi R,vi T,vi U,vi (V + (ex + ux - ex) + (ex - (ex + ux))),vi (Y + (ey + uy - ey) + (ey - (ey + uy))),vi Z,AV.vec false 2 (List.map Ln.a l)],vi 0]) none),(16,15,.call ((zNpP42 V ux Y uy Z)) none),(16,28,.call ((zNpP40 V ex ux Y ey uy Z)) none)] []) 1000 [false,false] (asm:=[true,true,true,true,true,true,!(decide ((if Y > V then Y else V) > 1000000) == false && true) || true,!(decide ((if Y > V then Y else V) > 1000000) == false && true) || true,!(decide ((if Y > V then Y else V) > 1000000) == false && true) || true,!(decide ((if Y > V then Y else V) > 1000000) == false && true) || true,!(decide ((if Y > V then Y else V) > 1000000) == false && true) || true,!(decide ((if Y > V then Y else V) > 1000000) == false && true) || true,(Zc8 Y V) == false,true,true,true,true,true,true,true,true,true,true,true,true,true,true,true,true,true,true,true,true,true,true,true,true,true,true,true,true,true,true,true,true,false == false,true,true,true,true,true,true,true,true,true,!((A == A && (B == B && (C == C && true)) && (D == D && (E == E && (F == F && true)) && (G == G && (I == I && (J == J && true)) && (K == K && (N == N && (O == O && true)) && (R == R && (T == T && (U == U && true)) && (V + (ex + ux - ex) + (ex + ux - (ex + ux)) == V + (ex + ux - ex) && (Y + (ey + uy - ey) + (ey + uy - (ey + uy)) == Y + (ey + uy - ey) && (Z == Z && true)) && true)))))) == true && true) || true,!((A == A && (B == B && (C == C && true)) && (D == D && (E == E && (F == F && true)) && (G == G && (I == I && (J == J && true)) && (K == K && (N == N && (O == O && true)) && (R == R && (T == T && (U == U && true)) && (V + (ex + ux - ex) + (ex + ux - (ex + ux)) == V + (ex + ux - ex) && (Y + (ey + uy - ey) + (ey + uy - (ey + uy)) == Y + (ey + uy - ey) && (Z == Z && true)) && true)))))) == true && true) || true,!((A == A && (B == B && (C == C && true)) && (D == D && (E == E && (F == F && true)) && (G == G && (I == I && (J == J && true)) && (K == K && (N == N && (O == O && true)) && (R == R && (T == T && (U == U && true)) && (V + (ex + ux - ex) + (ex + ux - (ex + ux)) == V + (ex + ux - ex) && (Y + (ey + uy - ey) + (ey + uy - (ey + uy)) == Y + (ey + uy - ey) && (Z == Z && true)) && true)))))) == true && true) || true,!((A == A && (B == B && (C == C && true)) && (D == D && (E == E && (F == F && true)) && (G == G && (I == I && (J == J && true)) && (K == K && (N == N && (O == O && true)) && (R == R && (T == T && (U == U && true)) && (V + (ex + ux - ex) + (ex + ux - (ex + ux)) == V + (ex + ux - ex) && (Y + (ey + uy - ey) + (ey + uy - (ey + uy)) == Y + (ey + uy - ey) && (Z == Z && true)) && true)))))) == true && true) || true,!((A == A && (B == B && (C == C && true)) && (D == D && (E == E && (F == F && true)) && (G == G && (I == I && (J == J && true)) && (K == K && (N == N && (O == O && true)) && (R == R && (T == T && (U == U && true)) && (V + (ex + ux - ex) + (ex + ux - (ex + ux)) == V + (ex + ux - ex) && (Y + (ey + uy - ey) + (ey + uy - (ey + uy)) == Y + (ey + uy - ey) && (Z == Z && true)) && true)))))) == true && true) || true,!((A == A && (B == B && (C == C && true)) && (D == D && (E == E && (F == F && true)) && (G == G && (I == I && (J == J && true)) && (K == K && (N == N && (O == O && true)) && (R == R && (T == T && (U == U && true)) && (V + (ex + ux - ex) + (ex + ux - (ex + ux)) == V + (ex + ux - ex) && (Y + (ey + uy - ey) + (ey + uy - (ey + uy)) == Y + (ey + uy - ey) && (Z == Z && true)) && true)))))) == true && true) || true,!((A == A && (B == B && (C == C && true)) && (D == D && (E == E && (F == F && true)) && (G == G && (I == I && (J == J && true)) && (K == K && (N == N && (O == O && true)) && (R == R && (T == T && (U == U && true)) && (V + (ex + ux - ex) + (ex + ux - (ex + ux)) == V + (ex + ux - ex) && (Y + (ey + uy - ey) + (ey + uy - (ey + uy)) == Y + (ey + uy - ey) && (Z == Z && true)) && true)))))) == true && true) || true,!((Zd4 A B C D E F G I J K N O R T U V ex ux Y ey uy Z) == true && true) || true,!((Zd4 A B C D E F G I J K N O R T U V ex ux Y ey uy Z) == true && true) || true,!((Zd4 A B C D E F G I J K N O R T U V ex ux Y ey uy Z) == true && true) || true,!((Zd4 A B C D E F G I J K N O R T U V ex ux Y ey uy Z) == true && true) || true,!((Zd4 A B C D E F G I J K N O R T U V ex ux Y ey uy Z) == true && true) || true,!((Zd4 A B C D E F G I J K N O R T U V ex ux Y ey uy Z) == true && true) || true,!((Zd4 A B C D E F G I J K N O R T U V ex ux Y ey uy Z) == true && true) || true,!((zNpP39 A B C D E F G I J K N O R T U V ex ux Y ey uy Z) == true && true) || true,!((zNpP39 A B C D E F G I J K N O R T U V ex ux Y ey uy Z) == true && true) || true]) (calls:=[⟨true,false,28,[ag [vi A,vi B,vi C,vi D,vi E,vi F,vi G,vi I,vi J,vi K,vi N,vi O,vi R,vi T,vi U,vi V,vi Y,vi Z,AV.vec f 2 (List.map Ln.a l)]],[],ag [vi A,vi B,vi C,vi D,vi E,vi F,vi G,vi I,vi J,vi K,vi N,vi O,vi R,vi T,vi U,vi V,vi Y,vi Z,AV.vec false 2 (List.map Ln.a l)],[]⟩,⟨true,false,27,[ag [vi A,vi B,vi C,vi D,vi E,vi F,vi G,vi I,vi J,vi K,vi N,vi O,vi R,vi T,vi U,vi V,vi Y,vi Z,AV.vec false 2 (List.map Ln.a l)],vi 59000,ag [vi (wi ex),vi (wi ey)],ag [vi (wi (wi ex + wi ux)),vi (wi (wi ey + wi uy))]],[],tu [ag [vi A,vi B,vi C,vi D,vi E,vi F,vi G,vi I,vi J,vi K,vi N,vi O,vi R,vi T,vi U,vi (V + (ex + ux - ex)),vi (Y + (ey + uy - ey)),vi Z,AV.vec false 2 (List.map Ln.a l)],vi 0],[]⟩,⟨true,false,27,[ag [vi A,vi B,vi C,vi D,vi E,vi F,vi G,vi I,vi J,vi K,vi N,vi O,vi R,vi T,vi U,vi (V + (ex + ux - ex)),vi (Y + (ey + uy - ey)),vi Z,AV.vec false 2 (List.map Ln.a l)],vi 59000,ag [vi (wi (wi ex + wi ux)),vi (wi (wi ey + wi uy))],ag [vi (wi (wi ex + wi ux)),vi (wi (wi ey + wi uy))]],[],tu [ag [vi A,vi B,vi C,vi D,vi E,vi F,vi G,vi I,vi J,vi K,vi N,vi O,vi R,vi T,vi U,vi (V + (ex + ux - ex) + (ex + ux - (ex + ux))),vi (Y + (ey + uy - ey) + (ey + uy - (ey + uy))),vi Z,AV.vec false 2 (List.map Ln.a l)],vi 0],[]⟩,⟨true,false,27,[ag [vi A,vi B,vi C,vi D,vi E,vi F,vi G,vi I,vi J,vi K,vi N,vi O,vi R,vi T,vi U,vi (V + (ex + ux - ex)),vi (Y + (ey + uy - ey)),vi Z,AV.vec false 2 (List.map Ln.a l)],vi 59000,ag [vi (wi ex),vi (wi ey)],ag [vi (wi (wi ex + wi ux)),vi (wi (wi ey + wi uy))]],[],tu [ag [vi A,vi B,vi C,vi D,vi E,vi F,vi G,vi I,vi J,vi K,vi N,vi O,vi R,vi T,vi U,vi (V + (ex + ux - ex) + (ex + ux - ex)),vi (Y + (ey + uy - ey) + (ey + uy - ey)),vi Z,AV.vec false 2 (List.map Ln.a l)],vi 0],[]⟩,⟨true,false,27,[ag [vi A,vi B,vi C,vi D,vi E,vi F,vi G,vi I,vi J,vi K,vi N,vi O,vi R,vi T,vi U,vi (V + (ex + ux - ex)),vi (Y + (ey + uy - ey)),vi Z,AV.vec false 2 (List.map Ln.a l)],vi 59000,ag [vi (wi (wi ex + wi ux)),vi (wi (wi ey + wi uy))],ag [vi (wi ex),vi (wi ey)]],[],tu [ag [vi A,vi B,vi C,vi D,vi E,vi F,vi G,vi I,vi J,vi K,vi N,vi O,vi R,vi T,vi U,vi (V + (ex + ux - ex) + (ex - (ex + ux))),vi (Y + (ey + uy - ey) + (ey - (ey + uy))),vi Z,AV.vec false 2 (List.map Ln.a l)],vi 0],[]⟩,⟨(A == A && (B == B && (C == C && true)) && (D == D && (E == E && (F == F && true)) && (G == G && (I == I && (J == J && true)) && (K == K && (N == N && (O == O && true)) && (R == R && (T == T && (U == U && true)) && (V + (ex + ux - ex) + (ex + ux - (ex + ux)) == V + (ex + ux - ex) && (Y + (ey + uy - ey) + (ey + uy - (ey + uy)) == Y + (ey + uy - ey) && (Z == Z && true)) && true)))))) == true && true && true,false,29,[ag [vi V,vi Y,vi Z],ag [vi (wi ux),vi (wi uy),vi 0]],[],(zNpP42 V ux Y uy Z),[]⟩,⟨(Zd4 A B C D E F G I J K N O R T U V ex ux Y ey uy Z) == true && true && true,false,29,[ag [vi (V + (ex + ux - ex)),vi (Y + (ey + uy - ey)),vi Z],ag [vi (wi ux),vi (wi uy),vi 0]],[],(zNpP40 V ex ux Y ey uy Z),[]⟩]) (vb (bif bif bif A == A && (B == B && (C == C && true)) && (D == D && (E == E && (F == F && true)) && (G == G && (I == I && (J == J && true)) && (K == K && (N == N && (O == O && true)) && (R == R && (T == T && (U == U && true)) && (V + (ex + ux - ex) + (ex + ux - (ex + ux)) == V + (ex + ux - ex) && (Y + (ey + uy - ey) + (ey + uy - (ey + uy)) == Y + (ey + uy - ey) && (Z == Z && true)) && true))))) then V + (ex + ux - ex) == V + ux && (Y + (ey + uy - ey) == Y + uy && (Z == Z + 0 && true)) else false then V + (ex + ux - ex) + (ex + ux - ex) == V + (ex + ux - ex) + ux && (Y + (ey + uy - ey) + (ey + uy - ey) == Y + (ey + uy - ey) + uy && (Z == Z + 0 && true)) else false then A == A && (B == B && (C == C && true)) && (D == D && (E == E && (F == F && true)) && (G == G && (I == I && (J == J && true)) && (K == K && (N == N && (O == O && true)) && (R == R && (T == T && (U == U && true)) && (V + (ex + ux - ex) + (ex - (ex + ux)) == V && (Y + (ey + uy - ey) + (ey - (ey + uy)) == Y && (Z == Z && true)) && true))))) else false)) (by kernel_rfl) (bc rfl (bc rfl (bc rfl (bc rfl (bc rfl (bc rfl (bc (Bool.or_true _) (bc (Bool.or_true _) (bc (Bool.or_true _) (bc (Bool.or_true _) (bc (Bool.or_true _) (bc (Bool.or_true _) (bc (Zaj (fun h => d2 ((Zag Zaa Zaa).1 h))) (bc rfl (bc rfl (bc rfl (bc rfl (bc rfl (bc rfl (bc rfl (bc rfl (bc rfl (bc rfl (bc rfl (bc rfl (bc rfl (bc rfl (bc rfl (bc rfl (bc rfl (bc rfl (bc rfl (bc rfl (bc rfl (bc rfl (bc rfl (bc rfl (bc rfl (bc rfl (bc rfl (bc rfl (bc rfl (bc rfl (bc rfl (bc rfl (bc rfl (bc rfl (bc rfl (bc rfl (bc rfl (bc rfl (bc rfl (bc rfl (bc rfl (bc rfl (bc (Bool.or_true _) (bc (Bool.or_true _) (bc (Bool.or_true _) (bc (Bool.or_true _) (bc (Bool.or_true _) (bc (Bool.or_true _) (bc (Bool.or_true _) (bc (Bool.or_true _) (bc (Bool.or_true _) (bc (Bool.or_true _) (bc (Bool.or_true _) (bc (Bool.or_true _) (bc (Bool.or_true _) (bc (Bool.or_true _) (bc (Bool.or_true _) (bc (Bool.or_true _) b0))))))))))))))))))))))))))))))))))))))))))))))))))))))))))))))))))))))) q0 (cc (fun _ => (@ev28 (f) (l) (A) (B) (C) (D) (E) (F) (G) (I) (J) (K) (N) (O) (R) (T) (U) (V) (Y) (Z) k15)) (cc (fun _ => (by (try rw [w4]);(try rw [w6]);(try rw [w8]);(try rw [w10]);(try rw [w12]);(try rw [w14]);all_goals exact (@ZaR (false) (l) (A) (B) (C) (D) (E) (F) (G) (I) (J) (K) (N) (O) (R) (T) (U) (V) (Y) (Z) (ex) (ey) (ex + ux) (ey + uy) k17 d16))) (cc (fun _ => (by (try rw [w4]);(try rw [w6]);(try rw [w8]);(try rw [w10]);(try rw [w12]);(try rw [w14]);all_goals exact (@ZaR (false) (l) (A) (B) (C) (D) (E) (F) (G) (I) (J) (K) (N) (O) (R) (T) (U) (V + (ex + ux - ex)) (Y + (ey + uy - ey)) (Z) (ex + ux) (ey + uy) (ex + ux) (ey + uy) k19 d18))) (cc (fun _ => (by (try rw [w4]);(try rw [w6]);(try rw [w8]);(try rw [w10]);(try rw [w12]);(try rw [w14]);all_goals exact (@ZaR (false) (l) (A) (B) (C) (D) (E) (F) (G) (I) (J) (K) (N) (O) (R) (T) (U) (V + (ex + ux - ex)) (Y + (ey + uy - ey)) (Z) (ex) (ey) (ex + ux) (ey + uy) k21 d20))) (cc (fun _ => (by (try rw [w4]);(try rw [w6]);(try rw [w8]);(try rw [w10]);(try rw [w12]);(try rw [w14]);all_goals exact (@ZaR (false) (l) (A) (B) (C) (D) (E) (F) (G) (I) (J) (K) (N) (O) (R) (T) (U) (V + (ex + ux - ex)) (Y + (ey + uy - ey)) (Z) (ex + ux) (ey + uy) (ex) (ey) k23 d22))) (cc (fun hc => ((by (try rw [w8]);(try rw [w12]);all_goals exact (@ev29 (V) (Y) (Z) (ux) (uy) (0) (k25 ((i_at (i_at (i_bt (Zab (Zab i_eq (Zab i_eq (i_at i_eq))) (Zab (Zab i_eq (Zab i_eq (i_at i_eq))) (Zab (Zab i_eq (Zab i_eq (i_at i_eq))) (Zab (Zab i_eq (Zab i_eq (i_at i_eq))) (Zab (Zab i_eq (Zab i_eq (i_at i_eq))) (i_at (Zab i_eq (Zab i_eq (i_at i_eq)))))))))))).1 hc)))):Ev M1 (Conf.pure 29 [ag [vi V,vi Y,vi Z],ag [vi (wi ux),vi (wi uy),vi 0]]) ((zNpP42 V ux Y uy Z)) [])) (cc (fun hc => ((by (try rw [w8]);(try rw [w12]);all_goals exact (@ev29 (V + (ex + ux - ex)) (Y + (ey + uy - ey)) (Z) (ux) (uy) (0) (k27 ((i_at (i_at (i_bt (Zcy (Zab (Zab i_eq (Zab i_eq (i_at i_eq))) (Zab (Zab i_eq (Zab i_eq (i_at i_eq))) (Zab (Zab i_eq (Zab i_eq (i_at i_eq))) (Zab (Zab i_eq (Zab i_eq (i_at i_eq))) (Zab (Zab i_eq (Zab i_eq (i_at i_eq))) (i_at (Zab i_eq (Zab i_eq (i_at i_eq))))))))) (Zab i_eq (Zab i_eq (i_at i_eq))))))).1 hc)))):Ev M1 (Conf.pure 29 [ag [vi (V + (ex + ux - ex)),vi (Y + (ey + uy - ey)),vi Z],ag [vi (wi ux),vi (wi uy),vi 0]]) ((zNpP40 V ex ux Y ey uy Z)) [])) c0))))))) H
     ·obtain ⟨k28,H⟩:=H
      exact Zae (G:=Zad kp5 [(9,1,.call (ag [vi A,vi B,vi C,vi D,vi E,vi F,vi G,vi I,vi J,vi K,vi N,vi O,vi R,vi T,vi U,vi V,vi Y,vi Z,AV.vec false 2 (List.map Ln.a l)]) none),(9,5,.call (tu [ag [vi A,vi B,vi C,vi D,vi E,vi F,vi G,vi I,vi J,vi K,vi N,vi O,vi R,vi T,vi U,vi (V + (ex + ux - ex)),vi (Y + (ey + uy - ey)),vi Z,AV.vec false 2 (List.map Ln.a l)],vi 0]) none),(10,4,.call (tu [ag [vi A,vi B,vi C,vi D,vi E,vi F,vi G,vi I,vi J,vi K,vi N,vi O,vi R,vi T,vi U,vi (V + (ex + ux - ex) + (ex + ux - (ex + ux))),vi (Y + (ey + uy - ey) + (ey + uy - (ey + uy))),vi Z,AV.vec false 2 (List.map Ln.a l)],vi 0]) none),(11,4,.call (tu [ag [vi A,vi B,vi C,vi D,vi E,vi F,vi G,vi I,vi J,vi K,vi N,vi O,vi R,vi T,vi U,vi (V + (ex + ux - ex) + (ex + ux - ex)),vi (Y + (ey + uy - ey) + (ey + uy - ey)),vi Z,AV.vec false 2 (List.map Ln.a l)],vi 0]) none),(12,4,.call (tu [ZaJ,vi 11]) none)] []) 1000 [false,true] (asm:=[true,true,true,true,true,true,!(decide ((if Y > V then Y else V) > 1000000) == false && true) || true,!(decide ((if Y > V then Y else V) > 1000000) == false && true) || true,!(decide ((if Y > V then Y else V) > 1000000) == false && true) || true,!(decide ((if Y > V then Y else V) > 1000000) == false && true) || true,!(decide ((if Y > V then Y else V) > 1000000) == false && true) || true,!(decide ((if Y > V then Y else V) > 1000000) == false && true) || true,(Zc8 Y V) == false,true,true,true,true,true,true,true,true,true,true,true,true,true,true,true,true,true,true,true,true,true,true,true,true,true,true,true,true,true,true,true,true,true == true]) (calls:=[pc 28 [ag [vi A,vi B,vi C,vi D,vi E,vi F,vi G,vi I,vi J,vi K,vi N,vi O,vi R,vi T,vi U,vi V,vi Y,vi Z,AV.vec f 2 (List.map Ln.a l)]] (ag [vi A,vi B,vi C,vi D,vi E,vi F,vi G,vi I,vi J,vi K,vi N,vi O,vi R,vi T,vi U,vi V,vi Y,vi Z,AV.vec false 2 (List.map Ln.a l)]),pc 27 [ag [vi A,vi B,vi C,vi D,vi E,vi F,vi G,vi I,vi J,vi K,vi N,vi O,vi R,vi T,vi U,vi V,vi Y,vi Z,AV.vec false 2 (List.map Ln.a l)],vi 59000,ag [vi (wi ex),vi (wi ey)],ag [vi (wi (wi ex + wi ux)),vi (wi (wi ey + wi uy))]] (tu [ag [vi A,vi B,vi C,vi D,vi E,vi F,vi G,vi I,vi J,vi K,vi N,vi O,vi R,vi T,vi U,vi (V + (ex + ux - ex)),vi (Y + (ey + uy - ey)),vi Z,AV.vec false 2 (List.map Ln.a l)],vi 0]),pc 27 [ag [vi A,vi B,vi C,vi D,vi E,vi F,vi G,vi I,vi J,vi K,vi N,vi O,vi R,vi T,vi U,vi (V + (ex + ux - ex)),vi (Y + (ey + uy - ey)),vi Z,AV.vec false 2 (List.map Ln.a l)],vi 59000,ag [vi (wi (wi ex + wi ux)),vi (wi (wi ey + wi uy))],ag [vi (wi (wi ex + wi ux)),vi (wi (wi ey + wi uy))]] (tu [ag [vi A,vi B,vi C,vi D,vi E,vi F,vi G,vi I,vi J,vi K,vi N,vi O,vi R,vi T,vi U,vi (V + (ex + ux - ex) + (ex + ux - (ex + ux))),vi (Y + (ey + uy - ey) + (ey + uy - (ey + uy))),vi Z,AV.vec false 2 (List.map Ln.a l)],vi 0]),pc 27 [ag [vi A,vi B,vi C,vi D,vi E,vi F,vi G,vi I,vi J,vi K,vi N,vi O,vi R,vi T,vi U,vi (V + (ex + ux - ex)),vi (Y + (ey + uy - ey)),vi Z,AV.vec false 2 (List.map Ln.a l)],vi 59000,ag [vi (wi ex),vi (wi ey)],ag [vi (wi (wi ex + wi ux)),vi (wi (wi ey + wi uy))]] (tu [ag [vi A,vi B,vi C,vi D,vi E,vi F,vi G,vi I,vi J,vi K,vi N,vi O,vi R,vi T,vi U,vi (V + (ex + ux - ex) + (ex + ux - ex)),vi (Y + (ey + uy - ey) + (ey + uy - ey)),vi Z,AV.vec false 2 (List.map Ln.a l)],vi 0]),pc 27 [ag [vi A,vi B,vi C,vi D,vi E,vi F,vi G,vi I,vi J,vi K,vi N,vi O,vi R,vi T,vi U,vi (V + (ex + ux - ex)),vi (Y + (ey + uy - ey)),vi Z,AV.vec false 2 (List.map Ln.a l)],vi 59000,ag [vi (wi (wi ex + wi ux)),vi (wi (wi ey + wi uy))],ag [vi (wi ex),vi (wi ey)]] (tu [ZaJ,vi 11])]) (vb false) (by kernel_rfl) (bc rfl (bc rfl (bc rfl (bc rfl (bc rfl (bc rfl (bc (Bool.or_true _) (bc (Bool.or_true _) (bc (Bool.or_true _) (bc (Bool.or_true _) (bc (Bool.or_true _) (bc (Bool.or_true _) (bc (Zaj (fun h => d2 ((Zag Zaa Zaa).1 h))) (bc rfl (bc rfl (bc rfl (bc rfl (bc rfl (bc rfl (bc rfl (bc rfl (bc rfl (bc rfl (bc rfl (bc rfl (bc rfl (bc rfl (bc rfl (bc rfl (bc rfl (bc rfl (bc rfl (bc rfl (bc rfl (bc rfl (bc rfl (bc rfl (bc rfl (bc rfl (bc rfl (bc rfl (bc rfl (bc rfl (bc rfl (bc rfl (bc rfl b0)))))))))))))))))))))))))))))))))))))))))))))) q0 (ce (@ev28 (f) (l) (A) (B) (C) (D) (E) (F) (G) (I) (J) (K) (N) (O) (R) (T) (U) (V) (Y) (Z) k15) (ce (by (try rw [w4]);(try rw [w6]);(try rw [w8]);(try rw [w10]);(try rw [w12]);(try rw [w14]);all_goals exact (@ZaR (false) (l) (A) (B) (C) (D) (E) (F) (G) (I) (J) (K) (N) (O) (R) (T) (U) (V) (Y) (Z) (ex) (ey) (ex + ux) (ey + uy) k17 d16)) (ce (by (try rw [w4]);(try rw [w6]);(try rw [w8]);(try rw [w10]);(try rw [w12]);(try rw [w14]);all_goals exact (@ZaR (false) (l) (A) (B) (C) (D) (E) (F) (G) (I) (J) (K) (N) (O) (R) (T) (U) (V + (ex + ux - ex)) (Y + (ey + uy - ey)) (Z) (ex + ux) (ey + uy) (ex + ux) (ey + uy) k19 d18)) (ce (by (try rw [w4]);(try rw [w6]);(try rw [w8]);(try rw [w10]);(try rw [w12]);(try rw [w14]);all_goals exact (@ZaR (false) (l) (A) (B) (C) (D) (E) (F) (G) (I) (J) (K) (N) (O) (R) (T) (U) (V + (ex + ux - ex)) (Y + (ey + uy - ey)) (Z) (ex) (ey) (ex + ux) (ey + uy) k21 d20)) (ce (by (try rw [w4]);(try rw [w6]);(try rw [w8]);(try rw [w10]);(try rw [w12]);(try rw [w14]);all_goals exact (@Zbx (false) (l) (A) (B) (C) (D) (E) (F) (G) (I) (J) (K) (N) (O) (R) (T) (U) (V + (ex + ux - ex)) (Y + (ey + uy - ey)) (Z) (ex + ux) (ey + uy) (ex) (ey) k28 d22)) c0))))) H
    ·obtain ⟨k29,H⟩:=H
     rcases xq H with ⟨d30,H⟩|⟨d30,H⟩
     ·obtain ⟨k31,H⟩:=H
      exact Zae (G:=Zad kp5 [(9,1,.call (ag [vi A,vi B,vi C,vi D,vi E,vi F,vi G,vi I,vi J,vi K,vi N,vi O,vi R,vi T,vi U,vi V,vi Y,vi Z,AV.vec false 2 (List.map Ln.a l)]) none),(9,5,.call (tu [ag [vi A,vi B,vi C,vi D,vi E,vi F,vi G,vi I,vi J,vi K,vi N,vi O,vi R,vi T,vi U,vi (V + (ex + ux - ex)),vi (Y + (ey + uy - ey)),vi Z,AV.vec false 2 (List.map Ln.a l)],vi 0]) none),(10,4,.call (tu [ag [vi A,vi B,vi C,vi D,vi E,vi F,vi G,vi I,vi J,vi K,vi N,vi O,vi R,vi T,vi U,vi (V + (ex + ux - ex) + (ex + ux - (ex + ux))),vi (Y + (ey + uy - ey) + (ey + uy - (ey + uy))),vi Z,AV.vec false 2 (List.map Ln.a l)],vi 0]) none),(11,4,.call (tu [ZaJ,vi 11]) none),(12,4,.call (tu [ag [vi A,vi B,vi C,vi D,vi E,vi F,vi G,vi I,vi J,vi K,vi N,vi O,vi R,vi T,vi U,vi (V + (ex + ux - ex) + (ex - (ex + ux))),vi (Y + (ey + uy - ey) + (ey - (ey + uy))),vi Z,AV.vec false 2 (List.map Ln.a l)],vi 0]) none)] []) 1000 [false,true] (asm:=[true,true,true,true,true,true,!(decide ((if Y > V then Y else V) > 1000000) == false && true) || true,!(decide ((if Y > V then Y else V) > 1000000) == false && true) || true,!(decide ((if Y > V then Y else V) > 1000000) == false && true) || true,!(decide ((if Y > V then Y else V) > 1000000) == false && true) || true,!(decide ((if Y > V then Y else V) > 1000000) == false && true) || true,!(decide ((if Y > V then Y else V) > 1000000) == false && true) || true,(Zc8 Y V) == false,true,true,true,true,true,true,true,true,true,true,true,true,true,true,true,true,true,true,true,true,true,true,true,true,true,true,true,true,true,true,true,true,true == true]) (calls:=[pc 28 [ag [vi A,vi B,vi C,vi D,vi E,vi F,vi G,vi I,vi J,vi K,vi N,vi O,vi R,vi T,vi U,vi V,vi Y,vi Z,AV.vec f 2 (List.map Ln.a l)]] (ag [vi A,vi B,vi C,vi D,vi E,vi F,vi G,vi I,vi J,vi K,vi N,vi O,vi R,vi T,vi U,vi V,vi Y,vi Z,AV.vec false 2 (List.map Ln.a l)]),pc 27 [ag [vi A,vi B,vi C,vi D,vi E,vi F,vi G,vi I,vi J,vi K,vi N,vi O,vi R,vi T,vi U,vi V,vi Y,vi Z,AV.vec false 2 (List.map Ln.a l)],vi 59000,ag [vi (wi ex),vi (wi ey)],ag [vi (wi (wi ex + wi ux)),vi (wi (wi ey + wi uy))]] (tu [ag [vi A,vi B,vi C,vi D,vi E,vi F,vi G,vi I,vi J,vi K,vi N,vi O,vi R,vi T,vi U,vi (V + (ex + ux - ex)),vi (Y + (ey + uy - ey)),vi Z,AV.vec false 2 (List.map Ln.a l)],vi 0]),pc 27 [ag [vi A,vi B,vi C,vi D,vi E,vi F,vi G,vi I,vi J,vi K,vi N,vi O,vi R,vi T,vi U,vi (V + (ex + ux - ex)),vi (Y + (ey + uy - ey)),vi Z,AV.vec false 2 (List.map Ln.a l)],vi 59000,ag [vi (wi (wi ex + wi ux)),vi (wi (wi ey + wi uy))],ag [vi (wi (wi ex + wi ux)),vi (wi (wi ey + wi uy))]] (tu [ag [vi A,vi B,vi C,vi D,vi E,vi F,vi G,vi I,vi J,vi K,vi N,vi O,vi R,vi T,vi U,vi (V + (ex + ux - ex) + (ex + ux - (ex + ux))),vi (Y + (ey + uy - ey) + (ey + uy - (ey + uy))),vi Z,AV.vec false 2 (List.map Ln.a l)],vi 0]),pc 27 [ag [vi A,vi B,vi C,vi D,vi E,vi F,vi G,vi I,vi J,vi K,vi N,vi O,vi R,vi T,vi U,vi (V + (ex + ux - ex)),vi (Y + (ey + uy - ey)),vi Z,AV.vec false 2 (List.map Ln.a l)],vi 59000,ag [vi (wi ex),vi (wi ey)],ag [vi (wi (wi ex + wi ux)),vi (wi (wi ey + wi uy))]] (tu [ZaJ,vi 11]),pc 27 [ag [vi A,vi B,vi C,vi D,vi E,vi F,vi G,vi I,vi J,vi K,vi N,vi O,vi R,vi T,vi U,vi (V + (ex + ux - ex)),vi (Y + (ey + uy - ey)),vi Z,AV.vec false 2 (List.map Ln.a l)],vi 59000,ag [vi (wi (wi ex + wi ux)),vi (wi (wi ey + wi uy))],ag [vi (wi ex),vi (wi ey)]] (tu [ag [vi A,vi B,vi C,vi D,vi E,vi F,vi G,vi I,vi J,vi K,vi N,vi O,vi R,vi T,vi U,vi (V + (ex + ux - ex) + (ex - (ex + ux))),vi (Y + (ey + uy - ey) + (ey - (ey + uy))),vi Z,AV.vec false 2 (List.map Ln.a l)],vi 0])]) (vb false) (by kernel_rfl) (bc rfl (bc rfl (bc rfl (bc rfl (bc rfl (bc rfl (bc (Bool.or_true _) (bc (Bool.or_true _) (bc (Bool.or_true _) (bc (Bool.or_true _) (bc (Bool.or_true _) (bc (Bool.or_true _) (bc (Zaj (fun h => d2 ((Zag Zaa Zaa).1 h))) (bc rfl (bc rfl (bc rfl (bc rfl (bc rfl (bc rfl (bc rfl (bc rfl (bc rfl (bc rfl (bc rfl (bc rfl (bc rfl (bc rfl (bc rfl (bc rfl (bc rfl (bc rfl (bc rfl (bc rfl (bc rfl (bc rfl (bc rfl (bc rfl (bc rfl (bc rfl (bc rfl (bc rfl (bc rfl (bc rfl (bc rfl (bc rfl (bc rfl b0)))))))))))))))))))))))))))))))))))))))))))))) q0 (ce (@ev28 (f) (l) (A) (B) (C) (D) (E) (F) (G) (I) (J) (K) (N) (O) (R) (T) (U) (V) (Y) (Z) k15) (ce (by (try rw [w4]);(try rw [w6]);(try rw [w8]);(try rw [w10]);(try rw [w12]);(try rw [w14]);all_goals exact (@ZaR (false) (l) (A) (B) (C) (D) (E) (F) (G) (I) (J) (K) (N) (O) (R) (T) (U) (V) (Y) (Z) (ex) (ey) (ex + ux) (ey + uy) k17 d16)) (ce (by (try rw [w4]);(try rw [w6]);(try rw [w8]);(try rw [w10]);(try rw [w12]);(try rw [w14]);all_goals exact (@ZaR (false) (l) (A) (B) (C) (D) (E) (F) (G) (I) (J) (K) (N) (O) (R) (T) (U) (V + (ex + ux - ex)) (Y + (ey + uy - ey)) (Z) (ex + ux) (ey + uy) (ex + ux) (ey + uy) k19 d18)) (ce (by (try rw [w4]);(try rw [w6]);(try rw [w8]);(try rw [w10]);(try rw [w12]);(try rw [w14]);all_goals exact (@Zbx (false) (l) (A) (B) (C) (D) (E) (F) (G) (I) (J) (K) (N) (O) (R) (T) (U) (V + (ex + ux - ex)) (Y + (ey + uy - ey)) (Z) (ex) (ey) (ex + ux) (ey + uy) k29 d20)) (ce (by (try rw [w4]);(try rw [w6]);(try rw [w8]);(try rw [w10]);(try rw [w12]);(try rw [w14]);all_goals exact (@ZaR (false) (l) (A) (B) (C) (D) (E) (F) (G) (I) (J) (K) (N) (O) (R) (T) (U) (V + (ex + ux - ex)) (Y + (ey + uy - ey)) (Z) (ex + ux) (ey + uy) (ex) (ey) k31 d30)) c0))))) H
     ·obtain ⟨k32,H⟩:=H
      exact Zae (G:=Zad kp5 [(9,1,.call (ag [vi A,vi B,vi C,vi D,vi E,vi F,vi G,vi I,vi J,vi K,vi N,vi O,vi R,vi T,vi U,vi V,vi Y,vi Z,AV.vec false 2 (List.map Ln.a l)]) none),(9,5,.call (tu [ag [vi A,vi B,vi C,vi D,vi E,vi F,vi G,vi I,vi J,vi K,vi N,vi O,vi R,vi T,vi U,vi (V + (ex + ux - ex)),vi (Y + (ey + uy - ey)),vi Z,AV.vec false 2 (List.map Ln.a l)],vi 0]) none),(10,4,.call (tu [ag [vi A,vi B,vi C,vi D,vi E,vi F,vi G,vi I,vi J,vi K,vi N,vi O,vi R,vi T,vi U,vi (V + (ex + ux - ex) + (ex + ux - (ex + ux))),vi (Y + (ey + uy - ey) + (ey + uy - (ey + uy))),vi Z,AV.vec false 2 (List.map Ln.a l)],vi 0]) none),(11,4,.call (tu [ZaJ,vi 11]) none),(12,4,.call (tu [ZaJ,vi 11]) none)] []) 1000 [false,true] (asm:=[true,true,true,true,true,true,!(decide ((if Y > V then Y else V) > 1000000) == false && true) || true,!(decide ((if Y > V then Y else V) > 1000000) == false && true) || true,!(decide ((if Y > V then Y else V) > 1000000) == false && true) || true,!(decide ((if Y > V then Y else V) > 1000000) == false && true) || true,!(decide ((if Y > V then Y else V) > 1000000) == false && true) || true,!(decide ((if Y > V then Y else V) > 1000000) == false && true) || true,(Zc8 Y V) == false,true,true,true,true,true,true,true,true,true,true,true,true,true,true,true,true,true,true,true,true,true,true,true,true,true,true,true,true,true,true,true,true,true == true]) (calls:=[pc 28 [ag [vi A,vi B,vi C,vi D,vi E,vi F,vi G,vi I,vi J,vi K,vi N,vi O,vi R,vi T,vi U,vi V,vi Y,vi Z,AV.vec f 2 (List.map Ln.a l)]] (ag [vi A,vi B,vi C,vi D,vi E,vi F,vi G,vi I,vi J,vi K,vi N,vi O,vi R,vi T,vi U,vi V,vi Y,vi Z,AV.vec false 2 (List.map Ln.a l)]),pc 27 [ag [vi A,vi B,vi C,vi D,vi E,vi F,vi G,vi I,vi J,vi K,vi N,vi O,vi R,vi T,vi U,vi V,vi Y,vi Z,AV.vec false 2 (List.map Ln.a l)],vi 59000,ag [vi (wi ex),vi (wi ey)],ag [vi (wi (wi ex + wi ux)),vi (wi (wi ey + wi uy))]] (tu [ag [vi A,vi B,vi C,vi D,vi E,vi F,vi G,vi I,vi J,vi K,vi N,vi O,vi R,vi T,vi U,vi (V + (ex + ux - ex)),vi (Y + (ey + uy - ey)),vi Z,AV.vec false 2 (List.map Ln.a l)],vi 0]),pc 27 [ag [vi A,vi B,vi C,vi D,vi E,vi F,vi G,vi I,vi J,vi K,vi N,vi O,vi R,vi T,vi U,vi (V + (ex + ux - ex)),vi (Y + (ey + uy - ey)),vi Z,AV.vec false 2 (List.map Ln.a l)],vi 59000,ag [vi (wi (wi ex + wi ux)),vi (wi (wi ey + wi uy))],ag [vi (wi (wi ex + wi ux)),vi (wi (wi ey + wi uy))]] (tu [ag [vi A,vi B,vi C,vi D,vi E,vi F,vi G,vi I,vi J,vi K,vi N,vi O,vi R,vi T,vi U,vi (V + (ex + ux - ex) + (ex + ux - (ex + ux))),vi (Y + (ey + uy - ey) + (ey + uy - (ey + uy))),vi Z,AV.vec false 2 (List.map Ln.a l)],vi 0]),pc 27 [ag [vi A,vi B,vi C,vi D,vi E,vi F,vi G,vi I,vi J,vi K,vi N,vi O,vi R,vi T,vi U,vi (V + (ex + ux - ex)),vi (Y + (ey + uy - ey)),vi Z,AV.vec false 2 (List.map Ln.a l)],vi 59000,ag [vi (wi ex),vi (wi ey)],ag [vi (wi (wi ex + wi ux)),vi (wi (wi ey + wi uy))]] (tu [ZaJ,vi 11]),pc 27 [ag [vi A,vi B,vi C,vi D,vi E,vi F,vi G,vi I,vi J,vi K,vi N,vi O,vi R,vi T,vi U,vi (V + (ex + ux - ex)),vi (Y + (ey + uy - ey)),vi Z,AV.vec false 2 (List.map Ln.a l)],vi 59000,ag [vi (wi (wi ex + wi ux)),vi (wi (wi ey + wi uy))],ag [vi (wi ex),vi (wi ey)]] (tu [ZaJ,vi 11])]) (vb false) (by kernel_rfl) (bc rfl (bc rfl (bc rfl (bc rfl (bc rfl (bc rfl (bc (Bool.or_true _) (bc (Bool.or_true _) (bc (Bool.or_true _) (bc (Bool.or_true _) (bc (Bool.or_true _) (bc (Bool.or_true _) (bc (Zaj (fun h => d2 ((Zag Zaa Zaa).1 h))) (bc rfl (bc rfl (bc rfl (bc rfl (bc rfl (bc rfl (bc rfl (bc rfl (bc rfl (bc rfl (bc rfl (bc rfl (bc rfl (bc rfl (bc rfl (bc rfl (bc rfl (bc rfl (bc rfl (bc rfl (bc rfl (bc rfl (bc rfl (bc rfl (bc rfl (bc rfl (bc rfl (bc rfl (bc rfl (bc rfl (bc rfl (bc rfl (bc rfl b0)))))))))))))))))))))))))))))))))))))))))))))) q0 (ce (@ev28 (f) (l) (A) (B) (C) (D) (E) (F) (G) (I) (J) (K) (N) (O) (R) (T) (U) (V) (Y) (Z) k15) (ce (by (try rw [w4]);(try rw [w6]);(try rw [w8]);(try rw [w10]);(try rw [w12]);(try rw [w14]);all_goals exact (@ZaR (false) (l) (A) (B) (C) (D) (E) (F) (G) (I) (J) (K) (N) (O) (R) (T) (U) (V) (Y) (Z) (ex) (ey) (ex + ux) (ey + uy) k17 d16)) (ce (by (try rw [w4]);(try rw [w6]);(try rw [w8]);(try rw [w10]);(try rw [w12]);(try rw [w14]);all_goals exact (@ZaR (false) (l) (A) (B) (C) (D) (E) (F) (G) (I) (J) (K) (N) (O) (R) (T) (U) (V + (ex + ux - ex)) (Y + (ey + uy - ey)) (Z) (ex + ux) (ey + uy) (ex + ux) (ey + uy) k19 d18)) (ce (by (try rw [w4]);(try rw [w6]);(try rw [w8]);(try rw [w10]);(try rw [w12]);(try rw [w14]);all_goals exact (@Zbx (false) (l) (A) (B) (C) (D) (E) (F) (G) (I) (J) (K) (N) (O) (R) (T) (U) (V + (ex + ux - ex)) (Y + (ey + uy - ey)) (Z) (ex) (ey) (ex + ux) (ey + uy) k29 d20)) (ce (by (try rw [w4]);(try rw [w6]);(try rw [w8]);(try rw [w10]);(try rw [w12]);(try rw [w14]);all_goals exact (@Zbx (false) (l) (A) (B) (C) (D) (E) (F) (G) (I) (J) (K) (N) (O) (R) (T) (U) (V + (ex + ux - ex)) (Y + (ey + uy - ey)) (Z) (ex + ux) (ey + uy) (ex) (ey) k32 d30)) c0))))) H
   ·obtain ⟨k33,H⟩:=H
    rcases xq H with ⟨d34,H⟩|⟨d34,H⟩
    ·obtain ⟨k35,H⟩:=H
     rcases xq H with ⟨d36,H⟩|⟨d36,H⟩
     ·obtain ⟨k37,H⟩:=H
      exact Zae (G:=Zad kp5 [(9,1,.call (ag [vi A,vi B,vi C,vi D,vi E,vi F,vi G,vi I,vi J,vi K,vi N,vi O,vi R,vi T,vi U,vi V,vi Y,vi Z,AV.vec false 2 (List.map Ln.a l)]) none),(9,5,.call (tu [ag [vi A,vi B,vi C,vi D,vi E,vi F,vi G,vi I,vi J,vi K,vi N,vi O,vi R,vi T,vi U,vi (V + (ex + ux - ex)),vi (Y + (ey + uy - ey)),vi Z,AV.vec false 2 (List.map Ln.a l)],vi 0]) none),(10,4,.call (tu [ZaJ,vi 11]) none),(11,4,.call (tu [ag [vi A,vi B,vi C,vi D,vi E,vi F,vi G,vi I,vi J,vi K,vi N,vi O,vi R,vi T,vi U,vi (V + (ex + ux - ex) + (ex + ux - ex)),vi (Y + (ey + uy - ey) + (ey + uy - ey)),vi Z,AV.vec false 2 (List.map Ln.a l)],vi 0]) none),(12,4,.call (tu [ag [vi A,vi B,vi C,vi D,vi E,vi F,vi G,vi I,vi J,vi K,vi N,vi O,vi R,vi T,vi U,vi (V + (ex + ux - ex) + (ex - (ex + ux))),vi (Y + (ey + uy - ey) + (ey - (ey + uy))),vi Z,AV.vec false 2 (List.map Ln.a l)],vi 0]) none)] []) 1000 [false,true] (asm:=[true,true,true,true,true,true,!(decide ((if Y > V then Y else V) > 1000000) == false && true) || true,!(decide ((if Y > V then Y else V) > 1000000) == false && true) || true,!(decide ((if Y > V then Y else V) > 1000000) == false && true) || true,!(decide ((if Y > V then Y else V) > 1000000) == false && true) || true,!(decide ((if Y > V then Y else V) > 1000000) == false && true) || true,!(decide ((if Y > V then Y else V) > 1000000) == false && true) || true,(Zc8 Y V) == false,true,true,true,true,true,true,true,true,true,true,true,true,true,true,true,true,true,true,true,true,true,true,true,true,true,true,true,true,true,true,true,true,true == true]) (calls:=[pc 28 [ag [vi A,vi B,vi C,vi D,vi E,vi F,vi G,vi I,vi J,vi K,vi N,vi O,vi R,vi T,vi U,vi V,vi Y,vi Z,AV.vec f 2 (List.map Ln.a l)]] (ag [vi A,vi B,vi C,vi D,vi E,vi F,vi G,vi I,vi J,vi K,vi N,vi O,vi R,vi T,vi U,vi V,vi Y,vi Z,AV.vec false 2 (List.map Ln.a l)]),pc 27 [ag [vi A,vi B,vi C,vi D,vi E,vi F,vi G,vi I,vi J,vi K,vi N,vi O,vi R,vi T,vi U,vi V,vi Y,vi Z,AV.vec false 2 (List.map Ln.a l)],vi 59000,ag [vi (wi ex),vi (wi ey)],ag [vi (wi (wi ex + wi ux)),vi (wi (wi ey + wi uy))]] (tu [ag [vi A,vi B,vi C,vi D,vi E,vi F,vi G,vi I,vi J,vi K,vi N,vi O,vi R,vi T,vi U,vi (V + (ex + ux - ex)),vi (Y + (ey + uy - ey)),vi Z,AV.vec false 2 (List.map Ln.a l)],vi 0]),pc 27 [ag [vi A,vi B,vi C,vi D,vi E,vi F,vi G,vi I,vi J,vi K,vi N,vi O,vi R,vi T,vi U,vi (V + (ex + ux - ex)),vi (Y + (ey + uy - ey)),vi Z,AV.vec false 2 (List.map Ln.a l)],vi 59000,ag [vi (wi (wi ex + wi ux)),vi (wi (wi ey + wi uy))],ag [vi (wi (wi ex + wi ux)),vi (wi (wi ey + wi uy))]] (tu [ZaJ,vi 11]),pc 27 [ag [vi A,vi B,vi C,vi D,vi E,vi F,vi G,vi I,vi J,vi K,vi N,vi O,vi R,vi T,vi U,vi (V + (ex + ux - ex)),vi (Y + (ey + uy - ey)),vi Z,AV.vec false 2 (List.map Ln.a l)],vi 59000,ag [vi (wi ex),vi (wi ey)],ag [vi (wi (wi ex + wi ux)),vi (wi (wi ey + wi uy))]] (tu [ag [vi A,vi B,vi C,vi D,vi E,vi F,vi G,vi I,vi J,vi K,vi N,vi O,vi R,vi T,vi U,vi (V + (ex + ux - ex) + (ex + ux - ex)),vi (Y + (ey + uy - ey) + (ey + uy - ey)),vi Z,AV.vec false 2 (List.map Ln.a l)],vi 0]),pc 27 [ag [vi A,vi B,vi C,vi D,vi E,vi F,vi G,vi I,vi J,vi K,vi N,vi O,vi R,vi T,vi U,vi (V + (ex + ux - ex)),vi (Y + (ey + uy - ey)),vi Z,AV.vec false 2 (List.map Ln.a l)],vi 59000,ag [vi (wi (wi ex + wi ux)),vi (wi (wi ey + wi uy))],ag [vi (wi ex),vi (wi ey)]] (tu [ag [vi A,vi B,vi C,vi D,vi E,vi F,vi G,vi I,vi J,vi K,vi N,vi O,vi R,vi T,vi U,vi (V + (ex + ux - ex) + (ex - (ex + ux))),vi (Y + (ey + uy - ey) + (ey - (ey + uy))),vi Z,AV.vec false 2 (List.map Ln.a l)],vi 0])]) (vb false) (by kernel_rfl) (bc rfl (bc rfl (bc rfl (bc rfl (bc rfl (bc rfl (bc (Bool.or_true _) (bc (Bool.or_true _) (bc (Bool.or_true _) (bc (Bool.or_true _) (bc (Bool.or_true _) (bc (Bool.or_true _) (bc (Zaj (fun h => d2 ((Zag Zaa Zaa).1 h))) (bc rfl (bc rfl (bc rfl (bc rfl (bc rfl (bc rfl (bc rfl (bc rfl (bc rfl (bc rfl (bc rfl (bc rfl (bc rfl (bc rfl (bc rfl (bc rfl (bc rfl (bc rfl (bc rfl (bc rfl (bc rfl (bc rfl (bc rfl (bc rfl (bc rfl (bc rfl (bc rfl (bc rfl (bc rfl (bc rfl (bc rfl (bc rfl (bc rfl b0)))))))))))))))))))))))))))))))))))))))))))))) q0 (ce (@ev28 (f) (l) (A) (B) (C) (D) (E) (F) (G) (I) (J) (K) (N) (O) (R) (T) (U) (V) (Y) (Z) k15) (ce (by (try rw [w4]);(try rw [w6]);(try rw [w8]);(try rw [w10]);(try rw [w12]);(try rw [w14]);all_goals exact (@ZaR (false) (l) (A) (B) (C) (D) (E) (F) (G) (I) (J) (K) (N) (O) (R) (T) (U) (V) (Y) (Z) (ex) (ey) (ex + ux) (ey + uy) k17 d16)) (ce (by (try rw [w4]);(try rw [w6]);(try rw [w8]);(try rw [w10]);(try rw [w12]);(try rw [w14]);all_goals exact (@Zbx (false) (l) (A) (B) (C) (D) (E) (F) (G) (I) (J) (K) (N) (O) (R) (T) (U) (V + (ex + ux - ex)) (Y + (ey + uy - ey)) (Z) (ex + ux) (ey + uy) (ex + ux) (ey + uy) k33 d18)) (ce (by (try rw [w4]);(try rw [w6]);(try rw [w8]);(try rw [w10]);(try rw [w12]);(try rw [w14]);all_goals exact (@ZaR (false) (l) (A) (B) (C) (D) (E) (F) (G) (I) (J) (K) (N) (O) (R) (T) (U) (V + (ex + ux - ex)) (Y + (ey + uy - ey)) (Z) (ex) (ey) (ex + ux) (ey + uy) k35 d34)) (ce (by (try rw [w4]);(try rw [w6]);(try rw [w8]);(try rw [w10]);(try rw [w12]);(try rw [w14]);all_goals exact (@ZaR (false) (l) (A) (B) (C) (D) (E) (F) (G) (I) (J) (K) (N) (O) (R) (T) (U) (V + (ex + ux - ex)) (Y + (ey + uy - ey)) (Z) (ex + ux) (ey + uy) (ex) (ey) k37 d36)) c0))))) H
     ·obtain ⟨k38,H⟩:=H
      exact Zae (G:=Zad kp5 [(9,1,.call (ag [vi A,vi B,vi C,vi D,vi E,vi F,vi G,vi I,vi J,vi K,vi N,vi O,vi R,vi T,vi U,vi V,vi Y,vi Z,AV.vec false 2 (List.map Ln.a l)]) none),(9,5,.call (tu [ag [vi A,vi B,vi C,vi D,vi E,vi F,vi G,vi I,vi J,vi K,vi N,vi O,vi R,vi T,vi U,vi (V + (ex + ux - ex)),vi (Y + (ey + uy - ey)),vi Z,AV.vec false 2 (List.map Ln.a l)],vi 0]) none),(10,4,.call (tu [ZaJ,vi 11]) none),(11,4,.call (tu [ag [vi A,vi B,vi C,vi D,vi E,vi F,vi G,vi I,vi J,vi K,vi N,vi O,vi R,vi T,vi U,vi (V + (ex + ux - ex) + (ex + ux - ex)),vi (Y + (ey + uy - ey) + (ey + uy - ey)),vi Z,AV.vec false 2 (List.map Ln.a l)],vi 0]) none),(12,4,.call (tu [ZaJ,vi 11]) none)] []) 1000 [false,true] (asm:=[true,true,true,true,true,true,!(decide ((if Y > V then Y else V) > 1000000) == false && true) || true,!(decide ((if Y > V then Y else V) > 1000000) == false && true) || true,!(decide ((if Y > V then Y else V) > 1000000) == false && true) || true,!(decide ((if Y > V then Y else V) > 1000000) == false && true) || true,!(decide ((if Y > V then Y else V) > 1000000) == false && true) || true,!(decide ((if Y > V then Y else V) > 1000000) == false && true) || true,(Zc8 Y V) == false,true,true,true,true,true,true,true,true,true,true,true,true,true,true,true,true,true,true,true,true,true,true,true,true,true,true,true,true,true,true,true,true,true == true]) (calls:=[pc 28 [ag [vi A,vi B,vi C,vi D,vi E,vi F,vi G,vi I,vi J,vi K,vi N,vi O,vi R,vi T,vi U,vi V,vi Y,vi Z,AV.vec f 2 (List.map Ln.a l)]] (ag [vi A,vi B,vi C,vi D,vi E,vi F,vi G,vi I,vi J,vi K,vi N,vi O,vi R,vi T,vi U,vi V,vi Y,vi Z,AV.vec false 2 (List.map Ln.a l)]),pc 27 [ag [vi A,vi B,vi C,vi D,vi E,vi F,vi G,vi I,vi J,vi K,vi N,vi O,vi R,vi T,vi U,vi V,vi Y,vi Z,AV.vec false 2 (List.map Ln.a l)],vi 59000,ag [vi (wi ex),vi (wi ey)],ag [vi (wi (wi ex + wi ux)),vi (wi (wi ey + wi uy))]] (tu [ag [vi A,vi B,vi C,vi D,vi E,vi F,vi G,vi I,vi J,vi K,vi N,vi O,vi R,vi T,vi U,vi (V + (ex + ux - ex)),vi (Y + (ey + uy - ey)),vi Z,AV.vec false 2 (List.map Ln.a l)],vi 0]),pc 27 [ag [vi A,vi B,vi C,vi D,vi E,vi F,vi G,vi I,vi J,vi K,vi N,vi O,vi R,vi T,vi U,vi (V + (ex + ux - ex)),vi (Y + (ey + uy - ey)),vi Z,AV.vec false 2 (List.map Ln.a l)],vi 59000,ag [vi (wi (wi ex + wi ux)),vi (wi (wi ey + wi uy))],ag [vi (wi (wi ex + wi ux)),vi (wi (wi ey + wi uy))]] (tu [ZaJ,vi 11]),pc 27 [ag [vi A,vi B,vi C,vi D,vi E,vi F,vi G,vi I,vi J,vi K,vi N,vi O,vi R,vi T,vi U,vi (V + (ex + ux - ex)),vi (Y + (ey + uy - ey)),vi Z,AV.vec false 2 (List.map Ln.a l)],vi 59000,ag [vi (wi ex),vi (wi ey)],ag [vi (wi (wi ex + wi ux)),vi (wi (wi ey + wi uy))]] (tu [ag [vi A,vi B,vi C,vi D,vi E,vi F,vi G,vi I,vi J,vi K,vi N,vi O,vi R,vi T,vi U,vi (V + (ex + ux - ex) + (ex + ux - ex)),vi (Y + (ey + uy - ey) + (ey + uy - ey)),vi Z,AV.vec false 2 (List.map Ln.a l)],vi 0]),pc 27 [ag [vi A,vi B,vi C,vi D,vi E,vi F,vi G,vi I,vi J,vi K,vi N,vi O,vi R,vi T,vi U,vi (V + (ex + ux - ex)),vi (Y + (ey + uy - ey)),vi Z,AV.vec false 2 (List.map Ln.a l)],vi 59000,ag [vi (wi (wi ex + wi ux)),vi (wi (wi ey + wi uy))],ag [vi (wi ex),vi (wi ey)]] (tu [ZaJ,vi 11])]) (vb false) (by kernel_rfl) (bc rfl (bc rfl (bc rfl (bc rfl (bc rfl (bc rfl (bc (Bool.or_true _) (bc (Bool.or_true _) (bc (Bool.or_true _) (bc (Bool.or_true _) (bc (Bool.or_true _) (bc (Bool.or_true _) (bc (Zaj (fun h => d2 ((Zag Zaa Zaa).1 h))) (bc rfl (bc rfl (bc rfl (bc rfl (bc rfl (bc rfl (bc rfl (bc rfl (bc rfl (bc rfl (bc rfl (bc rfl (bc rfl (bc rfl (bc rfl (bc rfl (bc rfl (bc rfl (bc rfl (bc rfl (bc rfl (bc rfl (bc rfl (bc rfl (bc rfl (bc rfl (bc rfl (bc rfl (bc rfl (bc rfl (bc rfl (bc rfl (bc rfl b0)))))))))))))))))))))))))))))))))))))))))))))) q0 (ce (@ev28 (f) (l) (A) (B) (C) (D) (E) (F) (G) (I) (J) (K) (N) (O) (R) (T) (U) (V) (Y) (Z) k15) (ce (by (try rw [w4]);(try rw [w6]);(try rw [w8]);(try rw [w10]);(try rw [w12]);(try rw [w14]);all_goals exact (@ZaR (false) (l) (A) (B) (C) (D) (E) (F) (G) (I) (J) (K) (N) (O) (R) (T) (U) (V) (Y) (Z) (ex) (ey) (ex + ux) (ey + uy) k17 d16)) (ce (by (try rw [w4]);(try rw [w6]);(try rw [w8]);(try rw [w10]);(try rw [w12]);(try rw [w14]);all_goals exact (@Zbx (false) (l) (A) (B) (C) (D) (E) (F) (G) (I) (J) (K) (N) (O) (R) (T) (U) (V + (ex + ux - ex)) (Y + (ey + uy - ey)) (Z) (ex + ux) (ey + uy) (ex + ux) (ey + uy) k33 d18)) (ce (by (try rw [w4]);(try rw [w6]);(try rw [w8]);(try rw [w10]);(try rw [w12]);(try rw [w14]);all_goals exact (@ZaR (false) (l) (A) (B) (C) (D) (E) (F) (G) (I) (J) (K) (N) (O) (R) (T) (U) (V + (ex + ux - ex)) (Y + (ey + uy - ey)) (Z) (ex) (ey) (ex + ux) (ey + uy) k35 d34)) (ce (by (try rw [w4]);(try rw [w6]);(try rw [w8]);(try rw [w10]);(try rw [w12]);(try rw [w14]);all_goals exact (@Zbx (false) (l) (A) (B) (C) (D) (E) (F) (G) (I) (J) (K) (N) (O) (R) (T) (U) (V + (ex + ux - ex)) (Y + (ey + uy - ey)) (Z) (ex + ux) (ey + uy) (ex) (ey) k38 d36)) c0))))) H
    ·obtain ⟨k39,H⟩:=H
     rcases xq H with ⟨d40,H⟩|⟨d40,H⟩
     ·obtain ⟨k41,H⟩:=H
      exact Zae (G:=Zad kp5 [(9,1,.call (ag [vi A,vi B,vi C,vi D,vi E,vi F,vi G,vi I,vi J,vi K,vi N,vi O,vi R,vi T,vi U,vi V,vi Y,vi Z,AV.vec false 2 (List.map Ln.a l)]) none),(9,5,.call (tu [ag [vi A,vi B,vi C,vi D,vi E,vi F,vi G,vi I,vi J,vi K,vi N,vi O,vi R,vi T,vi U,vi (V + (ex + ux - ex)),vi (Y + (ey + uy - ey)),vi Z,AV.vec false 2 (List.map Ln.a l)],vi 0]) none),(10,4,.call (tu [ZaJ,vi 11]) none),(11,4,.call (tu [ZaJ,vi 11]) none),(12,4,.call (tu [ag [vi A,vi B,vi C,vi D,vi E,vi F,vi G,vi I,vi J,vi K,vi N,vi O,vi R,vi T,vi U,vi (V + (ex + ux - ex) + (ex - (ex + ux))),vi (Y + (ey + uy - ey) + (ey - (ey + uy))),vi Z,AV.vec false 2 (List.map Ln.a l)],vi 0]) none)] []) 1000 [false,true] (asm:=[true,true,true,true,true,true,!(decide ((if Y > V then Y else V) > 1000000) == false && true) || true,!(decide ((if Y > V then Y else V) > 1000000) == false && true) || true,!(decide ((if Y > V then Y else V) > 1000000) == false && true) || true,!(decide ((if Y > V then Y else V) > 1000000) == false && true) || true,!(decide ((if Y > V then Y else V) > 1000000) == false && true) || true,!(decide ((if Y > V then Y else V) > 1000000) == false && true) || true,(Zc8 Y V) == false,true,true,true,true,true,true,true,true,true,true,true,true,true,true,true,true,true,true,true,true,true,true,true,true,true,true,true,true,true,true,true,true,true == true]) (calls:=[pc 28 [ag [vi A,vi B,vi C,vi D,vi E,vi F,vi G,vi I,vi J,vi K,vi N,vi O,vi R,vi T,vi U,vi V,vi Y,vi Z,AV.vec f 2 (List.map Ln.a l)]] (ag [vi A,vi B,vi C,vi D,vi E,vi F,vi G,vi I,vi J,vi K,vi N,vi O,vi R,vi T,vi U,vi V,vi Y,vi Z,AV.vec false 2 (List.map Ln.a l)]),pc 27 [ag [vi A,vi B,vi C,vi D,vi E,vi F,vi G,vi I,vi J,vi K,vi N,vi O,vi R,vi T,vi U,vi V,vi Y,vi Z,AV.vec false 2 (List.map Ln.a l)],vi 59000,ag [vi (wi ex),vi (wi ey)],ag [vi (wi (wi ex + wi ux)),vi (wi (wi ey + wi uy))]] (tu [ag [vi A,vi B,vi C,vi D,vi E,vi F,vi G,vi I,vi J,vi K,vi N,vi O,vi R,vi T,vi U,vi (V + (ex + ux - ex)),vi (Y + (ey + uy - ey)),vi Z,AV.vec false 2 (List.map Ln.a l)],vi 0]),pc 27 [ag [vi A,vi B,vi C,vi D,vi E,vi F,vi G,vi I,vi J,vi K,vi N,vi O,vi R,vi T,vi U,vi (V + (ex + ux - ex)),vi (Y + (ey + uy - ey)),vi Z,AV.vec false 2 (List.map Ln.a l)],vi 59000,ag [vi (wi (wi ex + wi ux)),vi (wi (wi ey + wi uy))],ag [vi (wi (wi ex + wi ux)),vi (wi (wi ey + wi uy))]] (tu [ZaJ,vi 11]),pc 27 [ag [vi A,vi B,vi C,vi D,vi E,vi F,vi G,vi I,vi J,vi K,vi N,vi O,vi R,vi T,vi U,vi (V + (ex + ux - ex)),vi (Y + (ey + uy - ey)),vi Z,AV.vec false 2 (List.map Ln.a l)],vi 59000,ag [vi (wi ex),vi (wi ey)],ag [vi (wi (wi ex + wi ux)),vi (wi (wi ey + wi uy))]] (tu [ZaJ,vi 11]),pc 27 [ag [vi A,vi B,vi C,vi D,vi E,vi F,vi G,vi I,vi J,vi K,vi N,vi O,vi R,vi T,vi U,vi (V + (ex + ux - ex)),vi (Y + (ey + uy - ey)),vi Z,AV.vec false 2 (List.map Ln.a l)],vi 59000,ag [vi (wi (wi ex + wi ux)),vi (wi (wi ey + wi uy))],ag [vi (wi ex),vi (wi ey)]] (tu [ag [vi A,vi B,vi C,vi D,vi E,vi F,vi G,vi I,vi J,vi K,vi N,vi O,vi R,vi T,vi U,vi (V + (ex + ux - ex) + (ex - (ex + ux))),vi (Y + (ey + uy - ey) + (ey - (ey + uy))),vi Z,AV.vec false 2 (List.map Ln.a l)],vi 0])]) (vb false) (by kernel_rfl) (bc rfl (bc rfl (bc rfl (bc rfl (bc rfl (bc rfl (bc (Bool.or_true _) (bc (Bool.or_true _) (bc (Bool.or_true _) (bc (Bool.or_true _) (bc (Bool.or_true _) (bc (Bool.or_true _) (bc (Zaj (fun h => d2 ((Zag Zaa Zaa).1 h))) (bc rfl (bc rfl (bc rfl (bc rfl (bc rfl (bc rfl (bc rfl (bc rfl (bc rfl (bc rfl (bc rfl (bc rfl (bc rfl (bc rfl (bc rfl (bc rfl (bc rfl (bc rfl (bc rfl (bc rfl (bc rfl (bc rfl (bc rfl (bc rfl (bc rfl (bc rfl (bc rfl (bc rfl (bc rfl (bc rfl (bc rfl (bc rfl (bc rfl b0)))))))))))))))))))))))))))))))))))))))))))))) q0 (ce (@ev28 (f) (l) (A) (B) (C) (D) (E) (F) (G) (I) (J) (K) (N) (O) (R) (T) (U) (V) (Y) (Z) k15) (ce (by (try rw [w4]);(try rw [w6]);(try rw [w8]);(try rw [w10]);(try rw [w12]);(try rw [w14]);all_goals exact (@ZaR (false) (l) (A) (B) (C) (D) (E) (F) (G) (I) (J) (K) (N) (O) (R) (T) (U) (V) (Y) (Z) (ex) (ey) (ex + ux) (ey + uy) k17 d16)) (ce (by (try rw [w4]);(try rw [w6]);(try rw [w8]);(try rw [w10]);(try rw [w12]);(try rw [w14]);all_goals exact (@Zbx (false) (l) (A) (B) (C) (D) (E) (F) (G) (I) (J) (K) (N) (O) (R) (T) (U) (V + (ex + ux - ex)) (Y + (ey + uy - ey)) (Z) (ex + ux) (ey + uy) (ex + ux) (ey + uy) k33 d18)) (ce (by (try rw [w4]);(try rw [w6]);(try rw [w8]);(try rw [w10]);(try rw [w12]);(try rw [w14]);all_goals exact (@Zbx (false) (l) (A) (B) (C) (D) (E) (F) (G) (I) (J) (K) (N) (O) (R) (T) (U) (V + (ex + ux - ex)) (Y + (ey + uy - ey)) (Z) (ex) (ey) (ex + ux) (ey + uy) k39 d34)) (ce (by (try rw [w4]);(try rw [w6]);(try rw [w8]);(try rw [w10]);(try rw [w12]);(try rw [w14]);all_goals exact (@ZaR (false) (l) (A) (B) (C) (D) (E) (F) (G) (I) (J) (K) (N) (O) (R) (T) (U) (V + (ex + ux - ex)) (Y + (ey + uy - ey)) (Z) (ex + ux) (ey + uy) (ex) (ey) k41 d40)) c0))))) H
     ·obtain ⟨k42,H⟩:=H
      exact Zae (G:=Zad kp5 [(9,1,.call (ag [vi A,vi B,vi C,vi D,vi E,vi F,vi G,vi I,vi J,vi K,vi N,vi O,vi R,vi T,vi U,vi V,vi Y,vi Z,AV.vec false 2 (List.map Ln.a l)]) none),(9,5,.call (tu [ag [vi A,vi B,vi C,vi D,vi E,vi F,vi G,vi I,vi J,vi K,vi N,vi O,vi R,vi T,vi U,vi (V + (ex + ux - ex)),vi (Y + (ey + uy - ey)),vi Z,AV.vec false 2 (List.map Ln.a l)],vi 0]) none),(10,4,.call (tu [ZaJ,vi 11]) none),(11,4,.call (tu [ZaJ,vi 11]) none),(12,4,.call (tu [ZaJ,vi 11]) none)] []) 1000 [false,true] (asm:=[true,true,true,true,true,true,!(decide ((if Y > V then Y else V) > 1000000) == false && true) || true,!(decide ((if Y > V then Y else V) > 1000000) == false && true) || true,!(decide ((if Y > V then Y else V) > 1000000) == false && true) || true,!(decide ((if Y > V then Y else V) > 1000000) == false && true) || true,!(decide ((if Y > V then Y else V) > 1000000) == false && true) || true,!(decide ((if Y > V then Y else V) > 1000000) == false && true) || true,(Zc8 Y V) == false,true,true,true,true,true,true,true,true,true,true,true,true,true,true,true,true,true,true,true,true,true,true,true,true,true,true,true,true,true,true,true,true,true == true]) (calls:=[pc 28 [ag [vi A,vi B,vi C,vi D,vi E,vi F,vi G,vi I,vi J,vi K,vi N,vi O,vi R,vi T,vi U,vi V,vi Y,vi Z,AV.vec f 2 (List.map Ln.a l)]] (ag [vi A,vi B,vi C,vi D,vi E,vi F,vi G,vi I,vi J,vi K,vi N,vi O,vi R,vi T,vi U,vi V,vi Y,vi Z,AV.vec false 2 (List.map Ln.a l)]),pc 27 [ag [vi A,vi B,vi C,vi D,vi E,vi F,vi G,vi I,vi J,vi K,vi N,vi O,vi R,vi T,vi U,vi V,vi Y,vi Z,AV.vec false 2 (List.map Ln.a l)],vi 59000,ag [vi (wi ex),vi (wi ey)],ag [vi (wi (wi ex + wi ux)),vi (wi (wi ey + wi uy))]] (tu [ag [vi A,vi B,vi C,vi D,vi E,vi F,vi G,vi I,vi J,vi K,vi N,vi O,vi R,vi T,vi U,vi (V + (ex + ux - ex)),vi (Y + (ey + uy - ey)),vi Z,AV.vec false 2 (List.map Ln.a l)],vi 0]),pc 27 [ag [vi A,vi B,vi C,vi D,vi E,vi F,vi G,vi I,vi J,vi K,vi N,vi O,vi R,vi T,vi U,vi (V + (ex + ux - ex)),vi (Y + (ey + uy - ey)),vi Z,AV.vec false 2 (List.map Ln.a l)],vi 59000,ag [vi (wi (wi ex + wi ux)),vi (wi (wi ey + wi uy))],ag [vi (wi (wi ex + wi ux)),vi (wi (wi ey + wi uy))]] (tu [ZaJ,vi 11]),pc 27 [ag [vi A,vi B,vi C,vi D,vi E,vi F,vi G,vi I,vi J,vi K,vi N,vi O,vi R,vi T,vi U,vi (V + (ex + ux - ex)),vi (Y + (ey + uy - ey)),vi Z,AV.vec false 2 (List.map Ln.a l)],vi 59000,ag [vi (wi ex),vi (wi ey)],ag [vi (wi (wi ex + wi ux)),vi (wi (wi ey + wi uy))]] (tu [ZaJ,vi 11]),pc 27 [ag [vi A,vi B,vi C,vi D,vi E,vi F,vi G,vi I,vi J,vi K,vi N,vi O,vi R,vi T,vi U,vi (V + (ex + ux - ex)),vi (Y + (ey + uy - ey)),vi Z,AV.vec false 2 (List.map Ln.a l)],vi 59000,ag [vi (wi (wi ex + wi ux)),vi (wi (wi ey + wi uy))],ag [vi (wi ex),vi (wi ey)]] (tu [ZaJ,vi 11])]) (vb false) (by kernel_rfl) (bc rfl (bc rfl (bc rfl (bc rfl (bc rfl (bc rfl (bc (Bool.or_true _) (bc (Bool.or_true _) (bc (Bool.or_true _) (bc (Bool.or_true _) (bc (Bool.or_true _) (bc (Bool.or_true _) (bc (Zaj (fun h => d2 ((Zag Zaa Zaa).1 h))) (bc rfl (bc rfl (bc rfl (bc rfl (bc rfl (bc rfl (bc rfl (bc rfl (bc rfl (bc rfl (bc rfl (bc rfl (bc rfl (bc rfl (bc rfl (bc rfl (bc rfl (bc rfl (bc rfl (bc rfl (bc rfl (bc rfl (bc rfl (bc rfl (bc rfl (bc rfl (bc rfl (bc rfl (bc rfl (bc rfl (bc rfl (bc rfl (bc rfl b0)))))))))))))))))))))))))))))))))))))))))))))) q0 (ce (@ev28 (f) (l) (A) (B) (C) (D) (E) (F) (G) (I) (J) (K) (N) (O) (R) (T) (U) (V) (Y) (Z) k15) (ce (by (try rw [w4]);(try rw [w6]);(try rw [w8]);(try rw [w10]);(try rw [w12]);(try rw [w14]);all_goals exact (@ZaR (false) (l) (A) (B) (C) (D) (E) (F) (G) (I) (J) (K) (N) (O) (R) (T) (U) (V) (Y) (Z) (ex) (ey) (ex + ux) (ey + uy) k17 d16)) (ce (by (try rw [w4]);(try rw [w6]);(try rw [w8]);(try rw [w10]);(try rw [w12]);(try rw [w14]);all_goals exact (@Zbx (false) (l) (A) (B) (C) (D) (E) (F) (G) (I) (J) (K) (N) (O) (R) (T) (U) (V + (ex + ux - ex)) (Y + (ey + uy - ey)) (Z) (ex + ux) (ey + uy) (ex + ux) (ey + uy) k33 d18)) (ce (by (try rw [w4]);(try rw [w6]);(try rw [w8]);(try rw [w10]);(try rw [w12]);(try rw [w14]);all_goals exact (@Zbx (false) (l) (A) (B) (C) (D) (E) (F) (G) (I) (J) (K) (N) (O) (R) (T) (U) (V + (ex + ux - ex)) (Y + (ey + uy - ey)) (Z) (ex) (ey) (ex + ux) (ey + uy) k39 d34)) (ce (by (try rw [w4]);(try rw [w6]);(try rw [w8]);(try rw [w10]);(try rw [w12]);(try rw [w14]);all_goals exact (@Zbx (false) (l) (A) (B) (C) (D) (E) (F) (G) (I) (J) (K) (N) (O) (R) (T) (U) (V + (ex + ux - ex)) (Y + (ey + uy - ey)) (Z) (ex + ux) (ey + uy) (ex) (ey) k42 d40)) c0))))) H
  ·obtain ⟨k43,x1,x2,x3,x4,x5,x6,l1,n1,k44,x7,x8,x9,x10,x11,x12,l2,n2,k45,x13,x14,x15,x16,x17,x18,l3,n3,k46,H⟩:=H
   exact Zae (G:=Zad kp5 [(9,1,.call (ag [vi A,vi B,vi C,vi D,vi E,vi F,vi G,vi I,vi J,vi K,vi N,vi O,vi R,vi T,vi U,vi V,vi Y,vi Z,AV.vec false 2 (List.map Ln.a l)]) none),(9,5,.call (tu [ZaJ,vi 11]) none),(10,4,.call (tu [ag [vi x1.x,vi x1.y,vi x1.z,vi x2.x,vi x2.y,vi x2.z,vi x3.x,vi x3.y,vi x3.z,vi x4.x,vi x4.y,vi x4.z,vi x5.x,vi x5.y,vi x5.z,vi x6.x,vi x6.y,vi x6.z,AV.vec false 2 (List.map Ln.a l1)],vi n1]) none),(11,4,.call (tu [ag [vi x7.x,vi x7.y,vi x7.z,vi x8.x,vi x8.y,vi x8.z,vi x9.x,vi x9.y,vi x9.z,vi x10.x,vi x10.y,vi x10.z,vi x11.x,vi x11.y,vi x11.z,vi x12.x,vi x12.y,vi x12.z,AV.vec false 2 (List.map Ln.a l2)],vi n2]) none),(12,4,.call (tu [ag [vi x13.x,vi x13.y,vi x13.z,vi x14.x,vi x14.y,vi x14.z,vi x15.x,vi x15.y,vi x15.z,vi x16.x,vi x16.y,vi x16.z,vi x17.x,vi x17.y,vi x17.z,vi x18.x,vi x18.y,vi x18.z,AV.vec false 2 (List.map Ln.a l3)],vi n3]) none)] []) 1000 [false,true] (asm:=[true,true,true,true,true,true,!(decide ((if Y > V then Y else V) > 1000000) == false && true) || true,!(decide ((if Y > V then Y else V) > 1000000) == false && true) || true,!(decide ((if Y > V then Y else V) > 1000000) == false && true) || true,!(decide ((if Y > V then Y else V) > 1000000) == false && true) || true,!(decide ((if Y > V then Y else V) > 1000000) == false && true) || true,!(decide ((if Y > V then Y else V) > 1000000) == false && true) || true,(Zc8 Y V) == false,true,true,true,true,true,true,true,true,true,true,true,true,true,true,true,true,true,true,true,true,true,true,true,true,true,true,true,true,true,true,true,true,true == true]) (calls:=[pc 28 [ag [vi A,vi B,vi C,vi D,vi E,vi F,vi G,vi I,vi J,vi K,vi N,vi O,vi R,vi T,vi U,vi V,vi Y,vi Z,AV.vec f 2 (List.map Ln.a l)]] (ag [vi A,vi B,vi C,vi D,vi E,vi F,vi G,vi I,vi J,vi K,vi N,vi O,vi R,vi T,vi U,vi V,vi Y,vi Z,AV.vec false 2 (List.map Ln.a l)]),pc 27 [ag [vi A,vi B,vi C,vi D,vi E,vi F,vi G,vi I,vi J,vi K,vi N,vi O,vi R,vi T,vi U,vi V,vi Y,vi Z,AV.vec false 2 (List.map Ln.a l)],vi 59000,ag [vi (wi ex),vi (wi ey)],ag [vi (wi (wi ex + wi ux)),vi (wi (wi ey + wi uy))]] (tu [ZaJ,vi 11]),pc 27 [ZaJ,vi 59000,ag [vi (wi (wi ex + wi ux)),vi (wi (wi ey + wi uy))],ag [vi (wi (wi ex + wi ux)),vi (wi (wi ey + wi uy))]] (tu [ag [vi x1.x,vi x1.y,vi x1.z,vi x2.x,vi x2.y,vi x2.z,vi x3.x,vi x3.y,vi x3.z,vi x4.x,vi x4.y,vi x4.z,vi x5.x,vi x5.y,vi x5.z,vi x6.x,vi x6.y,vi x6.z,AV.vec false 2 (List.map Ln.a l1)],vi n1]),pc 27 [ZaJ,vi 59000,ag [vi (wi ex),vi (wi ey)],ag [vi (wi (wi ex + wi ux)),vi (wi (wi ey + wi uy))]] (tu [ag [vi x7.x,vi x7.y,vi x7.z,vi x8.x,vi x8.y,vi x8.z,vi x9.x,vi x9.y,vi x9.z,vi x10.x,vi x10.y,vi x10.z,vi x11.x,vi x11.y,vi x11.z,vi x12.x,vi x12.y,vi x12.z,AV.vec false 2 (List.map Ln.a l2)],vi n2]),pc 27 [ZaJ,vi 59000,ag [vi (wi (wi ex + wi ux)),vi (wi (wi ey + wi uy))],ag [vi (wi ex),vi (wi ey)]] (tu [ag [vi x13.x,vi x13.y,vi x13.z,vi x14.x,vi x14.y,vi x14.z,vi x15.x,vi x15.y,vi x15.z,vi x16.x,vi x16.y,vi x16.z,vi x17.x,vi x17.y,vi x17.z,vi x18.x,vi x18.y,vi x18.z,AV.vec false 2 (List.map Ln.a l3)],vi n3])]) (vb false) (by kernel_rfl) (bc rfl (bc rfl (bc rfl (bc rfl (bc rfl (bc rfl (bc (Bool.or_true _) (bc (Bool.or_true _) (bc (Bool.or_true _) (bc (Bool.or_true _) (bc (Bool.or_true _) (bc (Bool.or_true _) (bc (Zaj (fun h => d2 ((Zag Zaa Zaa).1 h))) (bc rfl (bc rfl (bc rfl (bc rfl (bc rfl (bc rfl (bc rfl (bc rfl (bc rfl (bc rfl (bc rfl (bc rfl (bc rfl (bc rfl (bc rfl (bc rfl (bc rfl (bc rfl (bc rfl (bc rfl (bc rfl (bc rfl (bc rfl (bc rfl (bc rfl (bc rfl (bc rfl (bc rfl (bc rfl (bc rfl (bc rfl (bc rfl (bc rfl b0)))))))))))))))))))))))))))))))))))))))))))))) q0 (ce (@ev28 (f) (l) (A) (B) (C) (D) (E) (F) (G) (I) (J) (K) (N) (O) (R) (T) (U) (V) (Y) (Z) k15) (ce (by (try rw [w4]);(try rw [w6]);(try rw [w8]);(try rw [w10]);(try rw [w12]);(try rw [w14]);all_goals exact (@Zbx (false) (l) (A) (B) (C) (D) (E) (F) (G) (I) (J) (K) (N) (O) (R) (T) (U) (V) (Y) (Z) (ex) (ey) (ex + ux) (ey + uy) k43 d16)) (ce (by (try rw [w4]);(try rw [w6]);(try rw [w8]);(try rw [w10]);(try rw [w12]);(try rw [w14]);all_goals exact k44) (ce (by (try rw [w4]);(try rw [w6]);(try rw [w8]);(try rw [w10]);(try rw [w12]);(try rw [w14]);all_goals exact k45) (ce (by (try rw [w4]);(try rw [w6]);(try rw [w8]);(try rw [w10]);(try rw [w12]);(try rw [w14]);all_goals exact k46) c0))))) H
end Go.Av

namespace Go.Av
open Go.Proofs
theorem mm_bd {a b:Int} (h:¬(((if b > a then b else a) > 1000000) \/ ((if b < a then b else a) < -1000000))):(-1000000 <= a /\ a <= 1000000) /\ -1000000 <= b /\ b <= 1000000:=by
 split at h <;> split at h <;> omega
theorem tv_of {A B C D E F G I J K N O R T U V Y Z:Int} {l:List Ln} (h:Sp.six A B C D E F G I J K N O R T U V Y Z) (k:Sp.tvF l 0 = 0):Sp.tv A B C D E F G I J K N O R T U V Y Z l = 0:=by
 unfold Sp.tv;rw [if_pos h];exact k
def Sp.s16 (x:Int):Prop:=-32768<=x/\x<=32767
theorem twice_0 (f:Bool) (l:List Ln) (A B C D E F G I J K N O R T U V Y Z:Int) (ex ey ux uy s r:Int) (g:Bool) (X:List AV) (hl:Sp.few l.length 1000000) (hv:Sp.tv A B C D E F G I J K N O R T U V Y Z l = 0) (h1:Sp.s16 ex) (h2:Sp.s16 ey) (h3:Sp.s16 ux) (h4:Sp.s16 uy):ZeT f l A B C D E F G I J K N O R T U V Y Z ex ey ux uy s r g X (Zak (.bool true)):=by
 unfold Sp.s16 at h1 h2 h3 h4
 have b6:=Zbs hv
 have hf:Sp.tvF l 0 = 0:=by unfold Sp.tv at hv;rw [if_pos b6] at hv;exact hv
 refine lwTwC0 f l A B C D E F G I J K N O R T U V Y Z ex ey ux uy s r g X _ ⟨fun _ => rfl,fun h => ?_⟩
 have b:=mm_bd h
 have b7:Sp.six (A + (ex + ux - ex)) (B + (ey + uy - ey)) C D E F G I J K N O R T U V Y Z:=by unfold Sp.six Sp.pP Sp.pM at b6 ⊢;omega
 have t7:=tv_of b7 hf
 have z:Sp.pM C:=by unfold Sp.six Sp.pP at b6;unfold Sp.pM at b6 ⊢;omega
 unfold Sp.pM at z
 have m1:Sp.pM ex /\ Sp.pM ey:=by unfold Sp.pM;omega
 have m2:Sp.pM (ex + ux) /\ Sp.pM (ey + uy):=by unfold Sp.pM;omega
 have w {x y:Int} (hx:-10000000 <= x /\ x <= 10000000) (hy:-10000000 <= y /\ y <= 10000000):Sp.pP x y C:=by unfold Sp.pP Sp.pM;omega
 refine ⟨by omega,by omega,by omega,by omega,by omega,by omega,hl,fun _ => ⟨⟨⟨hv,hl⟩,m1,m2⟩,fun _ => ⟨⟨⟨t7,hl⟩,m2,m2⟩,fun _ => ⟨⟨⟨t7,hl⟩,m1,m2⟩,fun _ => ⟨⟨⟨t7,hl⟩,m2,m1⟩,fun _ => ?_,fun _ => ?_,congrArg AV.bool ?_⟩,fun k => absurd (w (by omega) (by omega)) k⟩,fun k => absurd (w (by omega) (by omega)) k⟩,fun k => absurd (w (by omega) (by omega)) k⟩,fun k => absurd (w (by omega) (by omega)) k⟩
 ·unfold Sp.ZaI;omega
 ·unfold Sp.ZaI;omega
 ·have e1 (t:Int):t + (ex + ux - ex) = t + ux:=by omega
  have e2 (t:Int):t + (ey + uy - ey) = t + uy:=by omega
  have e3 (t:Int):t + (ex + ux - (ex + ux)) = t:=by omega
  have e4 (t:Int):t + (ey + uy - (ey + uy)) = t:=by omega
  have e5 (t:Int):t + ux + (ex - (ex + ux)) = t:=by omega
  have e6 (t:Int):t + uy + (ey - (ey + uy)) = t:=by omega
  simp only [e1,e2,e3,e4,e5,e6,Int.add_zero,beq_self_eq_true,Bool.and_self,cond_true]
theorem twice_1 (f:Bool) (l:List Ln) (A B C D E F G I J K N O R T U V Y Z:Int) (ex ey ux uy s r:Int) (g:Bool) (X:List AV) (hl:Sp.few l.length 1000000) (hv:Sp.tv A B C D E F G I J K N O R T U V Y Z l = 0) (h1:Sp.s16 ex) (h2:Sp.s16 ey) (h3:Sp.s16 ux) (h4:Sp.s16 uy):ZeS f l A B C D E F G I J K N O R T U V Y Z ex ey ux uy s r g X (Zak (.bool true)):=by
 unfold Sp.s16 at h1 h2 h3 h4
 have b6:=Zbs hv
 have hf:Sp.tvF l 0 = 0:=by unfold Sp.tv at hv;rw [if_pos b6] at hv;exact hv
 refine lwTwC1 f l A B C D E F G I J K N O R T U V Y Z ex ey ux uy s r g X _ ⟨fun _ => rfl,fun h => ?_⟩
 have b:=mm_bd h
 have b7:Sp.six A B C (D + (ex + ux - ex)) (E + (ey + uy - ey)) F G I J K N O R T U V Y Z:=by unfold Sp.six Sp.pP Sp.pM at b6 ⊢;omega
 have t7:=tv_of b7 hf
 have z:Sp.pM F:=by unfold Sp.six Sp.pP at b6;unfold Sp.pM at b6 ⊢;omega
 unfold Sp.pM at z
 have m1:Sp.pM ex /\ Sp.pM ey:=by unfold Sp.pM;omega
 have m2:Sp.pM (ex + ux) /\ Sp.pM (ey + uy):=by unfold Sp.pM;omega
 have w {x y:Int} (hx:-10000000 <= x /\ x <= 10000000) (hy:-10000000 <= y /\ y <= 10000000):Sp.pP x y F:=by unfold Sp.pP Sp.pM;omega
 refine ⟨by omega,by omega,by omega,by omega,by omega,by omega,hl,fun _ => ⟨⟨⟨hv,hl⟩,m1,m2⟩,fun _ => ⟨⟨⟨t7,hl⟩,m2,m2⟩,fun _ => ⟨⟨⟨t7,hl⟩,m1,m2⟩,fun _ => ⟨⟨⟨t7,hl⟩,m2,m1⟩,fun _ => ?_,fun _ => ?_,congrArg AV.bool ?_⟩,fun k => absurd (w (by omega) (by omega)) k⟩,fun k => absurd (w (by omega) (by omega)) k⟩,fun k => absurd (w (by omega) (by omega)) k⟩,fun k => absurd (w (by omega) (by omega)) k⟩
 ·unfold Sp.ZaI;omega
 ·unfold Sp.ZaI;omega
 ·have e1 (t:Int):t + (ex + ux - ex) = t + ux:=by omega
  have e2 (t:Int):t + (ey + uy - ey) = t + uy:=by omega
  have e3 (t:Int):t + (ex + ux - (ex + ux)) = t:=by omega
  have e4 (t:Int):t + (ey + uy - (ey + uy)) = t:=by omega
  have e5 (t:Int):t + ux + (ex - (ex + ux)) = t:=by omega
  have e6 (t:Int):t + uy + (ey - (ey + uy)) = t:=by omega
  simp only [e1,e2,e3,e4,e5,e6,Int.add_zero,beq_self_eq_true,Bool.and_self,cond_true]
theorem twice_2 (f:Bool) (l:List Ln) (A B C D E F G I J K N O R T U V Y Z:Int) (ex ey ux uy s r:Int) (g:Bool) (X:List AV) (hl:Sp.few l.length 1000000) (hv:Sp.tv A B C D E F G I J K N O R T U V Y Z l = 0) (h1:Sp.s16 ex) (h2:Sp.s16 ey) (h3:Sp.s16 ux) (h4:Sp.s16 uy):ZeR f l A B C D E F G I J K N O R T U V Y Z ex ey ux uy s r g X (Zak (.bool true)):=by
 unfold Sp.s16 at h1 h2 h3 h4
 have b6:=Zbs hv
 have hf:Sp.tvF l 0 = 0:=by unfold Sp.tv at hv;rw [if_pos b6] at hv;exact hv
 refine lwTwC2 f l A B C D E F G I J K N O R T U V Y Z ex ey ux uy s r g X _ ⟨fun _ => rfl,fun h => ?_⟩
 have b:=mm_bd h
 have b7:Sp.six A B C D E F (G + (ex + ux - ex)) (I + (ey + uy - ey)) J K N O R T U V Y Z:=by unfold Sp.six Sp.pP Sp.pM at b6 ⊢;omega
 have t7:=tv_of b7 hf
 have z:Sp.pM J:=by unfold Sp.six Sp.pP at b6;unfold Sp.pM at b6 ⊢;omega
 unfold Sp.pM at z
 have m1:Sp.pM ex /\ Sp.pM ey:=by unfold Sp.pM;omega
 have m2:Sp.pM (ex + ux) /\ Sp.pM (ey + uy):=by unfold Sp.pM;omega
 have w {x y:Int} (hx:-10000000 <= x /\ x <= 10000000) (hy:-10000000 <= y /\ y <= 10000000):Sp.pP x y J:=by unfold Sp.pP Sp.pM;omega
 refine ⟨by omega,by omega,by omega,by omega,by omega,by omega,hl,fun _ => ⟨⟨⟨hv,hl⟩,m1,m2⟩,fun _ => ⟨⟨⟨t7,hl⟩,m2,m2⟩,fun _ => ⟨⟨⟨t7,hl⟩,m1,m2⟩,fun _ => ⟨⟨⟨t7,hl⟩,m2,m1⟩,fun _ => ?_,fun _ => ?_,congrArg AV.bool ?_⟩,fun k => absurd (w (by omega) (by omega)) k⟩,fun k => absurd (w (by omega) (by omega)) k⟩,fun k => absurd (w (by omega) (by omega)) k⟩,fun k => absurd (w (by omega) (by omega)) k⟩
 ·unfold Sp.ZaI;omega
 ·unfold Sp.ZaI;omega
 ·have e1 (t:Int):t + (ex + ux - ex) = t + ux:=by omega
  have e2 (t:Int):t + (ey + uy - ey) = t + uy:=by omega
  have e3 (t:Int):t + (ex + ux - (ex + ux)) = t:=by omega
  have e4 (t:Int):t + (ey + uy - (ey + uy)) = t:=by omega
  have e5 (t:Int):t + ux + (ex - (ex + ux)) = t:=by omega
  have e6 (t:Int):t + uy + (ey - (ey + uy)) = t:=by omega
  simp only [e1,e2,e3,e4,e5,e6,Int.add_zero,beq_self_eq_true,Bool.and_self,cond_true]
theorem twice_3 (f:Bool) (l:List Ln) (A B C D E F G I J K N O R T U V Y Z:Int) (ex ey ux uy s r:Int) (g:Bool) (X:List AV) (hl:Sp.few l.length 1000000) (hv:Sp.tv A B C D E F G I J K N O R T U V Y Z l = 0) (h1:Sp.s16 ex) (h2:Sp.s16 ey) (h3:Sp.s16 ux) (h4:Sp.s16 uy):ZeQ f l A B C D E F G I J K N O R T U V Y Z ex ey ux uy s r g X (Zak (.bool true)):=by
 unfold Sp.s16 at h1 h2 h3 h4
 have b6:=Zbs hv
 have hf:Sp.tvF l 0 = 0:=by unfold Sp.tv at hv;rw [if_pos b6] at hv;exact hv
 refine lwTwC3 f l A B C D E F G I J K N O R T U V Y Z ex ey ux uy s r g X _ ⟨fun _ => rfl,fun h => ?_⟩
 have b:=mm_bd h
 have b7:Sp.six A B C D E F G I J (K + (ex + ux - ex)) (N + (ey + uy - ey)) O R T U V Y Z:=by unfold Sp.six Sp.pP Sp.pM at b6 ⊢;omega
 have t7:=tv_of b7 hf
 have z:Sp.pM O:=by unfold Sp.six Sp.pP at b6;unfold Sp.pM at b6 ⊢;omega
 unfold Sp.pM at z
 have m1:Sp.pM ex /\ Sp.pM ey:=by unfold Sp.pM;omega
 have m2:Sp.pM (ex + ux) /\ Sp.pM (ey + uy):=by unfold Sp.pM;omega
 have w {x y:Int} (hx:-10000000 <= x /\ x <= 10000000) (hy:-10000000 <= y /\ y <= 10000000):Sp.pP x y O:=by unfold Sp.pP Sp.pM;omega
 refine ⟨by omega,by omega,by omega,by omega,by omega,by omega,hl,fun _ => ⟨⟨⟨hv,hl⟩,m1,m2⟩,fun _ => ⟨⟨⟨t7,hl⟩,m2,m2⟩,fun _ => ⟨⟨⟨t7,hl⟩,m1,m2⟩,fun _ => ⟨⟨⟨t7,hl⟩,m2,m1⟩,fun _ => ?_,fun _ => ?_,congrArg AV.bool ?_⟩,fun k => absurd (w (by omega) (by omega)) k⟩,fun k => absurd (w (by omega) (by omega)) k⟩,fun k => absurd (w (by omega) (by omega)) k⟩,fun k => absurd (w (by omega) (by omega)) k⟩
 ·unfold Sp.ZaI;omega
 ·unfold Sp.ZaI;omega
 ·have e1 (t:Int):t + (ex + ux - ex) = t + ux:=by omega
  have e2 (t:Int):t + (ey + uy - ey) = t + uy:=by omega
  have e3 (t:Int):t + (ex + ux - (ex + ux)) = t:=by omega
  have e4 (t:Int):t + (ey + uy - (ey + uy)) = t:=by omega
  have e5 (t:Int):t + ux + (ex - (ex + ux)) = t:=by omega
  have e6 (t:Int):t + uy + (ey - (ey + uy)) = t:=by omega
  simp only [e1,e2,e3,e4,e5,e6,Int.add_zero,beq_self_eq_true,Bool.and_self,cond_true]
theorem twice_4 (f:Bool) (l:List Ln) (A B C D E F G I J K N O R T U V Y Z:Int) (ex ey ux uy s r:Int) (g:Bool) (X:List AV) (hl:Sp.few l.length 1000000) (hv:Sp.tv A B C D E F G I J K N O R T U V Y Z l = 0) (h1:Sp.s16 ex) (h2:Sp.s16 ey) (h3:Sp.s16 ux) (h4:Sp.s16 uy):ZeP f l A B C D E F G I J K N O R T U V Y Z ex ey ux uy s r g X (Zak (.bool true)):=by
 unfold Sp.s16 at h1 h2 h3 h4
 have b6:=Zbs hv
 have hf:Sp.tvF l 0 = 0:=by unfold Sp.tv at hv;rw [if_pos b6] at hv;exact hv
 refine lwTwC4 f l A B C D E F G I J K N O R T U V Y Z ex ey ux uy s r g X _ ⟨fun _ => rfl,fun h => ?_⟩
 have b:=mm_bd h
 have b7:Sp.six A B C D E F G I J K N O (R + (ex + ux - ex)) (T + (ey + uy - ey)) U V Y Z:=by unfold Sp.six Sp.pP Sp.pM at b6 ⊢;omega
 have t7:=tv_of b7 hf
 have z:Sp.pM U:=by unfold Sp.six Sp.pP at b6;unfold Sp.pM at b6 ⊢;omega
 unfold Sp.pM at z
 have m1:Sp.pM ex /\ Sp.pM ey:=by unfold Sp.pM;omega
 have m2:Sp.pM (ex + ux) /\ Sp.pM (ey + uy):=by unfold Sp.pM;omega
 have w {x y:Int} (hx:-10000000 <= x /\ x <= 10000000) (hy:-10000000 <= y /\ y <= 10000000):Sp.pP x y U:=by unfold Sp.pP Sp.pM;omega
 refine ⟨by omega,by omega,by omega,by omega,by omega,by omega,hl,fun _ => ⟨⟨⟨hv,hl⟩,m1,m2⟩,fun _ => ⟨⟨⟨t7,hl⟩,m2,m2⟩,fun _ => ⟨⟨⟨t7,hl⟩,m1,m2⟩,fun _ => ⟨⟨⟨t7,hl⟩,m2,m1⟩,fun _ => ?_,fun _ => ?_,congrArg AV.bool ?_⟩,fun k => absurd (w (by omega) (by omega)) k⟩,fun k => absurd (w (by omega) (by omega)) k⟩,fun k => absurd (w (by omega) (by omega)) k⟩,fun k => absurd (w (by omega) (by omega)) k⟩
 ·unfold Sp.ZaI;omega
 ·unfold Sp.ZaI;omega
 ·have e1 (t:Int):t + (ex + ux - ex) = t + ux:=by omega
  have e2 (t:Int):t + (ey + uy - ey) = t + uy:=by omega
  have e3 (t:Int):t + (ex + ux - (ex + ux)) = t:=by omega
  have e4 (t:Int):t + (ey + uy - (ey + uy)) = t:=by omega
  have e5 (t:Int):t + ux + (ex - (ex + ux)) = t:=by omega
  have e6 (t:Int):t + uy + (ey - (ey + uy)) = t:=by omega
  simp only [e1,e2,e3,e4,e5,e6,Int.add_zero,beq_self_eq_true,Bool.and_self,cond_true]
theorem twice_5 (f:Bool) (l:List Ln) (A B C D E F G I J K N O R T U V Y Z:Int) (ex ey ux uy s r:Int) (g:Bool) (X:List AV) (hl:Sp.few l.length 1000000) (hv:Sp.tv A B C D E F G I J K N O R T U V Y Z l = 0) (h1:Sp.s16 ex) (h2:Sp.s16 ey) (h3:Sp.s16 ux) (h4:Sp.s16 uy):ZeO f l A B C D E F G I J K N O R T U V Y Z ex ey ux uy s r g X (Zak (.bool true)):=by
 unfold Sp.s16 at h1 h2 h3 h4
 have b6:=Zbs hv
 have hf:Sp.tvF l 0 = 0:=by unfold Sp.tv at hv;rw [if_pos b6] at hv;exact hv
 refine lwTwC5 f l A B C D E F G I J K N O R T U V Y Z ex ey ux uy s r g X _ ⟨fun _ => rfl,fun h => ?_⟩
 have b:=mm_bd h
 have b7:Sp.six A B C D E F G I J K N O R T U (V + (ex + ux - ex)) (Y + (ey + uy - ey)) Z:=by unfold Sp.six Sp.pP Sp.pM at b6 ⊢;omega
 have t7:=tv_of b7 hf
 have z:Sp.pM Z:=by unfold Sp.six Sp.pP at b6;unfold Sp.pM at b6 ⊢;omega
 unfold Sp.pM at z
 have m1:Sp.pM ex /\ Sp.pM ey:=by unfold Sp.pM;omega
 have m2:Sp.pM (ex + ux) /\ Sp.pM (ey + uy):=by unfold Sp.pM;omega
 have w {x y:Int} (hx:-10000000 <= x /\ x <= 10000000) (hy:-10000000 <= y /\ y <= 10000000):Sp.pP x y Z:=by unfold Sp.pP Sp.pM;omega
 refine ⟨by omega,by omega,by omega,by omega,by omega,by omega,hl,fun _ => ⟨⟨⟨hv,hl⟩,m1,m2⟩,fun _ => ⟨⟨⟨t7,hl⟩,m2,m2⟩,fun _ => ⟨⟨⟨t7,hl⟩,m1,m2⟩,fun _ => ⟨⟨⟨t7,hl⟩,m2,m1⟩,fun _ => ?_,fun _ => ?_,congrArg AV.bool ?_⟩,fun k => absurd (w (by omega) (by omega)) k⟩,fun k => absurd (w (by omega) (by omega)) k⟩,fun k => absurd (w (by omega) (by omega)) k⟩,fun k => absurd (w (by omega) (by omega)) k⟩
 ·unfold Sp.ZaI;omega
 ·unfold Sp.ZaI;omega
 ·have e1 (t:Int):t + (ex + ux - ex) = t + ux:=by omega
  have e2 (t:Int):t + (ey + uy - ey) = t + uy:=by omega
  have e3 (t:Int):t + (ex + ux - (ex + ux)) = t:=by omega
  have e4 (t:Int):t + (ey + uy - (ey + uy)) = t:=by omega
  have e5 (t:Int):t + ux + (ex - (ex + ux)) = t:=by omega
  have e6 (t:Int):t + uy + (ey - (ey + uy)) = t:=by omega
  simp only [e1,e2,e3,e4,e5,e6,Int.add_zero,beq_self_eq_true,Bool.and_self,cond_true]
theorem twice_law (ha:Ev M1 (.pure 8 []) (.bool true) []) (f:Bool) (l:List Ln) (A B C D E F G I J K N O R T U V Y Z:Int) (n ex ey ux uy s r:Int) (g:Bool) (X:List AV) (hn:0 <= n /\ n <= 255) (h1:Sp.s16 ex) (h2:Sp.s16 ey) (h3:Sp.s16 ux) (h4:Sp.s16 uy) :
  Ev M1 (.pure 5 [.agg [.int .i64 A,.int .i64 B,.int .i64 C,.int .i64 D,.int .i64 E,.int .i64 F,.int .i64 G,.int .i64 I,.int .i64 J,.int .i64 K,.int .i64 N,.int .i64 O,.int .i64 R,.int .i64 T,.int .i64 U,.int .i64 V,.int .i64 Y,.int .i64 Z,.vec f 2 (l.map Ln.a)],.int .u8 n,.agg [.int .i16 ex,.int .i16 ey,.int .i16 ux,.int .i16 uy,.int .i16 s,.int .u8 r,.vec g 3 X]]) (.bool true) []:=by
 refine call5 (lwTw f l A B C D E F G I J K N O R T U V Y Z n ex ey ux uy s r g X _ ⟨true,ha,fun h => show l.length <= 1000000 by omega,fun _ => ⟨true,ha,rfl⟩,fun h => ?_⟩)
 have hl:Sp.few l.length 1000000:=show l.length <= 1000000 from by omega
 have hv:Sp.tv A B C D E F G I J K N O R T U V Y Z l = 0:=Classical.byContradiction fun k => h (.inr k)
 have e:n.tmod 6 = 0 \/ n.tmod 6 = 1 \/ n.tmod 6 = 2 \/ n.tmod 6 = 3 \/ n.tmod 6 = 4 \/ n.tmod 6 = 5:=by rw [Int.tmod_eq_emod_of_nonneg hn.1];omega
 rcases e with e | e | e | e | e | e <;> rw [e]
 ·exact twice_0 f l A B C D E F G I J K N O R T U V Y Z ex ey ux uy s r g X hl hv h1 h2 h3 h4
 ·exact twice_1 f l A B C D E F G I J K N O R T U V Y Z ex ey ux uy s r g X hl hv h1 h2 h3 h4
 ·exact twice_2 f l A B C D E F G I J K N O R T U V Y Z ex ey ux uy s r g X hl hv h1 h2 h3 h4
 ·exact twice_3 f l A B C D E F G I J K N O R T U V Y Z ex ey ux uy s r g X hl hv h1 h2 h3 h4
 ·exact twice_4 f l A B C D E F G I J K N O R T U V Y Z ex ey ux uy s r g X hl hv h1 h2 h3 h4
 ·exact twice_5 f l A B C D E F G I J K N O R T U V Y Z ex ey ux uy s r g X hl hv h1 h2 h3 h4
end Go.Av

namespace Go.Av
open Go.RowKit
def Zfg (M:Mach) (it:FuncId) (A:AV) (xs:List (AV × AV)):Prop:=
 ∀ (l:Nat) (J:Nat -> St -> Prop),(∀ j T,J j T -> HeapOk T) -> (∀ j T T',J j T -> HeapOk T' -> Ext T T' -> T'.L = T.L -> J j T') ->
  (∀ j T v1 v2 (hj:j < xs.length),J j T -> Rel T (xs[j]).1 v1 -> Rel T (xs[j]).2 v2 -> ∃ fid tmps asg bd,(Instr.yield l #[v1,v2]).run (M.P ()) T.w = .ok (.round l fid tmps asg bd) T.w /\
   ∀ c cs,∃ T',J (j + 1) T' /\ (∀ a v,Rel T a v -> Rel T' a v) /\ Steps (M.P ()) (lone (Frame.round l fid tmps asg bd .normal) (c :: cs) T.w) (lone (c.finish (.bool true)) cs T'.w)) ->
  ∀ T cA,J 0 T -> Rel T A cA -> ∀ cs,∃ cv fr T',J xs.length T' /\ (∀ a v,Rel T a v -> Rel T' a v) /\
   Steps (M.P ()) (lone (Frame.enter (M.P ()) it #[.func (.yield l) #[] #[],cA] .normal) cs T.w) (lone fr cs T'.w) /\ fr.leaving (M.P ()) T'.w (.returned cv)
theorem Zb3 {T T':St} (hT:HeapOk T) (he:Ext T T') {l:Nat} {o:Obj} (ho:T.w.heap[l]? = some o) (hk:Zbq o = true) (hl:T.base <= l):T'.w.heap[l]? = some o:=
 (he.other l hl (Array.getElem?_eq_some_iff.1 ho).1 (other_blk hT ho hk)).trans ho
theorem vrel_mono {S S':St} (he:Ext S S') {env:Vars} {tm:Array Value} (h:VRel S env tm):VRel S' env tm:=fun t=>(h t).mono he
theorem vrel_set {S:St} {env:Vars} {tm:Array Value} (h:VRel S env tm) {p:Nat} (hp:p < tm.size) {x:AV} {v:Value} (hx:Rel S x v):VRel S ((p,x) :: env) (tm.setIfInBounds p v):=by
 intro t
 simp only [Vars.get]
 by_cases e:p = t
 ·subst e
  have:(p == p) = true:=by simp
  rw [this]
  simpa [hp] using hx
 ·have:(p == t) = false:=by simpa using e
  rw [this]
  simpa [e] using h t
theorem fold_two {p0 p1:Tmp} {v1 v2:Value} (f:Array Value -> Tmp × Value -> Array Value) (a:Array Value):(#[p0,p1].zip #[v1,v2]).foldl f a = f (f a (p0,v1)) (p1,v2):=by
 have:(#[p0,p1].zip #[v1,v2]) = #[(p0,v1),(p1,v2)]:=by
  show [p0,p1].toArray.zip [v1,v2].toArray = _
  rw [List.zip_toArray];rfl
 rw [this];rfl
theorem range_sound {M:Mach} {fi:Fi} {g:Operand} {p0 p1:Tmp} {ida:Nat} {opsA:Array Oper} {body:Code} {k:List Item} {env:Vars} {L:Heap} {Q:AV -> Heap -> Prop} {it:FuncId} {A:AV} {xs:List (AV × AV)} {keepA:List Nat}
  (hg:evV env g = .func (.func it) [] [A]) (hit:∀ args w,(callFunc it args).run (M.P ()) w = .ok (.enter it args) w) (hI:Zfg M it A xs) (hna:ZcL opsA = true) (hnb:Zb0 body = true) (hp0:p0 < fi.n) (hp1:p1 < fi.n)
  (Ls:Nat -> Heap) (h0:Ls 0 = L) (eA:Nat -> Env)
  (hasg:∀ j (hj:j < xs.length),Zao M.P M.inl (fun _ _ _ => none) fi.n opsA (fun _ => none) (fun _ => 2) (List.range opsA.size) ⟨lift ((p1,(xs[j]).2) :: (p0,(xs[j]).1) :: env),Ls j,[],[],[]⟩ = some ⟨eA j,Ls j,[],[],[]⟩)
  (hbody:∀ j,j < xs.length -> ZaH M fi [.code body] (Zbg keepA (eA j)) (Ls j) (fun _ L' => L' = Ls (j + 1)))
  (hk:ZaH M fi k env (Ls xs.length) Q):ZaH M fi (.code (.rangeFunc g #[p0,p1] (.region ida opsA false) body) :: k) env L Q:=by
 intro S b a cs fn h1 h2 h3 h4 h5 h6 h7 h8
 have hb:b.roundOf = none:=by
  rcases h4 with h | h
  ·exact h
  ·simp [Zcd,Zdr,Zb0] at h
 obtain ⟨R,hR⟩:∃ R:Loop,R = { state:=.ready,pending:=none,fn:=b.fn,tmps:=a.tmps,params:=#[p0,p1],assign:=.region ida opsA false,body,defers:=S.w.heap.size }:=⟨_,rfl⟩
 obtain ⟨B,hB⟩:∃ B:Loop,B = { R with state:=.busy }:=⟨_,rfl⟩
 obtain ⟨X,hX⟩:∃ X:Loop,X = { R with state:=.exhausted }:=⟨_,rfl⟩
 obtain ⟨W1,hW1⟩:∃ W1,(S.w.alloc (.deferred (some []))).alloc (.loop R) = W1:=⟨_,rfl⟩
 have hl1:W1.heap[S.w.heap.size + 1]? = some (.loop R):=by
  rw [<- hW1];have:=World.alloc_heap_new (S.w.alloc (.deferred (some []))) (.loop R);rwa [World.size_alloc] at this
 have hd1:W1.heap[S.w.heap.size]? = some (.deferred (some [])):=by
  rw [<- hW1];exact (Below.heap_alloc _ _ _ (by simp)).trans (World.alloc_heap_new S.w _)
 have hbelow:Below S.base S.w W1:=by
  rw [<- hW1];exact (((Below.refl _ S.w).alloc h5.base _).alloc (by simp;have:=h5.base;omega) _)
 have hsame:∀ q,q < S.w.heap.size -> W1.heap[q]? = S.w.heap[q]?:=fun q hq => by
  rw [<- hW1];exact (Below.heap_alloc _ _ q (by simp;omega)).trans (Below.heap_alloc _ _ q hq)
 obtain ⟨o1,e1⟩:=Zb1 h5 hbelow hsame
 obtain ⟨cg,hcg⟩:∃ cg,a.eval g = cg:=⟨_,rfl⟩
 have hrg:=vget_rel (a:=a) h7 g
 rw [hg,hcg] at hrg
 obtain ⟨va,vb,rfl,l1,l2,r1,r2⟩:=Zcs hrg
 have hva:va = []:=List.length_eq_zero_iff.1 l1.symm
 subst hva
 obtain ⟨cA,rfl⟩:=List.length_eq_one_iff.1 l2.symm
 have hcA:Rel S A cA:=r2 0 A cA rfl rfl
 let J:Nat -> St -> Prop:=fun j T => HeapOk T /\ Ext S T /\ T.L = Ls j /\ T.w.heap[S.w.heap.size + 1]? = some (.loop R) /\ T.w.heap[S.w.heap.size]? = some (.deferred (some []))
 have hbase:∀ {T:St},Ext S T -> T.base <= S.w.heap.size:=fun he => by rw [he.base];exact h5.base
 have hJ:∀ j T T',J j T -> HeapOk T' -> Ext T T' -> T'.L = T.L -> J j T':=fun j T T' ⟨q1,q2,q3,q4,q5⟩ hT' he hL =>
  ⟨hT',q2.trans he,hL.trans q3,Zb3 q1 he q4 rfl (by have:=hbase q2;omega),Zb3 q1 he q5 rfl (hbase q2)⟩
 have hround:∀ j T v1 v2 (hj:j < xs.length),J j T -> Rel T (xs[j]).1 v1 -> Rel T (xs[j]).2 v2 -> ∃ fid tmps asg bd,(Instr.yield (S.w.heap.size + 1) #[v1,v2]).run (M.P ()) T.w = .ok (.round (S.w.heap.size + 1) fid tmps asg bd) T.w /\
   ∀ c cs,∃ T',J (j + 1) T' /\ (∀ a v,Rel T a v -> Rel T' a v) /\ Steps (M.P ()) (lone (Frame.round (S.w.heap.size + 1) fid tmps asg bd .normal) (c :: cs) T.w) (lone (c.finish (.bool true)) cs T'.w):=by
  intro j T v1 v2 hj ⟨q1,q2,q3,q4,q5⟩ hv1 hv2
  obtain ⟨tm,htm⟩:∃ tm:Array Value,tm = (a.tmps.setIfInBounds p0 v1).setIfInBounds p1 v2:=⟨_,rfl⟩
  have hy:(Instr.yield (S.w.heap.size + 1) #[v1,v2]).run (M.P ()) T.w = .ok (.round (S.w.heap.size + 1) b.fn tm (.region ida opsA false) body) T.w:=by
   have:=run_yield (P:=M.P ()) (args:=#[v1,v2]) q4 (by rw [hR];rfl)
   rw [hR] at this
   simp only [fold_two] at this
   rw [this,htm]
  refine ⟨b.fn,tm,.region ida opsA false,body,hy,fun c cs => ?_⟩
  have hV:VRel T ((p1,(xs[j]).2) :: (p0,(xs[j]).1) :: env) tm:=by
   rw [htm]
   exact vrel_set (vrel_set (vrel_mono q2 h7) (Nat.lt_of_lt_of_le hp0 h8) hv1) (by rw [Array.size_setIfInBounds];exact Nat.lt_of_lt_of_le hp1 h8) hv2
  let bR:Frame:={ (default:Frame) with fn:=b.fn,kind:=.normal,roundOf:=some (S.w.heap.size + 1) }
  have hfr:Frame.round (S.w.heap.size + 1) b.fn tm (.region ida opsA false) body .normal = bR.atR { tmps:=tm,defers:=[] } [.code (.region ida opsA false),.beginRound,.code body]:=by
   simp [Frame.round,Frame.atR,bR]
  have hsz:fi.n <= tm.size:=by rw [htm,Array.size_setIfInBounds,Array.size_setIfInBounds];exact h8
  rw [hfr]
  have hA:RegR (M.P ()) ida opsA false (fun a' w' => ∃ T2:St,T2.w = w' /\ HeapOk T2 /\ Ext T T2 /\ T2.L = Ls j /\ VRel T2 (Zbg keepA (eA j)) a'.tmps /\ a'.tmps.size = tm.size /\ a'.defers = []) { tmps:=tm,defers:=[] } T.w:=
   ZeH (Zcc _ (hasg j hj) (by simp) (by simp) (by simp) q1 q3 (Zc0 hV) hsz fun S' a' k1 k2 k3 k4 k5 k6 => ⟨S',rfl,k1,k2,k3,Zbw k4 keepA,k5,k6⟩)
  obtain ⟨a2,_,⟨T2,rfl,u1,u2,u3,u4,u5,u6⟩,st1⟩:=hA bR [.beginRound,.code body] (c :: cs) (.inr hna)
  have hl2:=Zb3 q1 u2 q4 rfl (by have:=hbase q2;omega)
  have hd2:=Zb3 q1 u2 q5 rfl (hbase q2)
  have hbr:=run_beginRound (P:=M.P ()) hl2 (by rw [hR])
  rw [<- hB] at hbr
  obtain ⟨v1',v2'⟩:=Zdy (o':=.loop B) u1 hl2 rfl rfl
  have x3:Ext S ⟨T2.base,T2.acc,T2.L,T2.β,T2.w.putObj (S.w.heap.size + 1) (.loop B)⟩:=
   put_ext hl2 rfl rfl h5.base (by omega) (q2.trans u2)
  have hl3:(T2.w.putObj (S.w.heap.size + 1) (.loop B)).heap[S.w.heap.size + 1]? = some (.loop B):=World.putObj_heap_same (Array.getElem?_eq_some_iff.1 hl2).1
  have hd3:(T2.w.putObj (S.w.heap.size + 1) (.loop B)).heap[S.w.heap.size]? = some (.deferred (some [])):=(World.putObj_heap_other (by omega)).trans hd2
  obtain ⟨a4,todo4,Ds4,w4,β4,v4,L4,hq4,g1,g2,s4,d4,m4,r4,o4,x4⟩:=hbody j hj ⟨T2.base,T2.acc,T2.L,T2.β,T2.w.putObj (S.w.heap.size + 1) (.loop B)⟩ bR a2 (c :: cs) fn h1 h2 rfl
   (.inr (by simp [Zcd,Zdr,hnb])) v1' u3 (fun t => v2' _ _ (u4 t)) (by rw [u5];exact hsz)
  obtain ⟨rfl,rfl⟩:todo4 = [] /\ Ds4 = []:=by
   rcases g2 with g | g
   ·simp [bR] at g
   ·exact g
  subst hq4
  have hb3:T2.base <= S.w.heap.size:=hbase (q2.trans u2)
  have hl4:=Zb3 v1' x4 hl3 rfl (by show T2.base <= _;omega)
  have hd4:=Zb3 v1' x4 hd3 rfl hb3
  have her:=run_endRound (P:=M.P ()) none hl4
  have hrr:({ B with state:=if (none:Option Code).isNone then .ready else .done,pending:=none }:Loop) = R:=by rw [hB,hR];rfl
  rw [hrr] at her
  obtain ⟨y1,y2⟩:=Zdy (o':=.loop (R)) o4 hl4 rfl rfl
  have x5:=put_ext (o':=.loop (R)) hl4 rfl rfl h5.base (by omega) (x3.trans x4)
  refine ⟨_,⟨y1,x5,rfl,World.putObj_heap_same (Array.getElem?_eq_some_iff.1 hl4).1,(World.putObj_heap_other (by omega)).trans hd4⟩,fun a v h => y2 _ _ ((v2' _ _ (h.mono u2)).mono x4),?_⟩
  exact Steps.trans st1 (.head (stepR_beginRound rfl hbr) (Steps.trans s4 (.one (stepR_round_end rfl rfl her))))
 have hmono:∀ a v,Rel S a v -> Rel ⟨S.base,S.acc,S.L,S.β,W1⟩ a v:=fun a v h => h.mono e1
 obtain ⟨cv,fr,T,⟨q1,q2,q3,q4,q5⟩,t2,t3,t4⟩:=hI (S.w.heap.size + 1) J (fun j T h => h.1) hJ hround ⟨S.base,S.acc,S.L,S.β,W1⟩ cA ⟨o1,e1,h6.trans h0.symm,hl1,hd1⟩ (hmono _ _ hcA)
  (b.atR { a with defers:=[Zd8 S.w.heap.size] ++ a.defers } (.inRangeFunc (S.w.heap.size + 1) :: k) :: cs)
 have he:=run_enterLoop_outer (P:=M.P ()) (w:=S.w) b.fn a.tmps #[p0,p1] (.region ida opsA false) body
 have hW1':(S.w.alloc (.deferred (some []))).alloc (.loop { state:=.ready,pending:=none,fn:=b.fn,tmps:=a.tmps,params:=#[p0,p1],assign:=.region ida opsA false,body,defers:=S.w.heap.size }) = W1:=by rw [<- hW1,hR]
 rw [hW1',<- hb] at he
 have henter:=stepR_rangeFunc (P:=M.P ()) (b:=b) (a:=a) (k:=k) (cs:=cs) (w:=S.w) (g:=g) (d:={ target:=.fn (.func it) #[cA],args:=#[.func (.yield (S.w.heap.size + 1)) #[] #[]] }) (w₁':=W1) (w₂:=W1) (f:=it) (args:=#[.func (.yield (S.w.heap.size + 1)) #[] #[]] ++ #[cA]) he
  (by simp only [resolve,rangeCall,hcg];simp [go_sem]) (by simp [invoke,go_sem,hit])
 have hend:=run_endLoop (P:=M.P ()) q4 (by rw [hR];simp)
 rw [<- hX,(show R.pending = none by rw [hR])] at hend
 obtain ⟨z1,z2⟩:=Zdy (o':=.loop X) q1 q4 rfl rfl
 have x6:=put_ext (o':=.loop X) q4 rfl rfl h5.base (by omega) q2
 have hd6:(T.w.putObj (S.w.heap.size + 1) (.loop X)).heap[S.w.heap.size]? = some (.deferred (some [])):=(World.putObj_heap_other (by omega)).trans q5
 have hb6:=hbase q2
 obtain ⟨a7,todo7,Ds7,w7,β7,v7,L7,hq7,g1,g2,s7,d7,m7,r7,o7,x7⟩:=hk ⟨T.base,T.acc,T.L,T.β,T.w.putObj (S.w.heap.size + 1) (.loop X)⟩ b { a with defers:=[Zd8 S.w.heap.size] ++ a.defers } cs fn h1 h2 h3 (.inl hb) z1 q3
  (fun t => z2 _ _ ((h7 t).mono q2)) h8
 have hd7:=Zb3 z1 x7 hd6 rfl hb6
 have hsz7:S.w.heap.size < (T.w.putObj (S.w.heap.size + 1) (.loop X)).heap.size:=(Array.getElem?_eq_some_iff.1 hd6).1
 have hb7:T.base = S.base:=q2.base
 have ha7:T.acc = S.acc:=q2.acc
 refine ⟨a7,todo7,Ds7 ++ [S.w.heap.size],w7,β7,v7,L7,hq7,g1,.inl hb,?_,by rw [d7];simp,⟨?_,fun D hD => ?_⟩,?_,?_,?_⟩
 ·refine .head henter (Steps.trans t3 (.head ?_ (.head (stepR_endRangeFunc hend) s7)))
  rw [<- finish_atR_inRangeFunc (S.w.heap.size + 1) cv]
  exact step_leave_returned t4
 ·rw [List.nodup_append]
  refine ⟨m7.1,by simp,fun x hx y hy => ?_⟩
  simp only [List.mem_singleton] at hy
  have:=(m7.2 x hx).1
  simp only at this
  omega
 ·rcases List.mem_append.1 hD with h | h
  ·obtain ⟨n1,n2⟩:=m7.2 D h
   simp only at n1
   exact ⟨by omega,n2⟩
  ·simp only [List.mem_singleton] at h;subst h
   exact ⟨Nat.le_refl _,hd7⟩
 ·intro w'' hn
  obtain ⟨cv',n1,n2⟩:=r7 w'' hn
  simp only [hb7,ha7] at n2
  exact ⟨cv',n1,n2⟩
 ·simpa only [hb7,ha7] using o7
 ·have:=x6.trans x7
  simpa only [hb7,ha7] using this
def bkX (X:List Int):List (AV × AV):=(List.range X.length).map fun j=>(.int .i64 ((X.length-1-j:Nat):Int),.int .i64 (X.getD (X.length-1-j) 0))
inductive Rounds (M:Mach) (fi:Fi) (p0 p1:Tmp) (opsA:Array Oper) (body:Code) (env:Vars) (keepA:List Nat):List (AV × AV) -> Heap -> Heap -> Prop
 | nil (L:Heap):Rounds M fi p0 p1 opsA body env keepA [] L L
 | cons {x:AV × AV} {xs:List (AV × AV)} {L L1 L2:Heap} (e:Env):Zao M.P M.inl (fun _ _ _ => none) fi.n opsA (fun _ => none) (fun _ => 2) (List.range opsA.size) ⟨lift ((p1,x.2) :: (p0,x.1) :: env),L,[],[],[]⟩ = some ⟨e,L,[],[],[]⟩ ->
   ZaH M fi [.code body] (Zbg keepA e) L (fun _ L' => L' = L1) -> Rounds M fi p0 p1 opsA body env keepA xs L1 L2 -> Rounds M fi p0 p1 opsA body env keepA (x :: xs) L L2
theorem Rounds.to {M:Mach} {fi:Fi} {p0 p1:Tmp} {opsA:Array Oper} {body:Code} {env:Vars} {keepA:List Nat} {xs:List (AV × AV)} {L L2:Heap} (h:Rounds M fi p0 p1 opsA body env keepA xs L L2) :
  ∃ (Ls:Nat -> Heap) (eA:Nat -> Env),Ls 0 = L /\ Ls xs.length = L2 /\
   (∀ j (hj:j < xs.length),Zao M.P M.inl (fun _ _ _ => none) fi.n opsA (fun _ => none) (fun _ => 2) (List.range opsA.size) ⟨lift ((p1,(xs[j]).2) :: (p0,(xs[j]).1) :: env),Ls j,[],[],[]⟩ = some ⟨eA j,Ls j,[],[],[]⟩) /\
   (∀ j,j < xs.length -> ZaH M fi [.code body] (Zbg keepA (eA j)) (Ls j) (fun _ L' => L' = Ls (j + 1))):=by
 induction h with
 | nil L => exact ⟨fun _ => L,fun _ => [],rfl,rfl,fun j hj => absurd hj (Nat.not_lt_zero _),fun j hj => absurd hj (Nat.not_lt_zero _)⟩
 | @cons x xs L L1 L2 e h1 h2 _ ih =>
  obtain ⟨Ls,eA,g1,g2,g3,g4⟩:=ih
  refine ⟨fun j => match j with | 0 => L | j + 1 => Ls j,fun j => match j with | 0 => e | j + 1 => eA j,rfl,g2,fun j hj => ?_,fun j hj => ?_⟩
  ·cases j with
   | zero => exact h1
   | succ j => exact g3 j (by simpa using hj)
  ·cases j with
   | zero => subst g1;exact h2
   | succ j => exact g4 j (by simpa using hj)
theorem range_rounds {M:Mach} {fi:Fi} {g:Operand} {p0 p1:Tmp} {ida:Nat} {opsA:Array Oper} {body:Code} {k:List Item} {env:Vars} {L L2:Heap} {Q:AV -> Heap -> Prop} {it:FuncId} {A:AV} {xs:List (AV × AV)} {keepA:List Nat}
  (hg:evV env g = .func (.func it) [] [A]) (hit:∀ args w,(callFunc it args).run (M.P ()) w = .ok (.enter it args) w) (hI:Zfg M it A xs) (hna:ZcL opsA = true) (hnb:Zb0 body = true) (hp0:p0 < fi.n) (hp1:p1 < fi.n)
  (hr:Rounds M fi p0 p1 opsA body env keepA xs L L2) (hk:ZaH M fi k env L2 Q):ZaH M fi (.code (.rangeFunc g #[p0,p1] (.region ida opsA false) body) :: k) env L Q:=by
 obtain ⟨Ls,eA,g1,g2,g3,g4⟩:=hr.to
 subst g2
 exact range_sound hg hit hI hna hnb hp0 hp1 Ls g1 eA g3 g4 hk
end Go.Av

namespace Go.Av
open Go.RowKit
def ZdS (x:Nat):List Nat -> List (List Nat)
 | [] => [[x]]
 | y :: l => (x :: y :: l) :: (ZdS x l).map (y :: ·)
def perms:List Nat -> List (List Nat)
 | [] => [[]]
 | x :: l => (perms l).flatMap (ZdS x)
theorem ZeV {x:Nat}:∀ (s t:List Nat),s ++ x :: t ∈ ZdS x (s ++ t)
 | [],[] => by simp [ZdS]
 | [],y :: t => by simp [ZdS]
 | y :: s,t => by
  simp only [List.cons_append,ZdS]
  exact List.mem_cons_of_mem _ (List.mem_map.2 ⟨_,ZeV s t,rfl⟩)
theorem perms_mem:∀ (l:List Nat) {σ:List Nat},σ.Perm l -> σ ∈ perms l
 | [],σ,h => by rw [List.Perm.eq_nil h];simp [perms]
 | x :: l,σ,h => by
  obtain ⟨s,t,rfl⟩:=List.append_of_mem (h.mem_iff.2 (List.mem_cons_self ..))
  have:(s ++ t).Perm l:=List.Perm.cons_inv ((List.perm_middle (a:=x) (l₁:=s) (l₂:=t)).symm.trans h)
  exact List.mem_flatMap.2 ⟨_,perms_mem l this,ZeV s t⟩
def Ahead (l:List Nat) (i j:Nat):Prop:=Zal l i<Zal l j
structure OrdOk (ops:Array Oper) (C σ:List Nat) (hot:Nat -> Nat) (l:List Nat):Prop where
 edge:∀ (j:Nat) (o:Oper),ops[j]? = some o -> ∀ e ∈ o.after,Region.binds .any e = true -> e.on < j /\ ¬Ahead l j e.on
 swap:∀ i j a b,Ahead l i j -> ops[i]? = some a -> ops[j]? = some b -> (i ∈ C /\ j ∈ C /\ Zal σ i < Zal σ j) \/ Zb2 hot ops i j a b = true \/ Zeh ops i ops.size j = true
section
variable {M:Mach} {call:Zaq} {n:Nat} {ops:Array Oper} {ans:Nat->Option Ans} {Q:Exit->Act->World->Prop}
def Alts (M:Mach) (call:Zaq) (n:Nat) (ops:Array Oper) (ans:Nat -> Option Ans) (Q:Exit -> Act -> World -> Prop) (C:List Nat) (hot:List Nat -> Nat -> Nat) (l:List Nat -> List Nat) (fuel:Nat) (listed:Array Bool) (s:RS) (S:St) (a:Act) (π:List Nat):Prop:=
 ∀ σ:List Nat,σ.Perm C -> π <+: σ -> ∃ rest f,Left M call n ops ans (hot σ) (Ahead (l σ)) listed rest s f /\ rest.length <= fuel /\
  (∀ b ∈ f.asm,b = true) /\ (∀ q ∈ f.eqs,q) /\ (∀ c ∈ f.calls,c.cond = true -> ZbK M c) /\
  (∀ S' a',HeapOk S' -> Ext S S' -> S'.L = f.L -> TRel S' f.env a'.tmps -> a'.tmps.size = a.tmps.size -> a'.defers = a.defers -> Q .normal a' S'.w)
theorem draw_any {C:List Nat} {hot:List Nat -> Nat -> Nat} {l:List Nat -> List Nat} (hnd:C.Nodup) (hok:∀ σ:List Nat,σ.Perm C -> OrdOk ops C σ (hot σ) (l σ)) :
  ∀ (fuel:Nat) (listed:Array Bool) (s:RS) (S:St) (a:Act) (π:List Nat),(∃ σ:List Nat,σ.Perm C /\ π <+: σ) -> (∀ c ∈ C,c ∈ π ↔ listed.getD c false = true) -> Alts M call n ops ans Q C hot l fuel listed s S a π ->
  HeapOk S -> S.L = s.L -> TRel S s.env a.tmps -> n <= a.tmps.size -> wpAny (M.P ()) .any ops Q fuel listed a S.w:=by
 intro fuel
 induction fuel with
 | zero =>
  intro listed s S a π ⟨σ,p1,p2⟩ hC hA hS hL hT hn
  obtain ⟨rest,f,hl,hlen,_,_,_,hK⟩:=hA σ p1 p2
  have:rest = []:=List.length_eq_zero_iff.1 (Nat.le_zero.1 hlen)
  subst this
  have h:=hl.run
  simp only [Zao,Option.some.injEq] at h;subst h
  refine ⟨?_,hK S a hS (Ext.refl S) hL hT rfl rfl⟩
  apply List.eq_nil_iff_forall_not_mem.2
  intro j hj
  obtain ⟨h1,o,h2,_⟩:=mem_ready.1 hj
  have:=(hl.mem j).2 ⟨(Array.getElem?_eq_some_iff.1 h2).1,h1⟩
  cases this
 | succ fuel ih =>
  intro listed s S a π ⟨σ0,p1,p2⟩ hC hA hS hL hT hn
  refine ⟨fun hnil => ?_,fun j hj => ?_⟩
  ·obtain ⟨rest,f,hl,hlen,_,_,_,hK⟩:=hA σ0 p1 p2
   have:=hl.none (hok σ0 p1).edge hnil
   subst this
   have h:=hl.run
   simp only [Zao,Option.some.injEq] at h;subst h
   exact hK S a hS (Ext.refl S) hL hT rfl rfl
  ·obtain ⟨j1,oj0,j2,_⟩:=mem_ready.1 hj
   have hjs:j < ops.size:=(Array.getElem?_eq_some_iff.1 j2).1
   have hsz:listed.size = ops.size:=by
    obtain ⟨rest,f,hl,_⟩:=hA σ0 p1 p2
    exact hl.size
   obtain ⟨π',hπ',hpre,hex,hCj⟩:∃ π':List Nat,(j ∈ C -> π' = π ++ [j]) /\ (∀ σ:List Nat,π' <+: σ -> π <+: σ) /\ (∃ σ:List Nat,σ.Perm C /\ π' <+: σ) /\ (∀ c ∈ C,c ∈ π' ↔ (listed.setIfInBounds j true).getD c false = true):=by
    by_cases hjC:j ∈ C
    ·refine ⟨π ++ [j],fun _ => rfl,fun σ h => (List.prefix_append π [j]).trans h,?_,fun c hc => ?_⟩
     ·obtain ⟨τ,rfl⟩:=p2
      have hjn:j ∉ π:=fun h => by
       have:=(hC j hjC).1 h
       rw [Zcj (by omega) false true] at this
       rw [j1] at this;cases this
      have hjt:j ∈ τ:=by
       rcases List.mem_append.1 (p1.mem_iff.2 hjC) with h | h
       ·exact absurd h hjn
       ·exact h
      refine ⟨π ++ [j] ++ τ.erase j,?_,List.prefix_append _ _⟩
      rw [List.append_assoc]
      exact ((List.perm_cons_erase hjt).symm.append_left π).trans p1
     ·by_cases e:j = c
      ·subst e
       simp [show j < listed.size by omega]
      ·rw [getD_set_ne false e,<- hC c hc]
       simp only [List.mem_append,List.mem_singleton]
       exact ⟨fun h => h.resolve_right fun h => e h.symm,.inl⟩
    ·refine ⟨π,fun h => absurd h hjC,fun σ h => h,⟨σ0,p1,p2⟩,fun c hc => ?_⟩
     rw [getD_set_ne false (fun e:j = c => hjC (by rw [e];exact hc)),<- hC c hc]
   have pick:∀ σ:List Nat,σ.Perm C -> π' <+: σ -> ∃ oj s1 f f' rest',ops[j]? = some oj /\ Zbb M.P M.inl call n ops (ans j) (hot σ j) oj s = some s1 /\ Left M call n ops ans (hot σ) (Ahead (l σ)) (listed.setIfInBounds j true) rest' s1 f' /\ RSEq f f' /\ rest'.length <= fuel /\
     (∀ b ∈ f.asm,b = true) /\ (∀ q ∈ f.eqs,q) /\ (∀ c ∈ f.calls,c.cond = true -> ZbK M c) /\
     (∀ S' a',HeapOk S' -> Ext S S' -> S'.L = f.L -> TRel S' f.env a'.tmps -> a'.tmps.size = a.tmps.size -> a'.defers = a.defers -> Q .normal a' S'.w):=by
    intro σ q1 q2
    obtain ⟨rest,f,hl,hlen,f1,f2,f3,f4⟩:=hA σ q1 (hpre σ q2)
    have hl2:Left M call n ops ans (hot σ) (fun i k => Ahead (l σ) i k /\ listed.getD i true = false) listed rest s f:=
     ⟨hl.size,hl.pw.imp_of_mem fun {x y} hx _ h => ⟨h,((hl.mem x).1 hx).2⟩,hl.mem,hl.closed,hl.run⟩
    obtain ⟨oj,s1,f',rest',g1,g2,g3,g4,g5⟩:=hl2.pick (fun i h => Nat.lt_irrefl _ h.1) hj fun i a b h hi hb => by
     rcases (hok σ q1).swap i j a b h.1 hi hb with ⟨c1,c2,c3⟩ | h
     ·exfalso
      rw [hπ' c2] at q2
      obtain ⟨τ,rfl⟩:=q2
      have hnd2:(π ++ [j] ++ τ).Nodup:=q1.nodup_iff.2 hnd
      have e1:Zal (π ++ [j] ++ τ) j = π.length:=Zct hnd2 (by simp)
      rw [e1] at c3
      have e2:=Zbo (q1.mem_iff.2 c1)
      rw [List.append_assoc,List.getElem?_append_left (by rw [List.append_assoc] at c3;exact c3)] at e2
      have:=(hC i c1).1 (List.mem_of_getElem? e2)
      rw [Zcj (by rw [hsz];exact (Array.getElem?_eq_some_iff.1 hi).1) false true,h.2] at this
      cases this
     ·exact h
    exact ⟨oj,s1,f,f',rest',g1,g2,⟨g3.size,g3.pw.imp fun h => h.1,g3.mem,g3.closed,g3.run⟩,g4,by omega,f1,f2,f3,f4⟩
   obtain ⟨σ1,r1,r2⟩:=hex
   obtain ⟨oj,s1,f,f',rest',hoj,h2,hl',k2,_,f1,f2,f3,_⟩:=pick σ1 r1 r2
   obtain ⟨env,L,x,y,z,he,_⟩:=ZaP _ hl'.run
   have hA':∀ b ∈ f'.asm,b = true:=fun b hb => f1 b ((k2.a b).2 hb)
   have hQ':∀ b ∈ f'.eqs,b:=fun b hb => f2 b ((k2.q b).2 hb)
   have hC':∀ c ∈ f'.calls,c.cond = true -> ZbK M c:=fun b hb => f3 b ((k2.k b).2 hb)
   refine Zcu hS hL hT hn hoj h2 (fun b hb => hA' b (by rw [he];simp [hb])) (fun b hb => hQ' b (by rw [he];simp [hb])) (fun b hb => hC' b (by rw [he];simp [hb])) fun S' a' m1 m2 m3 m4 m5 m6 => ?_
   refine ih _ s1 S' a' π' ⟨σ1,r1,r2⟩ hCj (fun σ q1 q2 => ?_) m1 m3 m4 (by rw [m5];exact hn)
   obtain ⟨oj2,s2,g,g',rest2,hoj2,h22,hl2',kk2,hlen2,g1,g2,g3,g4⟩:=pick σ q1 q2
   rw [hoj] at hoj2;cases hoj2
   have:=runOp_hot h2 h22
   subst this
   exact ⟨rest2,g',hl2',hlen2,fun b hb => g1 b ((kk2.a b).2 hb),fun b hb => g2 b ((kk2.q b).2 hb),fun b hb => g3 b ((kk2.k b).2 hb),
    fun S'' a'' q1 q2 q3 q4 q5 q6 => g4 S'' a'' q1 (m2.trans q2) (q3.trans kk2.L.symm) (q4.congr fun t => (kk2.get t).symm) (q5.trans m5) (q6.trans m6)⟩
end
def ordOk (ops:Array Oper) (C σ:List Nat) (hot:Nat -> Nat) (l:List Nat):Bool:=
 (Zfj l && (((List.range ops.size).all fun i => l.contains i) && l.all fun i => Nat.blt i ops.size)) &&
 ((List.range ops.size).all fun j => match ops[j]? with
  | some o => o.after.toList.all fun e => !Region.binds .any e || (Nat.blt e.on j && Nat.ble (Zal l e.on) (Zal l j))
  | none => true) &&
 ((List.range ops.size).all fun j => (List.range ops.size).all fun i => !Nat.blt (Zal l i) (Zal l j) || ((C.contains i && (C.contains j && Nat.blt (Zal σ i) (Zal σ j))) ||
  match ops[i]?,ops[j]? with
  | some a,some b => Zb2 hot ops i j a b || Zeh ops i ops.size j
  | _,_ => true))
theorem Zfy {ops:Array Oper} {C σ:List Nat} {hot:Nat -> Nat} {l:List Nat} (h:ordOk ops C σ hot l = true):OrdOk ops C σ hot l /\ l.Nodup /\ (∀ i,i ∈ l ↔ i < ops.size):=by
 unfold ordOk at h
 simp only [Bool.and_eq_true,List.all_eq_true,List.mem_range,List.contains_iff_mem,Nat.blt_eq] at h
 obtain ⟨⟨⟨h1,h2,h3⟩,h4⟩,h5⟩:=h
 have hnd:=(Zbp l).1 h1
 refine ⟨⟨fun j o ho e he hb => ?_,fun i j a b hij hi hj => ?_⟩,hnd,fun i => ⟨h3 i,fun hi => ?_⟩⟩
 ·have:=h4 j (Array.getElem?_eq_some_iff.1 ho).1
  rw [ho] at this
  have:=List.all_eq_true.1 this e (by simpa using he)
  rw [hb] at this
  simp only [Bool.not_true,Bool.false_or,Bool.and_eq_true,Nat.blt_eq,Nat.ble_eq] at this
  exact ⟨this.1,Nat.not_lt.2 this.2⟩
 ·have:=h5 j (Array.getElem?_eq_some_iff.1 hj).1 i (Array.getElem?_eq_some_iff.1 hi).1
  rw [hi,hj] at this
  simp only [Bool.or_eq_true,Bool.not_eq_true',Bool.and_eq_true,List.contains_iff_mem,Nat.blt_eq] at this
  rcases this with h | h | h
  ·have:=Nat.blt_eq.mpr hij
   rw [this] at h;cases h
  ·exact .inl ⟨h.1,h.2.1,h.2.2⟩
  ·exact .inr h
 ·exact h2 i hi
def ordRun (M:Mach) (call:Zaq) (n:Nat) (ops:Array Oper) (ans:Nat -> Option Ans) (hot:Nat -> Nat) (keep C σ l rs:List Nat) (env:Vars) (L:Heap):Option (Vars × Heap × List Bool × List Prop × List CF):=
 match ordOk ops C σ hot l,Zao M.P M.inl call n ops ans hot l ⟨lift env,L,[],[],[]⟩ with
 | true,some s => match ZbG s.L rs (Zbg keep s.env),Nat.beq rs.length s.L.length && (List.range L.length).all fun i => (match rs[i]? with | some r => Nat.beq r i | none => false) with
  | some (e,K),true => some (e,K,s.asm,s.eqs,s.calls)
  | _,_ => none
 | _,_ => none
theorem any_sound {M:Mach} (hm:(M.P ()).follows .mixedOrders = true) {fi:Fi} {id:Nat} {ops:Array Oper} {env:Vars} {L:Heap} {call:Zaq} {ans:Nat -> Option Ans} {keep C:List Nat} {hot:List Nat -> Nat -> Nat} {l rs:List Nat -> List Nat} {e1:Vars} {L1:Heap} (hnd:C.Nodup)
  (h:∀ σ ∈ perms C,∃ asl qs cl,ordRun M call fi.n ops ans (hot σ) keep C σ (l σ) (rs σ) env L = some (e1,L1,asl,qs,cl) /\ (∀ b ∈ asl,b = true) /\ (∀ q ∈ qs,q) /\ (∀ c ∈ cl,c.cond = true -> ZbK M c))
  {S:St} {a:Act} (h5:HeapOk S) (h6:S.L = L) (h7:VRel S env a.tmps) (h8:fi.n <= a.tmps.size) :
  RegR (M.P ()) id ops true (fun a' w' => ∃ S':St,S'.w = w' /\ HeapOk S' /\ Ext S S' /\ S'.L = L1 /\ VRel S' e1 a'.tmps /\ a'.tmps.size = a.tmps.size /\ a'.defers = a.defers) a S.w:=by
 refine regR_any hm ?_
 obtain ⟨n1,n2⟩:=Zb1 h5 (w':={ S.w with drawn:=S.w.drawn + 1 }) ⟨rfl,rfl,rfl,Nat.le_refl _,fun _ _ => rfl⟩ (fun _ _ => rfl)
 have key:∀ σ:List Nat,σ.Perm C -> ∃ s asl qs cl,ordOk ops C σ (hot σ) (l σ) = true /\ Zao M.P M.inl call fi.n ops ans (hot σ) (l σ) ⟨lift env,L,[],[],[]⟩ = some s /\ ZbG s.L (rs σ) (Zbg keep s.env) = some (e1,L1) /\
   (∀ r,r < L.length -> (rs σ)[r]? = some r) /\ (∀ b ∈ s.asm,b = true) /\ (∀ q ∈ s.eqs,q) /\ (∀ c ∈ s.calls,c.cond = true -> ZbK M c) /\ asl = s.asm /\ qs = s.eqs /\ cl = s.calls:=by
  intro σ hσ
  obtain ⟨asl,qs,cl,hr,h1,h2,h3⟩:=h σ (perms_mem C hσ)
  unfold ordRun at hr
  split at hr
  ·rename_i s ho hs
   split at hr
   ·rename_i e K hn hall
    simp only [Option.some.injEq,Prod.mk.injEq] at hr
    obtain ⟨rfl,rfl,rfl,rfl,rfl⟩:=hr
    simp only [Bool.and_eq_true,List.all_eq_true,List.mem_range] at hall
    refine ⟨s,_,_,_,ho,hs,hn,fun r hr => ?_,h1,h2,h3,rfl,rfl,rfl⟩
    have:=hall.2 r hr
    cases h:(rs σ)[r]? with
    | none => rw [h] at this;simp at this
    | some q => rw [h] at this;simp only [Nat.beq_eq] at this;rw [this]
   ·simp at hr
  ·simp at hr
 refine draw_any (call:=call) (ans:=ans) (C:=C) (hot:=hot) (l:=l) hnd (fun σ hσ => ?_) ops.size (Array.replicate ops.size false) ⟨lift env,L,[],[],[]⟩ ⟨S.base,S.acc,S.L,S.β,{ S.w with drawn:=S.w.drawn + 1 }⟩ a [] ⟨C,.refl _,List.nil_prefix⟩ (fun c hc => ?_) (fun σ hσ _ => ?_) n1 h6 ((Zc0 h7).mono n2) h8
 ·obtain ⟨s,_,_,_,ho,_⟩:=key σ hσ
  exact (Zfy ho).1
 ·constructor
  ·intro h;cases h
  ·intro h
   by_cases hlt:c < ops.size <;> simp [hlt] at h
 ·obtain ⟨s,_,_,_,ho,hs,hn,hid,a1,a2,a3,_⟩:=key σ hσ
  obtain ⟨_,hndl,hmem⟩:=Zfy ho
  refine ⟨l σ,s,⟨by simp,?_,fun i => ?_,fun j o _ hj => ?_,hs⟩,?_,a1,a2,a3,fun S' a' k1 k2 k3 k4 k5 k6 => ?_⟩
  ·refine List.pairwise_iff_getElem.2 fun i j hi hj hij => ?_
   show Zal _ _ < Zal _ _
   rw [Zct hndl (List.getElem?_eq_getElem hi),Zct hndl (List.getElem?_eq_getElem hj)]
   exact hij
  ·rw [hmem]
   constructor
   ·intro h;exact ⟨h,by simp [h]⟩
   ·intro h;exact h.1
  ·by_cases hlt:j < ops.size <;> simp [hlt] at hj
  ·have hp:(l σ).Perm (List.range ops.size):=(List.perm_ext_iff_of_nodup hndl List.nodup_range).2 fun i => by rw [hmem,List.mem_range]
   rw [hp.length_eq];simp
  ·unfold ZbG at hn
   split at hn
   ·rename_i rows hrows
    split at hn
    ·rename_i hc
     simp only [Option.some.injEq,Prod.mk.injEq] at hn
     obtain ⟨rfl,rfl⟩:=hn
     simp only [Bool.and_eq_true,List.all_eq_true,List.contains_iff_mem] at hc
     obtain ⟨hnd',ha,hcl⟩:=hc
     have hnd':=(Zbp (rs σ)).1 hnd'
     rw [<- k3] at hrows
     obtain ⟨p1,p2,p3⟩:=perm_ok k1 n1 k2 hrows hnd' hcl (fun r hr => hid r (by rw [<- h6];exact hr))
     refine ⟨⟨S'.base,S'.acc,rows.map (Zaf (Zal (rs σ))),subβ S'.β (rs σ),S'.w⟩,rfl,p1,n2.trans p2,rfl,fun t => ?_,k5,k6⟩
     rw [get_renV]
     exact p3 _ _ (Zbw k4 keep t) fun r hr => ha r (rows_get hr)
    ·simp at hn
   ·simp at hn
end Go.Av

namespace Go.Av
structure EG where
 keep:List (Nat × List (Nat × List Nat))
 hot:List (Nat × List (Nat × List Nat))
 known:List (Nat × List AV × AV):=[]
 rows:List (Nat × List (Nat × List Nat)):=[]
mutual
def beqA:AV -> AV -> Bool
 | .bool a,.bool b => a == b
 | .int k n,.int j m => decide (k = j) && n == m
 | .str a,.str b => a == b
 | .flt a,.flt b => a == b
 | .agg a,.agg b => beqAL a b
 | .tup a,.tup b => beqAL a b
 | .vec f es a,.vec g fs b => f == g && (es == fs && beqAL a b)
 | .nilp,.nilp => true
 | .vnil,.vnil => true
 | _,_ => false
def beqAL:List AV -> List AV -> Bool
 | [],[] => true
 | a :: l,b :: m => beqA a b && beqAL l m
 | _,_ => false
end
mutual
theorem beqA_eq:∀ (a b:AV),beqA a b = true -> a = b
 | .bool a,b,h => by cases b <;> simp [beqA] at h;rw [h]
 | .int k n,b,h => by cases b <;> simp [beqA] at h;rw [h.1,h.2]
 | .str a,b,h => by cases b <;> simp [beqA] at h;rw [h]
 | .flt a,b,h => by cases b <;> simp [beqA] at h;rw [h]
 | .agg a,b,h => by cases b <;> simp [beqA] at h;rw [beqAL_eq a _ h]
 | .tup a,b,h => by cases b <;> simp [beqA] at h;rw [beqAL_eq a _ h]
 | .vec f es a,b,h => by cases b <;> simp [beqA] at h;rw [h.1,h.2.1,beqAL_eq a _ h.2.2]
 | .nilp,b,h => by cases b <;> simp [beqA] at h;rfl
 | .vnil,b,h => by cases b <;> simp [beqA] at h;rfl
 | .any,b,h => by cases b <;> simp [beqA] at h
 | .ptr ..,b,h => by cases b <;> simp [beqA] at h
 | .eptr ..,b,h => by cases b <;> simp [beqA] at h
 | .row ..,b,h => by cases b <;> simp [beqA] at h
 | .ref ..,b,h => by cases b <;> simp [beqA] at h
 | .func ..,b,h => by cases b <;> simp [beqA] at h
 | .nilf,b,h => by cases b <;> simp [beqA] at h
 | .mapr ..,b,h => by cases b <;> simp [beqA] at h
 | .nilm,b,h => by cases b <;> simp [beqA] at h
theorem beqAL_eq:∀ (a b:List AV),beqAL a b = true -> a = b
 | [],b,h => by cases b <;> simp [beqAL] at h;rfl
 | a :: l,b,h => by
  cases b with
  | nil => simp [beqAL] at h
  | cons b m => simp [beqAL] at h;rw [beqA_eq a b h.1,beqAL_eq l m h.2]
end
def ZdR (f:Nat) (args:List AV):List (Nat × List AV × AV) -> Option AV
 | [] => none
 | (g,bs,v) :: l => bif Nat.beq f g && beqAL args bs then some v else ZdR f args l
theorem known_in {f:Nat} {args:List AV} {v:AV}:∀ {l:List (Nat × List AV × AV)},ZdR f args l = some v -> (f,args,v) ∈ l
 | [],h => by simp [ZdR] at h
 | (g,bs,u) :: l,h => by
  unfold ZdR at h
  cases hb:(Nat.beq f g && beqAL args bs) with
  | true =>
   rw [hb] at h
   simp only [cond_true,Option.some.injEq] at h
   simp only [Bool.and_eq_true,Nat.beq_eq] at hb
   rw [h,hb.1,beqAL_eq _ _ hb.2];exact .head _
  | false => rw [hb] at h;exact .tail _ (known_in h)
def ofFn:List (Nat × List (Nat × List Nat)) -> Nat -> List (Nat × List Nat)
 | [],_ => []
 | (f,l) :: t,g => bif Nat.beq f g then l else ofFn t g
def ZcO (l:List Nat) (i:Nat):Option Ans:=bif l.contains i then some .keep else none
def runX (M:Mach) (fi:Fi) (kp ht kr:List (Nat × List Nat)) (call:Zaq):Nat -> List Item -> Vars -> Heap -> Option (AV × Heap)
 | 0,_,_,_ => none
 | n + 1,todo,env,L =>
  match todo with
  | [] => match finish M.P fi env L with
   | some v => some (v,L)
   | none => none
  | .inBlock _ :: k => runX M fi kp ht kr call n k env L
  | .inLoop b :: k => runX M fi kp ht kr call n (.code b :: .inLoop b :: k) env L
  | .code c :: k =>
   match c with
   | .skip => runX M fi kp ht kr call n k env L
   | .seq a b => runX M fi kp ht kr call n (.code a :: .code b :: k) env L
   | .cond c a b => match evV env c with
    | .bool t => runX M fi kp ht kr call n (.code (bif t then a else b) :: k) env L
    | _ => none
   | .block id b => runX M fi kp ht kr call n (.code b :: .inBlock id :: k) env L
   | .loop b => runX M fi kp ht kr call n (.code b :: .inLoop b :: k) env L
   | .exit id => match exitTo id k with
    | some k' => runX M fi kp ht kr call n k' env L
    | none => none
   | .region id ops draw =>
    match (bif draw then ZfG (hotOf ops (Zat ht id)) ops else true) with
    | false => none
    | true =>
     match Zao M.P M.inl call fi.n ops (ZcO (Zat kr id)) (bif draw then hotOf ops (Zat ht id) else fun _ => 2) (List.range ops.size) ⟨lift env,L,[],[],[]⟩ with
     | some s => match s.asm.all (fun b => b),s.eqs with
      | true,[] => runX M fi kp ht kr call n k (Zbg (Zat kp id) s.env) s.L
      | _,_ => none
     | none => none
   | .ret => match finish M.P fi env L with
    | some v => some (v,L)
    | none => none
   | _ => none
  | _ => none
def ansX (M:Mach) (K:List (Nat × List AV × AV)) (ex:FuncId -> List AV -> Heap -> Option (AV × Heap)):Zaq:=fun g args L =>
 match M.inl g with
 | true => match ex g args L with
  | some (v,L') => some (v,some L')
  | none => none
 | false => match ZdR g args K with
  | some d => some (d,none)
  | none => match ex g args [] with
   | some (v,L') => match pureA L' v with
    | some d => bif (versA L' v).all (fun b => b) && d.clean then some (d,none) else none
    | none => none
   | none => none
def execX (M:Mach) (G:EG):Nat -> FuncId -> List AV -> Heap -> Option (AV × Heap)
 | 0 => fun _ _ _ => none
 | n + 1 => fun f args L =>
  match (M.P ()).funcs[f]? with
  | some fn => match fn.body,fn.name == "runtime.NumGoroutine" with
   | some c,false => runX M ⟨fn.ntmps,fn.results.toList⟩ (ofFn G.keep f) (ofFn G.hot f) (ofFn G.rows f) (ansX M G.known (execX M G n)) 100000 [.code c] (ZbO 0 args) L
   | _,_ => none
  | none => none
def Zfn (inl:FuncId -> Bool) (call:Zaq) (c:CF):Prop:=
 (c.own = true /\ inl c.f = true /\ ∃ o,call c.f c.args c.L = some (c.v,o) /\ c.L' = o.getD c.L) \/
 (inl c.f = false /\ ∃ L1,call c.f c.args [] = some (c.v,some L1)) \/
 (c.own = false /\ inl c.f = false /\ call c.f c.args [] = some (c.v,none))
section
variable {P:Unit->Program}
theorem Zba {x:Option AV} {r:SR} (h:Zbu x = some r):r.calls = []:=by
 unfold Zbu at h;split at h
 ·simp only [Option.some.injEq] at h;subst h;rfl
 ·simp at h
theorem convS_no {src dst:TypeId} {x:AV} {r:SR} (h:convS P src dst x = some r):r.calls = []:=by
 unfold convS at h
 repeat' split at h
 all_goals first | (simp only [Option.some.injEq] at h;subst h;rfl) | simp at h
theorem intBin_no {op:BinOp} {k:IntKind} {x y:Int} {r:SR} (h:ZfB op k x y = some r):r.calls = []:=by
 unfold ZfB at h
 split at h <;> first | (simp only [Option.some.injEq] at h;subst h;rfl) | (simp at h)
theorem strBin_no {op:BinOp} {x y:List UInt8} {r:SR} (h:Zfp op x y = some r):r.calls = []:=by
 unfold Zfp at h
 split at h <;> first | (simp only [Option.some.injEq] at h;subst h;rfl) | (simp at h)
theorem binA_no {op:BinOp} {T:TypeId} {x y:AV} {r:SR} (h:binA P op T x y = some r):r.calls = []:=by
 unfold binA at h
 split at h
 ·simp only [Option.some.injEq] at h;subst h;rfl
 ·simp only [Option.some.injEq] at h;subst h;rfl
 ·split at h
  ·exact intBin_no h
  ·simp at h
 ·exact strBin_no h
 ·split at h
  ·exact Zba h
  ·simp at h
 ·split at h
  ·exact Zba h
  ·simp at h
 ·simp at h
theorem boxA_no {L:Heap} {x:AV} {r:SR} (h:boxA L x = some r):r.calls = []:=by
 unfold boxA at h;split at h
 ·simp only [Option.some.injEq] at h;subst h;rfl
 ·simp at h
theorem loadA_no {el:Option AV} {L:Heap} {T:TypeId} {p:AV} {r:SR} (h:loadA P el L T p = some r):r.calls = []:=by
 unfold loadA at h
 repeat' split at h
 all_goals first | (simp only [Option.some.injEq] at h;subst h;rfl) | (simp at h)
theorem storeA_no {el:Option AV} {L:Heap} {T:TypeId} {p v:AV} {r:SR} (h:Zfq P el L T p v = some r):r.calls = []:=by
 unfold Zfq at h
 repeat' split at h
 all_goals first | (simp only [Option.some.injEq] at h;subst h;rfl) | (simp at h)
theorem Zfm {keep:Bool} {L:Heap} {T:TypeId} {len:Nat} {parts:List (Nat × AV)} {r:SR} (h:Za4 P keep L T len parts = some r):r.calls = []:=by
 unfold Za4 at h
 cases keep <;> simp only [cond_true,cond_false] at h <;> (repeat' split at h) <;> first | (simp only [Option.some.injEq] at h;subst h;rfl) | (simp at h)
theorem indexAddrA_no {L:Heap} {T:TypeId} {x i:AV} {r:SR} (h:ZbY P L T x i = some r):r.calls = []:=by
 unfold ZbY at h
 repeat' split at h
 all_goals first | (simp only [Option.some.injEq] at h;subst h;rfl) | (simp at h)
theorem indexA_no {T:TypeId} {x i:AV} {r:SR} (h:ZfC P T x i = some r):r.calls = []:=by
 unfold ZfC at h
 repeat' split at h
 all_goals first | (simp only [Option.some.injEq] at h;subst h;rfl) | (simp at h)
theorem sliceA_no {L:Heap} {T:TypeId} {x:AV} {lo hi mx:Option AV} {r:SR} (h:Zfs P L T x lo hi mx = some r):r.calls = []:=by
 unfold Zfs at h
 repeat' split at h
 all_goals first | (simp only [Option.some.injEq] at h;subst h;rfl) | (simp at h)
theorem ZfM {L:Heap} {T:TypeId} {s x:AV} {r:SR} (h:ZcU P L T s x = some r):r.calls = []:=by
 unfold ZcU at h
 repeat' split at h
 all_goals first | (simp only [Option.some.injEq] at h;subst h;rfl) | (simp at h)
theorem clearA_no {L:Heap} {T:TypeId} {d:AV} {r:SR} (h:clearA P L T d = some r):r.calls = []:=by
 unfold clearA at h
 repeat' split at h
 all_goals first | (simp only [Option.some.injEq] at h;subst h;rfl) | (simp at h)
theorem lenA_no {L:Heap} {T:TypeId} {x:AV} {r:SR} (h:lenA P L T x = some r):r.calls = []:=by
 unfold lenA at h
 repeat' split at h
 all_goals first | (simp only [Option.some.injEq] at h;subst h;rfl) | (simp at h)
theorem makeSliceA_no {L:Heap} {T:TypeId} {a b:AV} {r:SR} (h:ZbX P L T a b = some r):r.calls = []:=by
 unfold ZbX at h
 repeat' split at h
 all_goals first | (simp only [Option.some.injEq] at h;subst h;rfl) | (simp at h)
theorem sliceArrA_no {L:Heap} {n:Nat} {e:TypeId} {x:AV} {r:SR} (h:Zbl P L n e x = some r):r.calls = []:=by
 unfold Zbl at h
 repeat' split at h
 all_goals first | (simp only [Option.some.injEq] at h;subst h;rfl) | (simp at h)
theorem appendZ_no {L:Heap} {T:TypeId} {s x:AV} {r:SR} (h:Zd2 P L T s x = some r):r.calls = []:=by
 unfold Zd2 at h
 repeat' split at h
 all_goals first | (simp only [Option.some.injEq] at h;subst h;rfl) | (simp at h)
theorem makeMapA_no {L:Heap} {T:TypeId} {r:SR} (h:ZdE P L T = some r):r.calls = []:=by
 unfold ZdE at h
 repeat' split at h
 all_goals first | (simp only [Option.some.injEq] at h;subst h;rfl) | (simp at h)
theorem lookupA_no {el:Option AV} {L:Heap} {T:TypeId} {m k:AV} {ok:Bool} {r:SR} (h:ZeU P el L T m k ok = some r):r.calls = []:=by
 unfold ZeU at h
 repeat' split at h
 all_goals first | (simp only [Option.some.injEq] at h;subst h;rfl) | (simp at h)
theorem mapUpdateA_no {L:Heap} {T:TypeId} {m k v:AV} {r:SR} (h:Zci P L T m k v = some r):r.calls = []:=by
 unfold Zci at h
 repeat' split at h
 all_goals first | (simp only [Option.some.injEq] at h;subst h;rfl) | (simp at h)
theorem mapEntryA_no {el:Option AV} {L:Heap} {T:TypeId} {m k:AV} {r:SR} (h:ZcN P el L T m k = some r):r.calls = []:=by
 unfold ZcN at h
 repeat' split at h
 all_goals first | (simp only [Option.some.injEq] at h;subst h;rfl) | (simp at h)
theorem Zfl {L:Heap} {m i v:AV} {r:SR} (h:Zb4 L m i v = some r):r.calls = []:=by
 unfold Zb4 at h
 repeat' split at h
 all_goals first | (simp only [Option.some.injEq] at h;subst h;rfl) | (simp at h)
theorem callF_good {inl:FuncId -> Bool} {call:Zaq} {L:Heap} {g:FuncId} {args:List AV} {r:SR} (h:ZdZ inl call L g args = some r):∀ c ∈ r.calls,Zfn inl call c:=by
 unfold ZdZ at h
 cases hi:inl g with
 | true =>
  rw [hi] at h
  simp only [cond_true] at h
  split at h
  ·rename_i rs args' Lc hin
   split at h
   ·rename_i v o hc
    split at h
    ·simp only [Option.some.injEq] at h
     subst h
     intro c hm
     simp only [List.mem_singleton] at hm
     subst hm
     exact .inl ⟨rfl,hi,o,hc,rfl⟩
    ·simp at h
   ·simp at h
  ·simp at h
 | false =>
  rw [hi] at h
  simp only [cond_false] at h
  split at h
  ·rename_i ds hds
   split at h
   ·rename_i d hc
    split at h
    ·split at h
     all_goals
      simp only [Option.some.injEq] at h
      subst h
      intro c hm
      simp only [List.mem_singleton] at hm
      subst hm
      exact .inr (.inr ⟨rfl,hi,hc⟩)
    ·simp at h
   ·rename_i v L1 hc
    split at h
    ·split at h
     ·split at h
      ·simp only [Option.some.injEq] at h
       subst h
       intro c hm
       simp only [List.mem_singleton] at hm
       subst hm
       exact .inr (.inl ⟨hi,L1,hc⟩)
      ·simp at h
     ·simp at h
    ·simp at h
   ·simp at h
  ·simp at h
theorem Zaw {inl:FuncId -> Bool} {call:Zaq} {r:SR} (h:r.calls = []):∀ c ∈ r.calls,Zfn inl call c:=by
 rw [h];intro c hc;cases hc
theorem callA_good {inl:FuncId -> Bool} {call:Zaq} {ρ:Operand -> AV} {L:Heap} {c:Call} {r:SR} (h:ZbV P inl call ρ L c = some r):∀ c ∈ r.calls,Zfn inl call c:=by
 unfold ZbV at h
 split at h
 ·apply Zaw
  split at h
  ·split at h
   ·exact ZfM h
   ·exact ZfM h
   ·exact appendZ_no h
   ·simp at h
  ·exact clearA_no h
  ·exact lenA_no h
  ·exact Zba h
  ·exact Zba h
  ·exact Zba h
  ·simp at h
 ·split at h
  ·exact callF_good h
  ·simp at h
 ·simp at h
theorem stepA_good {inl:FuncId -> Bool} {call:Zaq} {ρ:Za0 -> Operand -> AV} {L:Heap} {o:Oper} {r:SR} {an:Option Ans} (han:an = none \/ an = some .keep) (h:ZaX P inl call an ρ L o = some r):∀ c ∈ r.calls,Zfn inl call c:=by
 unfold ZaX at h
 simp only at h
 split at h
 ·simp only [Option.some.injEq] at h;subst h;exact Zaw rfl
 ·simp only [Option.some.injEq] at h;subst h;exact Zaw rfl
 ·split at h
  ·exact Zaw (Zba h)
  ·exact Zaw (Zba h)
 ·split at h
  ·exact Zaw (boxA_no h)
  ·simp at h
 ·exact Zaw (boxA_no h)
 ·exact Zaw (Zba h)
 ·exact Zaw (Zfm h)
 ·exact Zaw (loadA_no h)
 ·exact Zaw (storeA_no h)
 ·split at h
  ·simp only [Option.some.injEq] at h;subst h;exact Zaw rfl
  ·simp only [Option.some.injEq] at h;subst h;exact Zaw rfl
  ·simp at h
 ·exact Zaw (binA_no h)
 ·exact Zaw (Zba h)
 ·exact Zaw (convS_no h)
 ·simp only [Option.some.injEq] at h;subst h;exact Zaw rfl
 ·exact Zaw (makeSliceA_no h)
 ·split at h
  ·split at h
   ·exact Zaw (sliceArrA_no h)
   ·simp at h
  ·exact Zaw (sliceA_no h)
 ·exact Zaw (Zba h)
 ·exact Zaw (Zba h)
 ·exact Zaw (indexAddrA_no h)
 ·exact Zaw (indexA_no h)
 ·split at h
  ·exact Zaw (makeMapA_no h)
  ·simp at h
 ·exact Zaw (lookupA_no h)
 ·exact Zaw (mapUpdateA_no h)
 ·exact Zaw (mapEntryA_no h)
 ·exact Zaw (Zfl h)
 ·split at h
  ·exact Zaw (Zba h)
  ·simp at h
 ·rcases han with rfl | rfl <;> exact callA_good h
 ·simp at h
theorem runOp_good {inl:FuncId -> Bool} {call:Zaq} {n:Nat} {ops:Array Oper} {hot:Nat} {o:Oper} {s s':RS} {an:Option Ans} (han:an = none \/ an = some .keep) (h:Zbb P inl call n ops an hot o s = some s') (hs:∀ c ∈ s.calls,Zfn inl call c) :
  ∀ c ∈ s'.calls,Zfn inl call c:=by
 unfold Zbb at h
 split at h
 ·simp at h
 ·split at h
  ·simp only [Option.some.injEq] at h;subst h;exact hs
  ·simp at h
 ·split at h
  ·split at h
   ·simp at h
   ·split at h
    ·simp only [Option.some.injEq] at h;subst h;exact hs
    ·simp at h
  ·rename_i r hr
   have hg:=stepA_good han hr
   split at h
   ·simp at h
   ·split at h
    ·simp at h
    ·split at h
     ·simp only [Option.some.injEq] at h;subst h
      intro c hc
      rcases List.mem_append.1 hc with hc | hc
      ·exact hs c hc
      ·exact hg c hc
     ·simp only [Option.some.injEq] at h;subst h
      intro c hc
      rcases List.mem_append.1 hc with hc | hc
      ·exact hs c hc
      ·obtain ⟨c0,h1,rfl⟩:=List.mem_map.1 hc
       exact hg c0 h1
theorem Zc1 (l:List Nat) (i:Nat):ZcO l i = none \/ ZcO l i = some .keep:=by
 unfold ZcO
 cases l.contains i with
 | true => exact .inr rfl
 | false => exact .inl rfl
theorem Zde {inl:FuncId -> Bool} {call:Zaq} {n:Nat} {ops:Array Oper} {hot:Nat -> Nat} {ans:Nat -> Option Ans} (hans:∀ i,ans i = none \/ ans i = some .keep):∀ (l:List Nat) {s s':RS},Zao P inl call n ops ans hot l s = some s' -> (∀ c ∈ s.calls,Zfn inl call c) ->
  ∀ c ∈ s'.calls,Zfn inl call c:=by
 intro l
 induction l with
 | nil => intro s s' h hs;simp only [Zao,Option.some.injEq] at h;subst h;exact hs
 | cons i rest ih =>
  intro s s' h hs
  simp only [Zao] at h
  split at h
  ·exact ih h hs
  ·split at h
   ·rename_i s1 h1
    exact ih h (runOp_good (hans _) h1 hs)
   ·simp at h
end
def AnsOk (M:Mach) (call:Zaq):Prop:=∀ f args L v o,call f args L = some (v,o) ->
 (M.inl f = true -> Ev M (.own f args L) v (o.getD L)) /\ (M.inl f = false -> o = none /\ Ev M (.pure f args) v [])
theorem runX_sound {M:Mach} {fi:Fi} {kp ht kr:List (Nat × List Nat)} {call:Zaq} (hc:AnsOk M call):∀ (n:Nat) {todo:List Item} {env:Vars} {L L':Heap} {v:AV},runX M fi kp ht kr call n todo env L = some (v,L') ->
  Ev M (.run fi todo env L) v L':=by
 intro n
 induction n with
 | zero => intro todo env L L' v h;simp [runX] at h
 | succ n ih =>
  intro todo env L L' v h
  unfold runX at h
  split at h
  ·split at h
   ·rename_i w hf
    simp only [Option.some.injEq,Prod.mk.injEq] at h
    obtain ⟨rfl,rfl⟩:=h
    exact .done hf ⟨rfl,rfl⟩
   ·simp at h
  ·exact .inBlock (ih h)
  ·exact .inLoop (ih h)
  ·split at h
   ·exact .skip (ih h)
   ·exact .seq (ih h)
   ·split at h
    ·rename_i t ht
     exact .cond t ht (ih h)
    ·simp at h
   ·exact .block (ih h)
   ·exact .loop (ih h)
   ·split at h
    ·rename_i k' hk
     exact .exit hk (ih h)
    ·simp at h
   ·split at h
    ·simp at h
    ·rename_i id ops draw _ hd
     split at h
     ·rename_i s hr
      split at h
      ·rename_i ha he
       have hg:=Zde (Zc1 _) _ hr (by intro c hc;cases hc)
       refine .region call (ZcO (Zat kr id)) _ _ s (fun h1 => ?_) hr (fun b hb => ?_) (fun p hp => ?_) (fun c hcm _ ho => ?_) (fun c hcm _ ho => ?_) (ih h)
       ·subst h1;exact hd
       ·exact (List.all_eq_true.1 ha) b hb
       ·rw [he] at hp;cases hp
       ·rcases hg c hcm with ⟨_,h2,o,h3,h4⟩ | ⟨h2,L1,h3⟩ | ⟨h2,_⟩
        ·rw [h4];exact (hc _ _ _ _ _ h3).1 h2
        ·have:=((hc _ _ _ _ _ h3).2 h2).1;simp at this
        ·rw [ho] at h2;simp at h2
       ·rcases hg c hcm with ⟨h2,_⟩ | ⟨h2,L1,h3⟩ | ⟨_,h2,h3⟩
        ·rw [ho] at h2;simp at h2
        ·have:=((hc _ _ _ _ _ h3).2 h2).1;simp at this
        ·exact ((hc _ _ _ _ _ h3).2 h2).2
      ·simp at h
     ·simp at h
   ·split at h
    ·rename_i w hf
     simp only [Option.some.injEq,Prod.mk.injEq] at h
     obtain ⟨rfl,rfl⟩:=h
     exact .ret hf ⟨rfl,rfl⟩
    ·simp at h
   ·simp at h
  ·simp at h
def Zcb (M:Mach) (G:EG):Prop:=∀ k ∈ G.known,Ev M (.pure k.1 k.2.1) k.2.2 []
theorem ZaN {M:Mach} {a b c:List (Nat × List (Nat × List Nat))}:Zcb M ⟨a,b,[],c⟩:=fun _ hk=>nomatch hk
theorem ansX_ok {M:Mach} {G:EG} (hK:Zcb M G) {ex:FuncId -> List AV -> Heap -> Option (AV × Heap)} (h:∀ f args L v L',ex f args L = some (v,L') -> Ev M (.own f args L) v L'):AnsOk M (ansX M G.known ex):=by
 intro f args L v o hc
 unfold ansX at hc
 split at hc
 ·rename_i hi
  refine ⟨fun _ => ?_,fun h2 => by rw [hi] at h2;simp at h2⟩
  split at hc
  ·rename_i w L' he
   simp only [Option.some.injEq,Prod.mk.injEq] at hc
   obtain ⟨rfl,rfl⟩:=hc
   exact h _ _ _ _ _ he
  ·simp at hc
 ·rename_i hi
  refine ⟨fun h2 => by rw [hi] at h2;simp at h2,fun _ => ?_⟩
  split at hc
  ·rename_i d hd
   simp only [Option.some.injEq,Prod.mk.injEq] at hc
   obtain ⟨rfl,rfl⟩:=hc
   exact ⟨rfl,hK _ (known_in hd)⟩
  split at hc
  ·rename_i w L' he
   split at hc
   ·rename_i d hd
    cases hb:((versA L' w).all (fun b => b) && d.clean) with
    | false => rw [hb] at hc;simp at hc
    | true =>
     rw [hb] at hc
     simp only [cond_true,Option.some.injEq,Prod.mk.injEq] at hc
     obtain ⟨rfl,rfl⟩:=hc
     simp only [Bool.and_eq_true,List.all_eq_true] at hb
     exact ⟨rfl,.pure (.mono (h _ _ _ _ _ he) fun x K ⟨e1,e2⟩ => by subst e1;subst e2;exact ⟨d,d,hd,hb.1,hb.2,.refl d,rfl,rfl⟩)⟩
   ·simp at hc
  ·simp at hc
theorem execX_sound {M:Mach} {G:EG} (hK:Zcb M G):∀ (n:Nat) (f:FuncId) (args:List AV) (L:Heap) (v:AV) (L':Heap),execX M G n f args L = some (v,L') -> Ev M (.own f args L) v L':=by
 intro n
 induction n with
 | zero => intro f args L v L' h;simp [execX] at h
 | succ n ih =>
  intro f args L v L' h
  unfold execX at h
  split at h
  ·rename_i fn hf
   split at h
   ·rename_i c hb hn
    exact .own fn c hf hb hn (runX_sound (ansX_ok hK fun f args L v L' h => ih f args L v L' h) _ h)
   ·simp at h
  ·simp at h
def execP (M:Mach) (G:EG) (n:Nat) (f:FuncId) (args:List AV):Option AV:=
 match execX M G n f args [] with
 | some (v,L') => match pureA L' v with
  | some d => bif (versA L' v).all (fun b => b) && d.clean then some d else none
  | none => none
 | none => none
theorem Zbc {M:Mach} {G:EG} (hK:Zcb M G) (n:Nat) {f:FuncId} {args:List AV} {d:AV} (h:execP M G n f args = some d):Ev M (.pure f args) d []:=by
 unfold execP at h
 split at h
 ·rename_i v L' he
  split at h
  ·rename_i d0 hd
   cases hb:((versA L' v).all (fun b => b) && d0.clean) with
   | false => rw [hb] at h;simp at h
   | true =>
    rw [hb] at h
    simp only [cond_true,Option.some.injEq] at h
    subst h
    simp only [Bool.and_eq_true,List.all_eq_true] at hb
    exact .pure (.mono (execX_sound hK n _ _ _ _ _ he) fun x K ⟨e1,e2⟩ => by subst e1;subst e2;exact ⟨d0,d0,hd,hb.1,hb.2,.refl d0,rfl,rfl⟩)
  ·simp at h
 ·simp at h
end Go.Av
