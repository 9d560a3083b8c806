/- PART 3 of the texts of a claim, joined by a program: what each part shows stands at its head. -/
import Derived.Test.YtcekollfgmfdjaaGreatPart15f8081586

namespace Go.Av
open Go.Proofs
set_option maxRecDepth 100000
def fi95:Fi:=⟨68,[.tmp 4]⟩
def kp95:List (Nat × List Nat):=[(0,[0,1]),(1,[0,1,5]),(2,[1,5,18,19,20]),(3,[1,5,18,19,20,21]),(4,[1,5,6,7,18,19,20]),(5,[1,5,6,7,8,18,19,20]),(6,[1,5,6,7,8,18,19,20,25,26,27]),(7,[1,5,6,7,8,18,19,20,25,26,27,28]),(8,[1,5,6,7,8,9,10,18,19,20,25,26,27]),(9,[1,5,6,7,9,11,18,19,20,25,26,27]),(10,[1,5,6,7,8,18,19,20,25,26,27]),(11,[1,5,6,7,8,18,19,20,25,26,27]),(12,[1,5,18,19,20]),(13,[1,5,18,19,20]),(14,[4])]
def Zgg (fa fb:Bool) (a b:List Int) (Q:AV->Heap->Prop):Prop:=Wp M1 (.run fi95 (atC (cd Tryz.f95) []) [(0,.vec fa 1 (a.map (.int .u32))),(1,.vec fb 1 (b.map (.int .u32)))] []) Q
def ZcI (fb fx:Bool) (b x o:List Int) (n i:Int) (Q:AV->Heap->Prop):Prop:=Wp M1 (.run fi95 (atC (cd Tryz.f95) [1,1,0,1,0,0]) [(1,.vec fb 1 (b.map (.int .u32))),(5,.row 0 0),(18,.vec fx 1 (x.map (.int .u32))),(19,.int .i64 n),(20,.int .i64 i)] [⟨o.map (.int .u32),1,0,false,true⟩]) Q
def ZcH (fb fx fy:Bool) (b x y o:List Int) (i0 x0 c n i m k:Int) (Q:AV->Heap->Prop):Prop:=Wp M1 (.run fi95 (atC (cd Tryz.f95) [1,1,0,1,0,0,1,1,0,0,1,1,0,1,0,0]) [(1,.vec fb 1 (b.map (.int .u32))),(5,.row 0 0),(6,.int .i64 i0),(7,.int .u32 x0),(8,.int .u64 c),(18,.vec fx 1 (x.map (.int .u32))),(19,.int .i64 n),(20,.int .i64 i),(25,.vec fy 1 (y.map (.int .u32))),(26,.int .i64 m),(27,.int .i64 k)] [⟨o.map (.int .u32),1,0,false,true⟩]) Q
theorem call95 {args:List AV} {d:AV} (h:wc M1 fi95 Tryz.f95 args d):Ev M1 (.pure 95 args) d []:=pcl _ _ (by kernel_rfl) h
theorem owncall95 {args:List AV} {L:Heap} {Q:AV->Heap->Prop} (h:Wp M1 (.run fi95 [.code (cd Tryz.f95)] (Za2 0 args) L) Q):Wp M1 (.own 95 args L) Q:=
 ZdU Tryz.f95 fi95 (by kernel_rfl) (by kernel_rfl) (by kernel_rfl) (by kernel_rfl) h
theorem vTimes (fa fb:Bool) (a b:List Int)  (Q:AV->Heap->Prop) (H :
  (-9223372036854775808<=(↑a.length:Int)+(↑b.length:Int)/\(↑a.length:Int)+(↑b.length:Int)<=9223372036854775807) /\
  (0<=(↑a.length:Int)+(↑b.length:Int)) /\
  (((↑a.length:Int)+(↑b.length:Int))*4<=1099511627776) /\
  ((↑a.length:Int)+(↑b.length:Int)<=1099511627776) /\
  ZcI fb fa b a (List.replicate ((↑a.length:Int)+(↑b.length:Int)).toNat (0:Int)) ((↑a.length:Int)) 0 Q) :
 Zgg fa fb a b Q:=by
 unfold Zgg
 have w1:(us a).length=a.length:=List.length_map ..
 have w2:(us b).length=b.length:=List.length_map ..
 obtain ⟨k3,H⟩:=H
 have w4:wi ((↑a.length:Int)+(↑b.length:Int))=(↑a.length:Int)+(↑b.length:Int):=wI64 k3
 have i5:(decide (0<=wi ((↑(us a).length:Int)+(↑(us b).length:Int))))=true ↔ (0<=(↑a.length:Int)+(↑b.length:Int)):=(by (try rw [w1]);(try rw [w2]);(try rw [w4]);all_goals exact Zac)
 obtain ⟨k6,H⟩:=H
 have i7:(decide (wi ((↑(us a).length:Int)+(↑(us b).length:Int))<=wi ((↑(us a).length:Int)+(↑(us b).length:Int))))=true ↔ ((↑a.length:Int)+(↑b.length:Int)<=(↑a.length:Int)+(↑b.length:Int)):=(by (try rw [w1]);(try rw [w2]);(try rw [w4]);all_goals exact Zac)
 have i8:(decide (wi ((↑(us a).length:Int)+(↑(us b).length:Int))*4<=1099511627776))=true ↔ (((↑a.length:Int)+(↑b.length:Int))*4<=1099511627776):=(by (try rw [w1]);(try rw [w2]);(try rw [w4]);all_goals exact Zac)
 obtain ⟨k9,H⟩:=H
 have i10:(decide (wi ((↑(us a).length:Int)+(↑(us b).length:Int))<=1099511627776))=true ↔ ((↑a.length:Int)+(↑b.length:Int)<=1099511627776):=(by (try rw [w1]);(try rw [w2]);(try rw [w4]);all_goals exact Zac)
 obtain ⟨k11,H⟩:=H
 have w12:List.replicate ((↑a.length:Int)+(↑b.length:Int)).toNat (vu 0)=us (List.replicate ((↑a.length:Int)+(↑b.length:Int)).toNat (0:Int)):=(ZdY rfl)
 exact Zaf (G:=Zae kp95 [] []) 1000 [] ⟨(atC (cd Tryz.f95) [1,1,0,1,0,0]),[(1,AV.vec fb 1 (us b)),(5,AV.row 0 0),(18,AV.vec fa 1 (us a)),(19,vi (↑(us a).length:Int)),(20,vi 0)],[⟨List.replicate (wi ((↑(us a).length:Int)+(↑(us b).length:Int))).toNat (vu 0),1,0,false,true⟩],[decide (0<=wi ((↑(us a).length:Int)+(↑(us b).length:Int))),decide (wi ((↑(us a).length:Int)+(↑(us b).length:Int))<=wi ((↑(us a).length:Int)+(↑(us b).length:Int))),decide (wi ((↑(us a).length:Int)+(↑(us b).length:Int))*4<=1099511627776),decide (wi ((↑(us a).length:Int)+(↑(us b).length:Int))<=1099511627776)],[],_⟩ (by kernel_rfl) (bc (i5.2 k6) (bc (i7.2 (by omega)) (bc (i8.2 k9) (bc (i10.2 k11) b0)))) q0 c0 (by (try rw [w1]);(try rw [w2]);(try rw [w4]);(try rw [w12]);all_goals exact H)
theorem vTimesA (fb fx:Bool) (b x o:List Int) (n i:Int)  (Q:AV->Heap->Prop) (H :
  ((i<n)->(0<=i) /\
   (i.toNat<x.length) /\
   ZcH fb fx fb b x b o i (x.getD i.toNat default) 0 n i ((↑b.length:Int)) 0 Q) /\
  (¬(i<n)->Q (AV.row 0 0) [{ elems:=us o,es:=1,ver:=0,frozen:=false,clean:=true }])) :
 ZcI fb fx b x o n i Q:=by
 unfold ZcI
 rcases xq H with ⟨d2,H⟩|⟨d2,H⟩
 ·obtain ⟨k4,H⟩:=H
  have w5:(us x).length=x.length:=List.length_map ..
  have i6:(decide (i.toNat<(us x).length))=true ↔ (i.toNat<x.length):=(by (try rw [w5]);all_goals exact Zac)
  obtain ⟨k7,H⟩:=H
  have w8:(us b).length=b.length:=List.length_map ..
  exact Zaf (G:=Zae kp95 [(4,2,.elem (vu (x.getD i.toNat default)))] []) 1000 [true] ⟨(atC (cd Tryz.f95) [1,1,0,1,0,0,1,1,0,0,1,1,0,1,0,0]),[(1,AV.vec fb 1 (us b)),(5,AV.row 0 0),(6,vi i),(7,vu (x.getD i.toNat default)),(8,vw 0),(18,AV.vec fx 1 (us x)),(19,vi n),(20,vi i),(25,AV.vec fb 1 (us b)),(26,vi (↑(us b).length:Int)),(27,vi 0)],[⟨us o,1,0,false,true⟩],_,[((us x).get?Internal i.toNat=some (vu (x.getD i.toNat default)))],_⟩ (by kernel_rfl) (bc (Zam (Zac.2 d2)) (bc (Zac.2 k4) (bc (i6.2 k7) b0))) (qc (Zat k7) q0) c0 (by (try rw [w8]);all_goals exact H)
 ·exact ZaB (G:=Zae kp95 [] []) 1000 [false] (k:=((atC (cd Tryz.f95) [1,1,1,1])).tail) (env':=[(4,AV.row 0 0)]) (L':=[⟨us o,1,0,false,true⟩]) (asm:=[(decide (i<n))==false]) (eqs:=[]) (calls:=[]) (AV.row 0 0) (by kernel_rfl) (by kernel_rfl) (Zaa (Zak (fun h=>d2 (Zac.1 h))) Zal) Zao Zap H
theorem vTimesB (fb fx fy:Bool) (b x y o:List Int) (i0 x0 c n i m k:Int)  (Q:AV->Heap->Prop) (H :
  ((k<m)->(0<=k) /\
   (k.toNat<y.length) /\
   (-9223372036854775808<=i0+k/\i0+k<=9223372036854775807) /\
   (0<=i0+k) /\
   ((i0+k).toNat<o.length) /\
   (0<=o.getD (i0+k).toNat default/\o.getD (i0+k).toNat default<=18446744073709551615) /\
   (0<=x0/\x0<=18446744073709551615) /\
   (0<=y.getD k.toNat default/\y.getD k.toNat default<=18446744073709551615) /\
   (0<=x0*y.getD k.toNat default/\x0*y.getD k.toNat default<=18446744073709551615) /\
   (0<=o.getD (i0+k).toNat default+x0*y.getD k.toNat default/\o.getD (i0+k).toNat default+x0*y.getD k.toNat default<=18446744073709551615) /\
   (0<=o.getD (i0+k).toNat default+x0*y.getD k.toNat default+c/\o.getD (i0+k).toNat default+x0*y.getD k.toNat default+c<=18446744073709551615) /\
   (0<=(o.getD (i0+k).toNat default+x0*y.getD k.toNat default+c).tdiv 1000000000/\(o.getD (i0+k).toNat default+x0*y.getD k.toNat default+c).tdiv 1000000000<=18446744073709551615) /\
   (0<=(o.getD (i0+k).toNat default+x0*y.getD k.toNat default+c).tmod 1000000000/\(o.getD (i0+k).toNat default+x0*y.getD k.toNat default+c).tmod 1000000000<=4294967295) /\
   (-9223372036854775808<=k+1/\k+1<=9223372036854775807) /\
   ZcH fb fx fy b x y (o.set (i0+k).toNat ((o.getD (i0+k).toNat default+x0*y.getD k.toNat default+c).tmod 1000000000)) i0 x0 ((o.getD (i0+k).toNat default+x0*y.getD k.toNat default+c).tdiv 1000000000) n i m (k+1) Q) /\
  (¬(k<m)->(-9223372036854775808<=i0+(↑b.length:Int)/\i0+(↑b.length:Int)<=9223372036854775807) /\
   (0<=i0+(↑b.length:Int)) /\
   ((i0+(↑b.length:Int)).toNat<o.length) /\
   (0<=c/\c<=4294967295) /\
   (-9223372036854775808<=i+1/\i+1<=9223372036854775807) /\
   ZcI fb fx b x (o.set (i0+(↑b.length:Int)).toNat c) n (i+1) Q)) :
 ZcH fb fx fy b x y o i0 x0 c n i m k Q:=by
 unfold ZcH
 rcases xq H with ⟨d2,H⟩|⟨d2,H⟩
 ·obtain ⟨k4,H⟩:=H
  have w5:(us y).length=y.length:=List.length_map ..
  have i6:(decide (k.toNat<(us y).length))=true ↔ (k.toNat<y.length):=(by (try rw [w5]);all_goals exact Zac)
  obtain ⟨k7,k8,H⟩:=H
  have w9:wi (i0+k)=i0+k:=wI64 k8
  have i10:(decide (0<=wi (i0+k)))=true ↔ (0<=i0+k):=(by (try rw [w9]);all_goals exact Zac)
  obtain ⟨k11,H⟩:=H
  have w12:(us o).length=o.length:=List.length_map ..
  have i13:(decide ((wi (i0+k)).toNat<(us o).length))=true ↔ ((i0+k).toNat<o.length):=(by (try rw [w9]);(try rw [w12]);all_goals exact Zac)
  obtain ⟨k14,k15,H⟩:=H
  have w16:wu (o.getD (i0+k).toNat default)=o.getD (i0+k).toNat default:=wU64 k15
  obtain ⟨k17,H⟩:=H
  have w18:wu x0=x0:=wU64 k17
  obtain ⟨k19,H⟩:=H
  have w20:wu (y.getD k.toNat default)=y.getD k.toNat default:=wU64 k19
  obtain ⟨k21,H⟩:=H
  have w22:wu (x0*y.getD k.toNat default)=x0*y.getD k.toNat default:=wU64 k21
  obtain ⟨k23,H⟩:=H
  have w24:wu (o.getD (i0+k).toNat default+x0*y.getD k.toNat default)=o.getD (i0+k).toNat default+x0*y.getD k.toNat default:=wU64 k23
  obtain ⟨k25,H⟩:=H
  have w26:wu (o.getD (i0+k).toNat default+x0*y.getD k.toNat default+c)=o.getD (i0+k).toNat default+x0*y.getD k.toNat default+c:=wU64 k25
  have i27:(decide (0<=wi (i0+k)))=true ↔ (0<=i0+k):=(by (try rw [w9]);all_goals exact Zac)
  have i28:(decide ((wi (i0+k)).toNat<(us o).length))=true ↔ ((i0+k).toNat<o.length):=(by (try rw [w9]);(try rw [w12]);all_goals exact Zac)
  obtain ⟨k29,H⟩:=H
  have w30:wu ((o.getD (i0+k).toNat default+x0*y.getD k.toNat default+c).tdiv 1000000000)=(o.getD (i0+k).toNat default+x0*y.getD k.toNat default+c).tdiv 1000000000:=wU64 k29
  obtain ⟨k31,H⟩:=H
  have w32:wv ((o.getD (i0+k).toNat default+x0*y.getD k.toNat default+c).tmod 1000000000)=(o.getD (i0+k).toNat default+x0*y.getD k.toNat default+c).tmod 1000000000:=wU32 k31
  have w33:(us o).set (i0+k).toNat (vu ((o.getD (i0+k).toNat default+x0*y.getD k.toNat default+c).tmod 1000000000))=us (o.set (i0+k).toNat ((o.getD (i0+k).toNat default+x0*y.getD k.toNat default+c).tmod 1000000000)):=(Zbf rfl rfl)
  obtain ⟨k34,H⟩:=H
  have w35:wi (k+1)=k+1:=wI64 k34
  exact Zaf (G:=Zae kp95 [(8,2,.elem (vu (y.getD k.toNat default))),(9,5,.elem (vu (o.getD (i0+k).toNat default))),(10,10,.elem (vu (o.getD (i0+k).toNat default)))] []) 1000 [true] ⟨(atC (cd Tryz.f95) [1,1,0,1,0,0,1,1,0,0,1,1,0,1,0,0]),[(1,AV.vec fb 1 (us b)),(5,AV.row 0 0),(6,vi i0),(7,vu x0),(8,vw (wu ((wu (wu (wu (o.getD (i0+k).toNat default)+wu (wu x0*wu (y.getD k.toNat default)))+c)).tdiv 1000000000))),(18,AV.vec fx 1 (us x)),(19,vi n),(20,vi i),(25,AV.vec fy 1 (us y)),(26,vi m),(27,vi (wi (k+1)))],[⟨(us o).set (wi (i0+k)).toNat (vu (wv ((wu (wu (wu (o.getD (i0+k).toNat default)+wu (wu x0*wu (y.getD k.toNat default)))+c)).tmod 1000000000))),1,0,false,true⟩],_,[((us y).get?Internal k.toNat=some (vu (y.getD k.toNat default))),((us o).get?Internal (wi (i0+k)).toNat=some (vu (o.getD (i0+k).toNat default))),((us o).get?Internal (wi (i0+k)).toNat=some (vu (o.getD (i0+k).toNat default)))],_⟩ (by kernel_rfl) (bc (Zam (Zac.2 d2)) (bc (Zac.2 k4) (bc (i6.2 k7) (bc rfl (bc (i10.2 k11) (bc (i13.2 k14) (bc rfl (bc rfl (bc rfl (bc rfl (bc (i27.2 k11) (bc (i28.2 k14) (bc rfl b0))))))))))))) (qc (Zat k7) (qc (by (try rw [w9]);all_goals exact (Zat k14)) (qc (by (try rw [w9]);all_goals exact (Zat k14)) q0))) c0 (by (try rw [w9]);(try rw [w16]);(try rw [w18]);(try rw [w20]);(try rw [w22]);(try rw [w24]);(try rw [w26]);(try rw [w30]);(try rw [w32]);(try rw [w33]);(try rw [w35]);all_goals exact H)
 ·have w36:(us b).length=b.length:=List.length_map ..
  obtain ⟨k37,H⟩:=H
  have w38:wi (i0+(↑b.length:Int))=i0+(↑b.length:Int):=wI64 k37
  have i39:(decide (0<=wi (i0+(↑(us b).length:Int))))=true ↔ (0<=i0+(↑b.length:Int)):=(by (try rw [w36]);(try rw [w38]);all_goals exact Zac)
  obtain ⟨k40,H⟩:=H
  have w41:(us o).length=o.length:=List.length_map ..
  have i42:(decide ((wi (i0+(↑(us b).length:Int))).toNat<(us o).length))=true ↔ ((i0+(↑b.length:Int)).toNat<o.length):=(by (try rw [w36]);(try rw [w38]);(try rw [w41]);all_goals exact Zac)
  obtain ⟨k43,k44,H⟩:=H
  have w45:wv c=c:=wU32 k44
  have w46:(us o).set (i0+(↑b.length:Int)).toNat (vu c)=us (o.set (i0+(↑b.length:Int)).toNat c):=(Zbf rfl rfl)
  obtain ⟨k47,H⟩:=H
  have w48:wi (i+1)=i+1:=wI64 k47
  exact Zaf (G:=Zae kp95 [(12,8,.elem (vu (o.getD (i0+(↑b.length:Int)).toNat default)))] []) 1000 [false] ⟨(atC (cd Tryz.f95) [1,1,0,1,0,0]),[(1,AV.vec fb 1 (us b)),(5,AV.row 0 0),(18,AV.vec fx 1 (us x)),(19,vi n),(20,vi (wi (i+1)))],[⟨(us o).set (wi (i0+(↑(us b).length:Int))).toNat (vu (wv c)),1,0,false,true⟩],_,[((us o).get?Internal (wi (i0+(↑(us b).length:Int))).toNat=some (vu (o.getD (i0+(↑b.length:Int)).toNat default)))],_⟩ (by kernel_rfl) (bc (Zak (fun h=>d2 (Zac.1 h))) (bc rfl (bc (i39.2 k40) (bc (i42.2 k43) (bc rfl b0))))) (qc (by (try rw [w36]);(try rw [w38]);all_goals exact (Zat k43)) q0) c0 (by (try rw [w36]);(try rw [w38]);(try rw [w45]);(try rw [w46]);(try rw [w48]);all_goals exact H)
end Go.Av

namespace Go.Av
open Go.Proofs
set_option maxRecDepth 100000
def fi97:Fi:=⟨45,[.tmp 4]⟩
def kp97:List (Nat × List Nat):=[(0,[0,1]),(1,[0,1]),(2,[0,1,14]),(3,[19]),(4,[4]),(5,[4]),(6,[0,1,5]),(7,[0,1,5,24]),(8,[0,1,5]),(9,[0,1,5,35]),(10,[4]),(11,[0,1,5,44]),(12,[4]),(13,[4])]
def fi128:Fi:=⟨44,[.tmp 4,.tmp 5]⟩
def kp128:List (Nat × List Nat):=[(0,[0,1]),(1,[0,1,6]),(2,[0,1,6,7]),(3,[0,1,6,7,8]),(4,[0,1,6,7,8,17]),(5,[0,1,6,7,8]),(6,[0,1,6,8,9]),(7,[0,1,6,7,8]),(8,[4,5])]
def fi141:Fi:=⟨53,[.tmp 4]⟩
def kp141:List (Nat × List Nat):=[(0,[0,1]),(1,[0,1,13]),(2,[0,1]),(3,[0,1,5]),(4,[0,1,5,6]),(5,[1,5,6,20,21,22]),(6,[1,5,6,20,21,22,23]),(7,[1,5,6,7,8,20,21,22]),(8,[1,5,7,8,20,21,22]),(9,[1,5,7,8,20,21,22,33]),(10,[1,5,8,20,21,22]),(11,[1,5,6,8,20,21,22]),(12,[1,5,6,8,20,21,22,41]),(13,[1,5,6,8,20,21,22]),(14,[1,5,6,20,21,22]),(15,[1,5,6,20,21,22]),(16,[4])]
def fi142:Fi:=⟨44,[.tmp 4]⟩
def kp142:List (Nat × List Nat):=[(0,[0,1]),(1,[0,1,5]),(2,[0,1,5,6]),(3,[1,5,6,13,14,15]),(4,[1,5,6,13,14,15,16]),(5,[1,5,6,7,8,13,14,15]),(6,[1,5,7,8,9,13,14,15]),(7,[1,5,7,8,9,13,14,15,24]),(8,[1,5,7,8,9,13,14,15]),(9,[1,5,6,7,8,9,13,14,15]),(10,[1,5,6,7,8,9,13,14,15,33]),(11,[1,5,6,7,8,9,13,14,15]),(12,[1,5,6,13,14,15]),(13,[1,5,6,13,14,15]),(14,[4])]
def Zgl (fa fb:Bool) (a b:List Int) (Q:AV->Heap->Prop):Prop:=Wp M1 (.run fi97 (atC (cd Tryz.f97) []) [(0,.vec fa 1 (a.map (.int .u32))),(1,.vec fb 1 (b.map (.int .u32)))] []) Q
def Zci (fa fb:Bool) (a b:List Int) (i:Int) (Q:AV->Heap->Prop):Prop:=Wp M1 (.run fi97 (atC (cd Tryz.f97) [1,1,1,0,1,0,0]) [(0,.vec fa 1 (a.map (.int .u32))),(1,.vec fb 1 (b.map (.int .u32))),(5,.int .i64 i)] []) Q
def vPlus_at (fa fb:Bool) (a b:List Int) (Q:AV->Heap->Prop):Prop:=Wp M1 (.run fi141 (atC (cd Tryz.f141) []) [(0,.vec fa 1 (a.map (.int .u32))),(1,.vec fb 1 (b.map (.int .u32)))] []) Q
def Zch (fb fx:Bool) (b x o:List Int) (c n i:Int) (v:Nat) (Q:AV->Heap->Prop):Prop:=Wp M1 (.run fi141 (atC (cd Tryz.f141) [1,1,1,1,0,1,0,0]) [(1,.vec fb 1 (b.map (.int .u32))),(5,.row 0 v),(6,.int .u32 c),(20,.vec fx 1 (x.map (.int .u32))),(21,.int .i64 n),(22,.int .i64 i)] [⟨o.map (.int .u32),1,v,false,true⟩]) Q
def vMinus_at (fa fb:Bool) (a b:List Int) (Q:AV->Heap->Prop):Prop:=Wp M1 (.run fi142 (atC (cd Tryz.f142) []) [(0,.vec fa 1 (a.map (.int .u32))),(1,.vec fb 1 (b.map (.int .u32)))] []) Q
def Zbv (fb fx:Bool) (b x o:List Int) (c n i:Int) (Q:AV->Heap->Prop):Prop:=Wp M1 (.run fi142 (atC (cd Tryz.f142) [1,1,1,0,1,0,0]) [(1,.vec fb 1 (b.map (.int .u32))),(5,.row 0 0),(6,.int .u32 c),(13,.vec fx 1 (x.map (.int .u32))),(14,.int .i64 n),(15,.int .i64 i)] [⟨o.map (.int .u32),1,0,false,true⟩]) Q
def ZhA (fa:Bool) (a:List Int) (d:Int) (Q:AV->Heap->Prop):Prop:=Wp M1 (.run fi128 (atC (cd Tryz.f128) []) [(0,.vec fa 1 (a.map (.int .u32))),(1,.int .u32 d)] []) Q
def Zb3 (fa:Bool) (a o:List Int) (d r i:Int) (Q:AV->Heap->Prop):Prop:=Wp M1 (.run fi128 (atC (cd Tryz.f128) [1,1,1,0,1,0,0]) [(0,.vec fa 1 (a.map (.int .u32))),(1,.int .u32 d),(6,.row 0 0),(7,.int .u64 r),(8,.int .i64 i)] [⟨o.map (.int .u32),1,0,false,true⟩]) Q
theorem call97 {args:List AV} {d:AV} (h:wc M1 fi97 Tryz.f97 args d):Ev M1 (.pure 97 args) d []:=pcl _ _ (by kernel_rfl) h
theorem call128 {args:List AV} {d:AV} (h:wc M1 fi128 Tryz.f128 args d):Ev M1 (.pure 128 args) d []:=pcl _ _ (by kernel_rfl) h
theorem call141 {args:List AV} {d:AV} (h:wc M1 fi141 Tryz.f141 args d):Ev M1 (.pure 141 args) d []:=pcl _ _ (by kernel_rfl) h
theorem call142 {args:List AV} {d:AV} (h:wc M1 fi142 Tryz.f142 args d):Ev M1 (.pure 142 args) d []:=pcl _ _ (by kernel_rfl) h
theorem vCompare (fa fb:Bool) (a b:List Int)  (dq:AV) (H :
  ∃ (l1:List Int),
  (Ev M1 (Conf.pure 117 [AV.vec fa 1 (us a)]) (vf (us l1)) []) /\
  ∃ (l2:List Int),
  (Ev M1 (Conf.pure 117 [AV.vec fb 1 (us b)]) (vf (us l2)) []) /\
  ((¬(↑l1.length:Int)=(↑l2.length:Int))->(((↑l1.length:Int)<(↑l2.length:Int))->vi (-1)=dq) /\
   (¬((↑l1.length:Int)<(↑l2.length:Int))->vi 1=dq)) /\
  (¬(¬(↑l1.length:Int)=(↑l2.length:Int))->(-9223372036854775808<=(↑l1.length:Int)-1/\(↑l1.length:Int)-1<=9223372036854775807) /\
   Zci false false l1 l2 ((↑l1.length:Int)-1) (Zag dq))) :
 Zgl fa fb a b (Zag dq):=by
 unfold Zgl
 obtain ⟨l1,k1,l2,k2,H⟩:=H
 have w3:(us l1).length=l1.length:=List.length_map ..
 have w4:(us l2).length=l2.length:=List.length_map ..
 have i5:((↑(us l1).length:Int) != (↑(us l2).length:Int))=true ↔ (¬(↑l1.length:Int)=(↑l2.length:Int)):=(by (try rw [w3]);(try rw [w4]);all_goals exact i_ne)
 refine Zaf (G:=Zae kp97 [(1,1,.call (vf (us l1)) none),(1,3,.call (vf (us l2)) none)] []) 7 [] ⟨(atC (cd Tryz.f97) [1,1,0,1]),[(0,vf (us l1)),(1,vf (us l2)),(14,vb ((↑(us l1).length:Int) != (↑(us l2).length:Int)))],[],_,[],_⟩ (by kernel_rfl) b0 q0 (ce k1 (ce k2 c0)) ?_
 rcases xq H with ⟨d6,H⟩|⟨d6,H⟩
 ·have i7:(decide ((↑(us l1).length:Int)<(↑(us l2).length:Int)))=true ↔ ((↑l1.length:Int)<(↑l2.length:Int)):=(by (try rw [w3]);(try rw [w4]);all_goals exact Zac)
  rcases xq H with ⟨d8,H⟩|⟨d8,H⟩
  ·exact Zas (G:=Zae kp97 [] []) 1000 [true,true] (vi (-1)) (by kernel_rfl) (bc (Zam (i5.2 d6)) (bc (Zam (i7.2 d8)) b0)) q0 c0 H
  ·exact Zas (G:=Zae kp97 [] []) 1000 [true,false] (vi 1) (by kernel_rfl) (bc (Zam (i5.2 d6)) (bc (Zak (fun h=>d8 (i7.1 h))) b0)) q0 c0 H
 ·obtain ⟨k9,H⟩:=H
  have w10:wi ((↑l1.length:Int)-1)=(↑l1.length:Int)-1:=wI64 k9
  exact Zaf (G:=Zae kp97 [] []) 1000 [false] ⟨(atC (cd Tryz.f97) [1,1,1,0,1,0,0]),[(0,vf (us l1)),(1,vf (us l2)),(5,vi (wi ((↑(us l1).length:Int)-1)))],[],_,[],_⟩ (by kernel_rfl) (bc (Zak (fun h=>d6 (i5.1 h))) b0) q0 c0 (by (try rw [w3]);(try rw [w10]);all_goals exact H)
theorem vCompareA (fa fb:Bool) (a b:List Int) (i:Int)  (dq:AV) (H :
  ((i>=0)->(0<=i) /\
   (i.toNat<a.length) /\
   (i.toNat<b.length) /\
   ((a.getD i.toNat default<b.getD i.toNat default)->vi (-1)=dq) /\
   (¬(a.getD i.toNat default<b.getD i.toNat default)->((a.getD i.toNat default>b.getD i.toNat default)->vi 1=dq) /\
    (¬(a.getD i.toNat default>b.getD i.toNat default)->(-9223372036854775808<=i-1/\i-1<=9223372036854775807) /\
     Zci fa fb a b (i-1) (Zag dq)))) /\
  (¬(i>=0)->vi 0=dq)) :
 Zci fa fb a b i (Zag dq):=by
 unfold Zci
 rcases xq H with ⟨d2,H⟩|⟨d2,H⟩
 ·obtain ⟨k4,H⟩:=H
  have w5:(us a).length=a.length:=List.length_map ..
  have i6:(decide (i.toNat<(us a).length))=true ↔ (i.toNat<a.length):=(by (try rw [w5]);all_goals exact Zac)
  obtain ⟨k7,H⟩:=H
  have w9:(us b).length=b.length:=List.length_map ..
  have i10:(decide (i.toNat<(us b).length))=true ↔ (i.toNat<b.length):=(by (try rw [w9]);all_goals exact Zac)
  obtain ⟨k11,H⟩:=H
  refine Zaf (G:=Zae kp97 [(9,3,.elem (vu (a.getD i.toNat default))),(9,7,.elem (vu (b.getD i.toNat default)))] []) 10 [true] ⟨(atC (cd Tryz.f97) [1,1,1,0,1,0,0,1,0,0,0,1]),[(0,AV.vec fa 1 (us a)),(1,AV.vec fb 1 (us b)),(5,vi i),(35,vb (decide (a.getD i.toNat default<b.getD i.toNat default)))],[],_,[((us a).get?Internal i.toNat=some (vu (a.getD i.toNat default))),((us b).get?Internal i.toNat=some (vu (b.getD i.toNat default)))],_⟩ (by kernel_rfl) (bc (Zam (Zac.2 d2)) (bc (Zac.2 k4) (bc (i6.2 k7) (bc (Zac.2 k4) (bc (i10.2 k11) b0))))) (qc (Zat k7) (qc (Zat k11) q0)) c0 ?_
  rcases xq H with ⟨d13,H⟩|⟨d13,H⟩
  ·exact Zas (G:=Zae kp97 [] []) 1000 [true] (vi (-1)) (by kernel_rfl) (bc (Zam (Zac.2 d13)) b0) q0 c0 H
  ·have i15:(decide (i.toNat<(us a).length))=true ↔ (i.toNat<a.length):=(by (try rw [w5]);all_goals exact Zac)
   have i17:(decide (i.toNat<(us b).length))=true ↔ (i.toNat<b.length):=(by (try rw [w9]);all_goals exact Zac)
   refine Zaf (G:=Zae kp97 [(11,3,.elem (vu (a.getD i.toNat default))),(11,7,.elem (vu (b.getD i.toNat default)))] []) 4 [false] ⟨(atC (cd Tryz.f97) [1,1,1,0,1,0,0,1,0,0,1,1]),[(0,AV.vec fa 1 (us a)),(1,AV.vec fb 1 (us b)),(5,vi i),(44,vb (decide (a.getD i.toNat default>b.getD i.toNat default)))],[],_,[((us a).get?Internal i.toNat=some (vu (a.getD i.toNat default))),((us b).get?Internal i.toNat=some (vu (b.getD i.toNat default)))],_⟩ (by kernel_rfl) (bc (Zak (fun h=>d13 (Zac.1 h))) (bc (Zac.2 k4) (bc (i15.2 k7) (bc (Zac.2 k4) (bc (i17.2 k11) b0))))) (qc (Zat k7) (qc (Zat k11) q0)) c0 ?_
   rcases xq H with ⟨d19,H⟩|⟨d19,H⟩
   ·exact Zas (G:=Zae kp97 [] []) 1000 [true] (vi 1) (by kernel_rfl) (bc (Zam (Zac.2 d19)) b0) q0 c0 H
   ·obtain ⟨k20,H⟩:=H
    have w21:wi (i-1)=i-1:=wI64 k20
    exact Zaf (G:=Zae kp97 [] []) 1000 [false] ⟨(atC (cd Tryz.f97) [1,1,1,0,1,0,0]),[(0,AV.vec fa 1 (us a)),(1,AV.vec fb 1 (us b)),(5,vi (wi (i-1)))],[],_,[],_⟩ (by kernel_rfl) (bc (Zak (fun h=>d19 (Zac.1 h))) b0) q0 c0 (by (try rw [w21]);all_goals exact H)
 ·exact Zas (G:=Zae kp97 [] []) 1000 [false] (vi 0) (by kernel_rfl) (bc (Zak (fun h=>d2 (Zac.1 h))) b0) q0 c0 H
theorem vPlus (fa fb:Bool) (a b:List Int)  (dq:AV) (H :
  (((↑a.length:Int)<(↑b.length:Int))->(-9223372036854775808<=(↑b.length:Int)+1/\(↑b.length:Int)+1<=9223372036854775807) /\
   (0<=(↑b.length:Int)+1) /\
   (((↑b.length:Int)+1)*4<=1099511627776) /\
   ((↑b.length:Int)+1<=1099511627776) /\
   Wp M1 (.run fi141 (atC (cd Tryz.f141) [1,1,1,1,0,1,0,0]) [(1,AV.vec fa 1 (us a)),(5,AV.row 0 0),(6,vu 0),(20,AV.vec fb 1 (us b)),(21,vi (↑b.length:Int)),(22,vi 0)] [{ elems:=[],es:=1,ver:=0,frozen:=false,clean:=true }]) (Zag dq)) /\
  (¬((↑a.length:Int)<(↑b.length:Int))->(-9223372036854775808<=(↑a.length:Int)+1/\(↑a.length:Int)+1<=9223372036854775807) /\
   (0<=(↑a.length:Int)+1) /\
   (((↑a.length:Int)+1)*4<=1099511627776) /\
   ((↑a.length:Int)+1<=1099511627776) /\
   Wp M1 (.run fi141 (atC (cd Tryz.f141) [1,1,1,1,0,1,0,0]) [(1,AV.vec fb 1 (us b)),(5,AV.row 0 0),(6,vu 0),(20,AV.vec fa 1 (us a)),(21,vi (↑a.length:Int)),(22,vi 0)] [{ elems:=[],es:=1,ver:=0,frozen:=false,clean:=true }]) (Zag dq))) :
 vPlus_at fa fb a b (Zag dq):=by
 unfold vPlus_at
 have w1:(us a).length=a.length:=List.length_map ..
 have w2:(us b).length=b.length:=List.length_map ..
 have i3:(decide ((↑(us a).length:Int)<(↑(us b).length:Int)))=true ↔ ((↑a.length:Int)<(↑b.length:Int)):=(by (try rw [w1]);(try rw [w2]);all_goals exact Zac)
 rcases xq H with ⟨d4,H⟩|⟨d4,H⟩
 ·obtain ⟨k5,H⟩:=H
  have w6:wi ((↑b.length:Int)+1)=(↑b.length:Int)+1:=wI64 k5
  have i7:(decide (0<=wi ((↑(us b).length:Int)+1)))=true ↔ (0<=(↑b.length:Int)+1):=(by (try rw [w2]);(try rw [w6]);all_goals exact Zac)
  obtain ⟨k8,H⟩:=H
  have i9:(decide (wi ((↑(us b).length:Int)+1)*4<=1099511627776))=true ↔ (((↑b.length:Int)+1)*4<=1099511627776):=(by (try rw [w2]);(try rw [w6]);all_goals exact Zac)
  obtain ⟨k10,H⟩:=H
  have i11:(decide (wi ((↑(us b).length:Int)+1)<=1099511627776))=true ↔ ((↑b.length:Int)+1<=1099511627776):=(by (try rw [w2]);(try rw [w6]);all_goals exact Zac)
  obtain ⟨k12,H⟩:=H
  have w13:[]=us []:=rfl
  exact Zaf (G:=Zae kp141 [] []) 1000 [true] ⟨(atC (cd Tryz.f141) [1,1,1,1,0,1,0,0]),[(1,AV.vec fa 1 (us a)),(5,AV.row 0 0),(6,vu 0),(20,AV.vec fb 1 (us b)),(21,vi (↑(us b).length:Int)),(22,vi 0)],[⟨[],1,0,false,true⟩],_,[],_⟩ (by kernel_rfl) (bc (Zam (i3.2 d4)) (bc rfl (bc (i7.2 k8) (bc (i9.2 k10) (bc (i11.2 k12) b0))))) q0 c0 (by (try rw [w2]);(try rw [w13]);all_goals exact H)
 ·obtain ⟨k14,H⟩:=H
  have w15:wi ((↑a.length:Int)+1)=(↑a.length:Int)+1:=wI64 k14
  have i16:(decide (0<=wi ((↑(us a).length:Int)+1)))=true ↔ (0<=(↑a.length:Int)+1):=(by (try rw [w1]);(try rw [w15]);all_goals exact Zac)
  obtain ⟨k17,H⟩:=H
  have i18:(decide (wi ((↑(us a).length:Int)+1)*4<=1099511627776))=true ↔ (((↑a.length:Int)+1)*4<=1099511627776):=(by (try rw [w1]);(try rw [w15]);all_goals exact Zac)
  obtain ⟨k19,H⟩:=H
  have i20:(decide (wi ((↑(us a).length:Int)+1)<=1099511627776))=true ↔ ((↑a.length:Int)+1<=1099511627776):=(by (try rw [w1]);(try rw [w15]);all_goals exact Zac)
  obtain ⟨k21,H⟩:=H
  have w22:[]=us []:=rfl
  exact Zaf (G:=Zae kp141 [] []) 1000 [false] ⟨(atC (cd Tryz.f141) [1,1,1,1,0,1,0,0]),[(1,AV.vec fb 1 (us b)),(5,AV.row 0 0),(6,vu 0),(20,AV.vec fa 1 (us a)),(21,vi (↑(us a).length:Int)),(22,vi 0)],[⟨[],1,0,false,true⟩],_,[],_⟩ (by kernel_rfl) (bc (Zak (fun h=>d4 (i3.1 h))) (bc rfl (bc (i16.2 k17) (bc (i18.2 k19) (bc (i20.2 k21) b0))))) q0 c0 (by (try rw [w1]);(try rw [w22]);all_goals exact H)
theorem vPlusA (fb fx:Bool) (b x o:List Int) (c n i:Int) (v:Nat)  (dq:AV) (H :
  ((i<n)->(0<=i) /\
   (i.toNat<x.length) /\
   (0<=x.getD i.toNat default+c/\x.getD i.toNat default+c<=4294967295) /\
   ((i<(↑b.length:Int))->(i.toNat<b.length) /\
    (0<=x.getD i.toNat default+c+b.getD i.toNat default/\x.getD i.toNat default+c+b.getD i.toNat default<=4294967295) /\
    ((x.getD i.toNat default+c+b.getD i.toNat default>=1000000000)->(0<=x.getD i.toNat default+c+b.getD i.toNat default-1000000000/\x.getD i.toNat default+c+b.getD i.toNat default-1000000000<=4294967295) /\
     ((o.length+1)*4<=1099511627776) /\
     (-9223372036854775808<=i+1/\i+1<=9223372036854775807) /\
     Zch fb fx b x (o++[x.getD i.toNat default+c+b.getD i.toNat default-1000000000]) 1 n (i+1) (v+1) (Zag dq)) /\
    (¬(x.getD i.toNat default+c+b.getD i.toNat default>=1000000000)->((o.length+1)*4<=1099511627776) /\
     (-9223372036854775808<=i+1/\i+1<=9223372036854775807) /\
     Zch fb fx b x (o++[x.getD i.toNat default+c+b.getD i.toNat default]) 0 n (i+1) (v+1) (Zag dq))) /\
   (¬(i<(↑b.length:Int))->((x.getD i.toNat default+c>=1000000000)->(0<=x.getD i.toNat default+c-1000000000/\x.getD i.toNat default+c-1000000000<=4294967295) /\
     ((o.length+1)*4<=1099511627776) /\
     (-9223372036854775808<=i+1/\i+1<=9223372036854775807) /\
     Zch fb fx b x (o++[x.getD i.toNat default+c-1000000000]) 1 n (i+1) (v+1) (Zag dq)) /\
    (¬(x.getD i.toNat default+c>=1000000000)->((o.length+1)*4<=1099511627776) /\
     (-9223372036854775808<=i+1/\i+1<=9223372036854775807) /\
     Zch fb fx b x (o++[x.getD i.toNat default+c]) 0 n (i+1) (v+1) (Zag dq)))) /\
  (¬(i<n)->((o.length+1)*4<=1099511627776) /\
   Weak (vf (us (o++[c]))) dq)) :
 Zch fb fx b x o c n i v (Zag dq):=by
 unfold Zch
 rcases xq H with ⟨d2,H⟩|⟨d2,H⟩
 ·obtain ⟨k4,H⟩:=H
  have w5:(us x).length=x.length:=List.length_map ..
  have i6:(decide (i.toNat<(us x).length))=true ↔ (i.toNat<x.length):=(by (try rw [w5]);all_goals exact Zac)
  obtain ⟨k7,k8,H⟩:=H
  have w9:wv (x.getD i.toNat default+c)=x.getD i.toNat default+c:=wU32 k8
  have w10:(us b).length=b.length:=List.length_map ..
  have i11:(decide (i<(↑(us b).length:Int)))=true ↔ (i<(↑b.length:Int)):=(by (try rw [w10]);all_goals exact Zac)
  refine Zaf (G:=Zae kp141 [(7,2,.elem (vu (x.getD i.toNat default)))] []) 14 [true] ⟨(atC (cd Tryz.f141) [1,1,1,1,0,1,0,0,1,1,0,0,1,1,0,1]),[(1,AV.vec fb 1 (us b)),(5,AV.row 0 v),(7,vi i),(8,vu (wv (x.getD i.toNat default+c))),(20,AV.vec fx 1 (us x)),(21,vi n),(22,vi i),(33,vb (decide (i<(↑(us b).length:Int))))],[⟨us o,1,v,false,true⟩],_,[((us x).get?Internal i.toNat=some (vu (x.getD i.toNat default)))],_⟩ (by kernel_rfl) (bc (Zam (Zac.2 d2)) (bc (Zac.2 k4) (bc (i6.2 k7) b0))) (qc (Zat k7) q0) c0 ?_
  rcases xq H with ⟨d12,H⟩|⟨d12,H⟩
  ·have i14:(decide (i.toNat<(us b).length))=true ↔ (i.toNat<b.length):=(by (try rw [w10]);all_goals exact Zac)
   obtain ⟨k15,k16,H⟩:=H
   have w17:wv (x.getD i.toNat default+c+b.getD i.toNat default)=x.getD i.toNat default+c+b.getD i.toNat default:=wU32 k16
   have i18:(decide (wv (wv (x.getD i.toNat default+c)+b.getD i.toNat default)>=1000000000))=true ↔ (x.getD i.toNat default+c+b.getD i.toNat default>=1000000000):=(by (try rw [w9]);(try rw [w17]);all_goals exact Zac)
   refine Zaf (G:=Zae kp141 [(10,4,.elem (vu (b.getD i.toNat default)))] []) 7 [true] ⟨(atC (cd Tryz.f141) [1,1,1,1,0,1,0,0,1,1,0,0,1,1,1,1,0,1]),[(1,AV.vec fb 1 (us b)),(5,AV.row 0 v),(6,vu 0),(8,vu (wv (wv (x.getD i.toNat default+c)+b.getD i.toNat default))),(20,AV.vec fx 1 (us x)),(21,vi n),(22,vi i),(41,vb (decide (wv (wv (x.getD i.toNat default+c)+b.getD i.toNat default)>=1000000000)))],[⟨us o,1,v,false,true⟩],_,[((us b).get?Internal i.toNat=some (vu (b.getD i.toNat default)))],_⟩ (by kernel_rfl) (bc (Zam (i11.2 d12)) (bc (Zac.2 k4) (bc (i14.2 k15) b0))) (qc (Zat k15) q0) c0 ?_
   rcases xq H with ⟨d19,H⟩|⟨d19,H⟩
   ·obtain ⟨k20,H⟩:=H
    have w21:wv (x.getD i.toNat default+c+b.getD i.toNat default-1000000000)=x.getD i.toNat default+c+b.getD i.toNat default-1000000000:=wU32 k20
    have w22:(us o).length=o.length:=List.length_map ..
    have i23:(decide (((us o).length+1)*4<=1099511627776))=true ↔ ((o.length+1)*4<=1099511627776):=(by (try rw [w9]);(try rw [w17]);(try rw [w21]);(try rw [w22]);all_goals exact Zac)
    obtain ⟨k24,H⟩:=H
    have w25:us o++[vu (x.getD i.toNat default+c+b.getD i.toNat default-1000000000)]=us (o++[x.getD i.toNat default+c+b.getD i.toNat default-1000000000]):=(ZdZ rfl rfl)
    obtain ⟨k26,H⟩:=H
    have w27:wi (i+1)=i+1:=wI64 k26
    exact Zaf (G:=Zae kp141 [] []) 1000 [true] ⟨(atC (cd Tryz.f141) [1,1,1,1,0,1,0,0]),[(1,AV.vec fb 1 (us b)),(5,AV.row 0 (v+1)),(6,vu 1),(20,AV.vec fx 1 (us x)),(21,vi n),(22,vi (wi (i+1)))],[⟨us o++[vu (wv (wv (wv (x.getD i.toNat default+c)+b.getD i.toNat default)-1000000000))],1,v+1,false,true⟩],[(decide (wv (wv (x.getD i.toNat default+c)+b.getD i.toNat default)>=1000000000))==true,v==v,decide (((us o).length+1)*4<=1099511627776)],[],_⟩ (by kernel_rfl) (bc (Zam (i18.2 d19)) (bc (beq_self_eq_true _) (bc (i23.2 k24) b0))) q0 c0 (by (try rw [w9]);(try rw [w17]);(try rw [w21]);(try rw [w25]);(try rw [w27]);all_goals exact H)
   ·have w28:(us o).length=o.length:=List.length_map ..
    have i29:(decide (((us o).length+1)*4<=1099511627776))=true ↔ ((o.length+1)*4<=1099511627776):=(by (try rw [w9]);(try rw [w17]);(try rw [w28]);all_goals exact Zac)
    obtain ⟨k30,H⟩:=H
    have w31:us o++[vu (x.getD i.toNat default+c+b.getD i.toNat default)]=us (o++[x.getD i.toNat default+c+b.getD i.toNat default]):=(ZdZ rfl rfl)
    obtain ⟨k32,H⟩:=H
    have w33:wi (i+1)=i+1:=wI64 k32
    exact Zaf (G:=Zae kp141 [] []) 1000 [false] ⟨(atC (cd Tryz.f141) [1,1,1,1,0,1,0,0]),[(1,AV.vec fb 1 (us b)),(5,AV.row 0 (v+1)),(6,vu 0),(20,AV.vec fx 1 (us x)),(21,vi n),(22,vi (wi (i+1)))],[⟨us o++[vu (wv (wv (x.getD i.toNat default+c)+b.getD i.toNat default))],1,v+1,false,true⟩],[(decide (wv (wv (x.getD i.toNat default+c)+b.getD i.toNat default)>=1000000000))==false,v==v,decide (((us o).length+1)*4<=1099511627776)],[],_⟩ (by kernel_rfl) (bc (Zak (fun h=>d19 (i18.1 h))) (bc (beq_self_eq_true _) (bc (i29.2 k30) b0))) q0 c0 (by (try rw [w9]);(try rw [w17]);(try rw [w31]);(try rw [w33]);all_goals exact H)
  ·have i34:(decide (wv (x.getD i.toNat default+c)>=1000000000))=true ↔ (x.getD i.toNat default+c>=1000000000):=(by (try rw [w9]);all_goals exact Zac)
   rcases xq H with ⟨d35,H⟩|⟨d35,H⟩
   ·obtain ⟨k36,H⟩:=H
    have w37:wv (x.getD i.toNat default+c-1000000000)=x.getD i.toNat default+c-1000000000:=wU32 k36
    have w38:(us o).length=o.length:=List.length_map ..
    have i39:(decide (((us o).length+1)*4<=1099511627776))=true ↔ ((o.length+1)*4<=1099511627776):=(by (try rw [w9]);(try rw [w37]);(try rw [w38]);all_goals exact Zac)
    obtain ⟨k40,H⟩:=H
    have w41:us o++[vu (x.getD i.toNat default+c-1000000000)]=us (o++[x.getD i.toNat default+c-1000000000]):=(ZdZ rfl rfl)
    obtain ⟨k42,H⟩:=H
    have w43:wi (i+1)=i+1:=wI64 k42
    exact Zaf (G:=Zae kp141 [] []) 1000 [false,true] ⟨(atC (cd Tryz.f141) [1,1,1,1,0,1,0,0]),[(1,AV.vec fb 1 (us b)),(5,AV.row 0 (v+1)),(6,vu 1),(20,AV.vec fx 1 (us x)),(21,vi n),(22,vi (wi (i+1)))],[⟨us o++[vu (wv (wv (x.getD i.toNat default+c)-1000000000))],1,v+1,false,true⟩],[(decide (i<(↑(us b).length:Int)))==false,(decide (wv (x.getD i.toNat default+c)>=1000000000))==true,v==v,decide (((us o).length+1)*4<=1099511627776)],[],_⟩ (by kernel_rfl) (bc (Zak (fun h=>d12 (i11.1 h))) (bc (Zam (i34.2 d35)) (bc (beq_self_eq_true _) (bc (i39.2 k40) b0)))) q0 c0 (by (try rw [w9]);(try rw [w37]);(try rw [w41]);(try rw [w43]);all_goals exact H)
   ·have w44:(us o).length=o.length:=List.length_map ..
    have i45:(decide (((us o).length+1)*4<=1099511627776))=true ↔ ((o.length+1)*4<=1099511627776):=(by (try rw [w9]);(try rw [w44]);all_goals exact Zac)
    obtain ⟨k46,H⟩:=H
    have w47:us o++[vu (x.getD i.toNat default+c)]=us (o++[x.getD i.toNat default+c]):=(ZdZ rfl rfl)
    obtain ⟨k48,H⟩:=H
    have w49:wi (i+1)=i+1:=wI64 k48
    exact Zaf (G:=Zae kp141 [] []) 1000 [false,false] ⟨(atC (cd Tryz.f141) [1,1,1,1,0,1,0,0]),[(1,AV.vec fb 1 (us b)),(5,AV.row 0 (v+1)),(6,vu 0),(20,AV.vec fx 1 (us x)),(21,vi n),(22,vi (wi (i+1)))],[⟨us o++[vu (wv (x.getD i.toNat default+c))],1,v+1,false,true⟩],[(decide (i<(↑(us b).length:Int)))==false,(decide (wv (x.getD i.toNat default+c)>=1000000000))==false,v==v,decide (((us o).length+1)*4<=1099511627776)],[],_⟩ (by kernel_rfl) (bc (Zak (fun h=>d12 (i11.1 h))) (bc (Zak (fun h=>d35 (i34.1 h))) (bc (beq_self_eq_true _) (bc (i45.2 k46) b0)))) q0 c0 (by (try rw [w9]);(try rw [w47]);(try rw [w49]);all_goals exact H)
 ·have w50:(us o).length=o.length:=List.length_map ..
  have i51:(decide (((us o).length+1)*4<=1099511627776))=true ↔ ((o.length+1)*4<=1099511627776):=(by (try rw [w50]);all_goals exact Zac)
  obtain ⟨k52,H⟩:=H
  have w53:us o++[vu c]=us (o++[c]):=(ZdZ rfl rfl)
  exact ZaB (G:=Zae kp141 [] []) 1000 [false] (k:=((atC (cd Tryz.f141) [1,1,1,1,1,1])).tail) (env':=[(4,AV.row 0 (v+1))]) (L':=[⟨us o++[vu c],1,v+1,false,true⟩]) (asm:=[(decide (i<n))==false,v==v,decide (((us o).length+1)*4<=1099511627776)]) (eqs:=[]) (calls:=[]) (AV.row 0 (v+1)) (by kernel_rfl) (by kernel_rfl) (Zaa (Zak (fun h=>d2 (Zac.1 h))) (Zaa (beq_self_eq_true _) (Zaa (i51.2 k52) Zal))) Zao Zap (ZbI (d:=(vf (us o++[vu c]))) (bs:=[v+1==v+1]) (by kernel_rfl) (by kernel_rfl) (Zaa (beq_self_eq_true _) Zal) (by kernel_rfl) (by (try rw [w53]);all_goals exact H))
theorem vMinus (fa fb:Bool) (a b:List Int)  (dq:AV) (H :
  (0<=(↑a.length:Int)) /\
  ((↑a.length:Int)*4<=1099511627776) /\
  ((↑a.length:Int)<=1099511627776) /\
  Zbv fb fa b a (List.replicate (↑a.length:Int).toNat (0:Int)) 0 ((↑a.length:Int)) 0 (Zag dq)) :
 vMinus_at fa fb a b (Zag dq):=by
 unfold vMinus_at
 have w1:(us a).length=a.length:=List.length_map ..
 have i2:(decide (0<=(↑(us a).length:Int)))=true ↔ (0<=(↑a.length:Int)):=(by (try rw [w1]);all_goals exact Zac)
 obtain ⟨k3,H⟩:=H
 have i4:(decide ((↑(us a).length:Int)<=(↑(us a).length:Int)))=true ↔ ((↑a.length:Int)<=(↑a.length:Int)):=(by (try rw [w1]);all_goals exact Zac)
 have i5:(decide ((↑(us a).length:Int)*4<=1099511627776))=true ↔ ((↑a.length:Int)*4<=1099511627776):=(by (try rw [w1]);all_goals exact Zac)
 obtain ⟨k6,H⟩:=H
 have i7:(decide ((↑(us a).length:Int)<=1099511627776))=true ↔ ((↑a.length:Int)<=1099511627776):=(by (try rw [w1]);all_goals exact Zac)
 obtain ⟨k8,H⟩:=H
 have w9:List.replicate (↑a.length:Int).toNat (vu 0)=us (List.replicate (↑a.length:Int).toNat (0:Int)):=(ZdY rfl)
 exact Zaf (G:=Zae kp142 [] []) 1000 [] ⟨(atC (cd Tryz.f142) [1,1,1,0,1,0,0]),[(1,AV.vec fb 1 (us b)),(5,AV.row 0 0),(6,vu 0),(13,AV.vec fa 1 (us a)),(14,vi (↑(us a).length:Int)),(15,vi 0)],[⟨List.replicate (↑(us a).length:Int).toNat (vu 0),1,0,false,true⟩],[decide (0<=(↑(us a).length:Int)),decide ((↑(us a).length:Int)<=(↑(us a).length:Int)),decide ((↑(us a).length:Int)*4<=1099511627776),decide ((↑(us a).length:Int)<=1099511627776)],[],_⟩ (by kernel_rfl) (bc (i2.2 k3) (bc (i4.2 (by omega)) (bc (i5.2 k6) (bc (i7.2 k8) b0)))) q0 c0 (by (try rw [w1]);(try rw [w9]);all_goals exact H)
theorem vMinusA (fb fx:Bool) (b x o:List Int) (c n i:Int)  (dq:AV) (H :
  ((i<n)->(0<=i) /\
   (i.toNat<x.length) /\
   ((i<(↑b.length:Int))->(i.toNat<b.length) /\
    (0<=c+b.getD i.toNat default/\c+b.getD i.toNat default<=4294967295) /\
    ((x.getD i.toNat default<c+b.getD i.toNat default)->(0<=x.getD i.toNat default+1000000000/\x.getD i.toNat default+1000000000<=4294967295) /\
     (i.toNat<o.length) /\
     (0<=x.getD i.toNat default+1000000000-(c+b.getD i.toNat default)/\x.getD i.toNat default+1000000000-(c+b.getD i.toNat default)<=4294967295) /\
     (-9223372036854775808<=i+1/\i+1<=9223372036854775807) /\
     Zbv fb fx b x (o.set i.toNat (x.getD i.toNat default+1000000000-(c+b.getD i.toNat default))) 1 n (i+1) (Zag dq)) /\
    (¬(x.getD i.toNat default<c+b.getD i.toNat default)->(i.toNat<o.length) /\
     (0<=x.getD i.toNat default-(c+b.getD i.toNat default)/\x.getD i.toNat default-(c+b.getD i.toNat default)<=4294967295) /\
     (-9223372036854775808<=i+1/\i+1<=9223372036854775807) /\
     Zbv fb fx b x (o.set i.toNat (x.getD i.toNat default-(c+b.getD i.toNat default))) 0 n (i+1) (Zag dq))) /\
   (¬(i<(↑b.length:Int))->((x.getD i.toNat default<c)->(0<=x.getD i.toNat default+1000000000/\x.getD i.toNat default+1000000000<=4294967295) /\
     (i.toNat<o.length) /\
     (0<=x.getD i.toNat default+1000000000-c/\x.getD i.toNat default+1000000000-c<=4294967295) /\
     (-9223372036854775808<=i+1/\i+1<=9223372036854775807) /\
     Zbv fb fx b x (o.set i.toNat (x.getD i.toNat default+1000000000-c)) 1 n (i+1) (Zag dq)) /\
    (¬(x.getD i.toNat default<c)->(i.toNat<o.length) /\
     (0<=x.getD i.toNat default-c/\x.getD i.toNat default-c<=4294967295) /\
     (-9223372036854775808<=i+1/\i+1<=9223372036854775807) /\
     Zbv fb fx b x (o.set i.toNat (x.getD i.toNat default-c)) 0 n (i+1) (Zag dq)))) /\
  (¬(i<n)->Weak (vf (us o)) dq)) :
 Zbv fb fx b x o c n i (Zag dq):=by
 unfold Zbv
 rcases xq H with ⟨d2,H⟩|⟨d2,H⟩
 ·obtain ⟨k4,H⟩:=H
  have w5:(us x).length=x.length:=List.length_map ..
  have i6:(decide (i.toNat<(us x).length))=true ↔ (i.toNat<x.length):=(by (try rw [w5]);all_goals exact Zac)
  obtain ⟨k7,H⟩:=H
  have w8:(us b).length=b.length:=List.length_map ..
  have i9:(decide (i<(↑(us b).length:Int)))=true ↔ (i<(↑b.length:Int)):=(by (try rw [w8]);all_goals exact Zac)
  refine Zaf (G:=Zae kp142 [(5,2,.elem (vu (x.getD i.toNat default)))] []) 14 [true] ⟨(atC (cd Tryz.f142) [1,1,1,0,1,0,0,1,1,0,0,1,1,0,1]),[(1,AV.vec fb 1 (us b)),(5,AV.row 0 0),(7,vi i),(8,vu (x.getD i.toNat default)),(9,vu c),(13,AV.vec fx 1 (us x)),(14,vi n),(15,vi i),(24,vb (decide (i<(↑(us b).length:Int))))],[⟨us o,1,0,false,true⟩],_,[((us x).get?Internal i.toNat=some (vu (x.getD i.toNat default)))],_⟩ (by kernel_rfl) (bc (Zam (Zac.2 d2)) (bc (Zac.2 k4) (bc (i6.2 k7) b0))) (qc (Zat k7) q0) c0 ?_
  rcases xq H with ⟨d10,H⟩|⟨d10,H⟩
  ·have i12:(decide (i.toNat<(us b).length))=true ↔ (i.toNat<b.length):=(by (try rw [w8]);all_goals exact Zac)
   obtain ⟨k13,k14,H⟩:=H
   have w15:wv (c+b.getD i.toNat default)=c+b.getD i.toNat default:=wU32 k14
   have i16:(decide (x.getD i.toNat default<wv (c+b.getD i.toNat default)))=true ↔ (x.getD i.toNat default<c+b.getD i.toNat default):=(by (try rw [w15]);all_goals exact Zac)
   refine Zaf (G:=Zae kp142 [(8,4,.elem (vu (b.getD i.toNat default)))] []) 7 [true] ⟨(atC (cd Tryz.f142) [1,1,1,0,1,0,0,1,1,0,0,1,1,1,1,0,1]),[(1,AV.vec fb 1 (us b)),(5,AV.row 0 0),(6,vu 0),(7,vi i),(8,vu (x.getD i.toNat default)),(9,vu (wv (c+b.getD i.toNat default))),(13,AV.vec fx 1 (us x)),(14,vi n),(15,vi i),(33,vb (decide (x.getD i.toNat default<wv (c+b.getD i.toNat default))))],[⟨us o,1,0,false,true⟩],_,[((us b).get?Internal i.toNat=some (vu (b.getD i.toNat default)))],_⟩ (by kernel_rfl) (bc (Zam (i9.2 d10)) (bc (Zac.2 k4) (bc (i12.2 k13) b0))) (qc (Zat k13) q0) c0 ?_
   rcases xq H with ⟨d17,H⟩|⟨d17,H⟩
   ·obtain ⟨k18,H⟩:=H
    have w19:wv (x.getD i.toNat default+1000000000)=x.getD i.toNat default+1000000000:=wU32 k18
    have w21:(us o).length=o.length:=List.length_map ..
    have i22:(decide (i.toNat<(us o).length))=true ↔ (i.toNat<o.length):=(by (try rw [w21]);all_goals exact Zac)
    obtain ⟨k23,k24,H⟩:=H
    have w25:wv (x.getD i.toNat default+1000000000-(c+b.getD i.toNat default))=x.getD i.toNat default+1000000000-(c+b.getD i.toNat default):=wU32 k24
    have w26:(us o).set i.toNat (vu (x.getD i.toNat default+1000000000-(c+b.getD i.toNat default)))=us (o.set i.toNat (x.getD i.toNat default+1000000000-(c+b.getD i.toNat default))):=(Zbf rfl rfl)
    obtain ⟨k27,H⟩:=H
    have w28:wi (i+1)=i+1:=wI64 k27
    exact Zaf (G:=Zae kp142 [(12,6,.elem (vu (o.getD i.toNat default)))] []) 1000 [true] ⟨(atC (cd Tryz.f142) [1,1,1,0,1,0,0]),[(1,AV.vec fb 1 (us b)),(5,AV.row 0 0),(6,vu 1),(13,AV.vec fx 1 (us x)),(14,vi n),(15,vi (wi (i+1)))],[⟨(us o).set i.toNat (vu (wv (wv (x.getD i.toNat default+1000000000)-wv (c+b.getD i.toNat default)))),1,0,false,true⟩],_,[((us o).get?Internal i.toNat=some (vu (o.getD i.toNat default)))],_⟩ (by kernel_rfl) (bc (Zam (i16.2 d17)) (bc rfl (bc (Zac.2 k4) (bc (i22.2 k23) (bc rfl b0))))) (qc (Zat k23) q0) c0 (by (try rw [w15]);(try rw [w19]);(try rw [w25]);(try rw [w26]);(try rw [w28]);all_goals exact H)
   ·have w30:(us o).length=o.length:=List.length_map ..
    have i31:(decide (i.toNat<(us o).length))=true ↔ (i.toNat<o.length):=(by (try rw [w30]);all_goals exact Zac)
    obtain ⟨k32,k33,H⟩:=H
    have w34:wv (x.getD i.toNat default-(c+b.getD i.toNat default))=x.getD i.toNat default-(c+b.getD i.toNat default):=wU32 k33
    have w35:(us o).set i.toNat (vu (x.getD i.toNat default-(c+b.getD i.toNat default)))=us (o.set i.toNat (x.getD i.toNat default-(c+b.getD i.toNat default))):=(Zbf rfl rfl)
    obtain ⟨k36,H⟩:=H
    have w37:wi (i+1)=i+1:=wI64 k36
    exact Zaf (G:=Zae kp142 [(12,6,.elem (vu (o.getD i.toNat default)))] []) 1000 [false] ⟨(atC (cd Tryz.f142) [1,1,1,0,1,0,0]),[(1,AV.vec fb 1 (us b)),(5,AV.row 0 0),(6,vu 0),(13,AV.vec fx 1 (us x)),(14,vi n),(15,vi (wi (i+1)))],[⟨(us o).set i.toNat (vu (wv (x.getD i.toNat default-wv (c+b.getD i.toNat default)))),1,0,false,true⟩],_,[((us o).get?Internal i.toNat=some (vu (o.getD i.toNat default)))],_⟩ (by kernel_rfl) (bc (Zak (fun h=>d17 (i16.1 h))) (bc rfl (bc (Zac.2 k4) (bc (i31.2 k32) (bc rfl b0))))) (qc (Zat k32) q0) c0 (by (try rw [w15]);(try rw [w34]);(try rw [w35]);(try rw [w37]);all_goals exact H)
  ·rcases xq H with ⟨d39,H⟩|⟨d39,H⟩
   ·obtain ⟨k40,H⟩:=H
    have w41:wv (x.getD i.toNat default+1000000000)=x.getD i.toNat default+1000000000:=wU32 k40
    have w43:(us o).length=o.length:=List.length_map ..
    have i44:(decide (i.toNat<(us o).length))=true ↔ (i.toNat<o.length):=(by (try rw [w43]);all_goals exact Zac)
    obtain ⟨k45,k46,H⟩:=H
    have w47:wv (x.getD i.toNat default+1000000000-c)=x.getD i.toNat default+1000000000-c:=wU32 k46
    have w48:(us o).set i.toNat (vu (x.getD i.toNat default+1000000000-c))=us (o.set i.toNat (x.getD i.toNat default+1000000000-c)):=(Zbf rfl rfl)
    obtain ⟨k49,H⟩:=H
    have w50:wi (i+1)=i+1:=wI64 k49
    exact Zaf (G:=Zae kp142 [(12,6,.elem (vu (o.getD i.toNat default)))] []) 1000 [false,true] ⟨(atC (cd Tryz.f142) [1,1,1,0,1,0,0]),[(1,AV.vec fb 1 (us b)),(5,AV.row 0 0),(6,vu 1),(13,AV.vec fx 1 (us x)),(14,vi n),(15,vi (wi (i+1)))],[⟨(us o).set i.toNat (vu (wv (wv (x.getD i.toNat default+1000000000)-c))),1,0,false,true⟩],_,[((us o).get?Internal i.toNat=some (vu (o.getD i.toNat default)))],_⟩ (by kernel_rfl) (bc (Zak (fun h=>d10 (i9.1 h))) (bc (Zam (Zac.2 d39)) (bc rfl (bc (Zac.2 k4) (bc (i44.2 k45) (bc rfl b0)))))) (qc (Zat k45) q0) c0 (by (try rw [w41]);(try rw [w47]);(try rw [w48]);(try rw [w50]);all_goals exact H)
   ·have w52:(us o).length=o.length:=List.length_map ..
    have i53:(decide (i.toNat<(us o).length))=true ↔ (i.toNat<o.length):=(by (try rw [w52]);all_goals exact Zac)
    obtain ⟨k54,k55,H⟩:=H
    have w56:wv (x.getD i.toNat default-c)=x.getD i.toNat default-c:=wU32 k55
    have w57:(us o).set i.toNat (vu (x.getD i.toNat default-c))=us (o.set i.toNat (x.getD i.toNat default-c)):=(Zbf rfl rfl)
    obtain ⟨k58,H⟩:=H
    have w59:wi (i+1)=i+1:=wI64 k58
    exact Zaf (G:=Zae kp142 [(12,6,.elem (vu (o.getD i.toNat default)))] []) 1000 [false,false] ⟨(atC (cd Tryz.f142) [1,1,1,0,1,0,0]),[(1,AV.vec fb 1 (us b)),(5,AV.row 0 0),(6,vu 0),(13,AV.vec fx 1 (us x)),(14,vi n),(15,vi (wi (i+1)))],[⟨(us o).set i.toNat (vu (wv (x.getD i.toNat default-c))),1,0,false,true⟩],_,[((us o).get?Internal i.toNat=some (vu (o.getD i.toNat default)))],_⟩ (by kernel_rfl) (bc (Zak (fun h=>d10 (i9.1 h))) (bc (Zak (fun h=>d39 (Zac.1 h))) (bc rfl (bc (Zac.2 k4) (bc (i53.2 k54) (bc rfl b0)))))) (qc (Zat k54) q0) c0 (by (try rw [w56]);(try rw [w57]);(try rw [w59]);all_goals exact H)
 ·exact ZaB (G:=Zae kp142 [] []) 1000 [false] (k:=((atC (cd Tryz.f142) [1,1,1,1,1])).tail) (env':=[(4,AV.row 0 0)]) (L':=[⟨us o,1,0,false,true⟩]) (asm:=[(decide (i<n))==false]) (eqs:=[]) (calls:=[]) (AV.row 0 0) (by kernel_rfl) (by kernel_rfl) (Zaa (Zak (fun h=>d2 (Zac.1 h))) Zal) Zao Zap (ZbI (d:=(vf (us o))) (bs:=[0==0]) (by kernel_rfl) (by kernel_rfl) (Zaa (beq_self_eq_true _) Zal) (by kernel_rfl) H)
theorem vByWord (fa:Bool) (a:List Int) (d:Int)  (dq:AV) (H :
  (0<=(↑a.length:Int)) /\
  ((↑a.length:Int)*4<=1099511627776) /\
  ((↑a.length:Int)<=1099511627776) /\
  (-9223372036854775808<=(↑a.length:Int)-1/\(↑a.length:Int)-1<=9223372036854775807) /\
  Zb3 fa a (List.replicate (↑a.length:Int).toNat (0:Int)) d 0 ((↑a.length:Int)-1) (Zag dq)) :
 ZhA fa a d (Zag dq):=by
 unfold ZhA
 have w1:(us a).length=a.length:=List.length_map ..
 have i2:(decide (0<=(↑(us a).length:Int)))=true ↔ (0<=(↑a.length:Int)):=(by (try rw [w1]);all_goals exact Zac)
 obtain ⟨k3,H⟩:=H
 have i4:(decide ((↑(us a).length:Int)<=(↑(us a).length:Int)))=true ↔ ((↑a.length:Int)<=(↑a.length:Int)):=(by (try rw [w1]);all_goals exact Zac)
 have i5:(decide ((↑(us a).length:Int)*4<=1099511627776))=true ↔ ((↑a.length:Int)*4<=1099511627776):=(by (try rw [w1]);all_goals exact Zac)
 obtain ⟨k6,H⟩:=H
 have i7:(decide ((↑(us a).length:Int)<=1099511627776))=true ↔ ((↑a.length:Int)<=1099511627776):=(by (try rw [w1]);all_goals exact Zac)
 obtain ⟨k8,H⟩:=H
 have w9:List.replicate (↑a.length:Int).toNat (vu 0)=us (List.replicate (↑a.length:Int).toNat (0:Int)):=(ZdY rfl)
 obtain ⟨k10,H⟩:=H
 have w11:wi ((↑a.length:Int)-1)=(↑a.length:Int)-1:=wI64 k10
 exact Zaf (G:=Zae kp128 [] []) 1000 [] ⟨(atC (cd Tryz.f128) [1,1,1,0,1,0,0]),[(0,AV.vec fa 1 (us a)),(1,vu d),(6,AV.row 0 0),(7,vw 0),(8,vi (wi ((↑(us a).length:Int)-1)))],[⟨List.replicate (↑(us a).length:Int).toNat (vu 0),1,0,false,true⟩],[decide (0<=(↑(us a).length:Int)),decide ((↑(us a).length:Int)<=(↑(us a).length:Int)),decide ((↑(us a).length:Int)*4<=1099511627776),decide ((↑(us a).length:Int)<=1099511627776)],[],_⟩ (by kernel_rfl) (bc (i2.2 k3) (bc (i4.2 (by omega)) (bc (i5.2 k6) (bc (i7.2 k8) b0)))) q0 c0 (by (try rw [w1]);(try rw [w9]);(try rw [w11]);all_goals exact H)
theorem vByWordA (fa:Bool) (a o:List Int) (d r i:Int)  (dq:AV) (H :
  ((i>=0)->(0<=i) /\
   (i.toNat<a.length) /\
   (0<=r*1000000000/\r*1000000000<=18446744073709551615) /\
   (0<=a.getD i.toNat default/\a.getD i.toNat default<=18446744073709551615) /\
   (0<=r*1000000000+a.getD i.toNat default/\r*1000000000+a.getD i.toNat default<=18446744073709551615) /\
   (0<=d/\d<=18446744073709551615) /\
   (¬d=0) /\
   (i.toNat<o.length) /\
   (0<=(r*1000000000+a.getD i.toNat default).tdiv d/\(r*1000000000+a.getD i.toNat default).tdiv d<=18446744073709551615) /\
   (0<=(r*1000000000+a.getD i.toNat default).tdiv d/\(r*1000000000+a.getD i.toNat default).tdiv d<=4294967295) /\
   (-9223372036854775808<=i-1/\i-1<=9223372036854775807) /\
   Zb3 fa a (o.set i.toNat ((r*1000000000+a.getD i.toNat default).tdiv d)) d ((r*1000000000+a.getD i.toNat default).tmod d) (i-1) (Zag dq)) /\
  (¬(i>=0)->(0<=r/\r<=4294967295) /\
   Weak (tu [vf (us o),AV.vec true 1 [vu r]]) dq)) :
 Zb3 fa a o d r i (Zag dq):=by
 unfold Zb3
 rcases xq H with ⟨d2,H⟩|⟨d2,H⟩
 ·obtain ⟨k4,H⟩:=H
  have w5:(us a).length=a.length:=List.length_map ..
  have i6:(decide (i.toNat<(us a).length))=true ↔ (i.toNat<a.length):=(by (try rw [w5]);all_goals exact Zac)
  obtain ⟨k7,k8,H⟩:=H
  have w9:wu (r*1000000000)=r*1000000000:=wU64 k8
  obtain ⟨k10,H⟩:=H
  have w11:wu (a.getD i.toNat default)=a.getD i.toNat default:=wU64 k10
  obtain ⟨k12,H⟩:=H
  have w13:wu (r*1000000000+a.getD i.toNat default)=r*1000000000+a.getD i.toNat default:=wU64 k12
  obtain ⟨k14,H⟩:=H
  have w15:wu d=d:=wU64 k14
  have i16:(!wu d==0)=true ↔ (¬d=0):=(by (try rw [w15]);all_goals exact ZdC)
  obtain ⟨k17,H⟩:=H
  have i18:(!wu d==0)=true ↔ (¬d=0):=(by (try rw [w15]);all_goals exact ZdC)
  have w20:(us o).length=o.length:=List.length_map ..
  have i21:(decide (i.toNat<(us o).length))=true ↔ (i.toNat<o.length):=(by (try rw [w20]);all_goals exact Zac)
  obtain ⟨k22,k23,H⟩:=H
  have w24:wu ((r*1000000000+a.getD i.toNat default).tdiv d)=(r*1000000000+a.getD i.toNat default).tdiv d:=wU64 k23
  obtain ⟨k25,H⟩:=H
  have w26:wv ((r*1000000000+a.getD i.toNat default).tdiv d)=(r*1000000000+a.getD i.toNat default).tdiv d:=wU32 k25
  have w27:(us o).set i.toNat (vu ((r*1000000000+a.getD i.toNat default).tdiv d))=us (o.set i.toNat ((r*1000000000+a.getD i.toNat default).tdiv d)):=(Zbf rfl rfl)
  obtain ⟨k28,H⟩:=H
  have w29:wi (i-1)=i-1:=wI64 k28
  exact Zaf (G:=Zae kp128 [(6,5,.elem (vu (a.getD i.toNat default))),(7,12,.elem (vu (o.getD i.toNat default)))] []) 1000 [true] ⟨(atC (cd Tryz.f128) [1,1,1,0,1,0,0]),[(0,AV.vec fa 1 (us a)),(1,vu d),(6,AV.row 0 0),(7,vw ((wu (wu (r*1000000000)+wu (a.getD i.toNat default))).tmod (wu d))),(8,vi (wi (i-1)))],[⟨(us o).set i.toNat (vu (wv (wu ((wu (wu (r*1000000000)+wu (a.getD i.toNat default))).tdiv (wu d))))),1,0,false,true⟩],_,[((us a).get?Internal i.toNat=some (vu (a.getD i.toNat default))),((us o).get?Internal i.toNat=some (vu (o.getD i.toNat default)))],_⟩ (by kernel_rfl) (bc (Zam (Zac.2 d2)) (bc (Zac.2 k4) (bc (i6.2 k7) (bc (i16.2 k17) (bc (i18.2 k17) (bc rfl (bc (Zac.2 k4) (bc (i21.2 k22) (bc rfl b0))))))))) (qc (Zat k7) (qc (Zat k22) q0)) c0 (by (try rw [w9]);(try rw [w11]);(try rw [w13]);(try rw [w15]);(try rw [w24]);(try rw [w26]);(try rw [w27]);(try rw [w29]);all_goals exact H)
 ·obtain ⟨k30,H⟩:=H
  have w31:wv r=r:=wU32 k30
  exact ZaB (G:=Zae kp128 [] []) 1000 [false] (k:=((atC (cd Tryz.f128) [1,1,1,1,1])).tail) (env':=[(4,AV.row 0 0),(5,AV.vec true 1 [vu (wv r)])]) (L':=[⟨us o,1,0,false,true⟩]) (asm:=[(decide (i>=0))==false]) (eqs:=[]) (calls:=[]) (tu [AV.row 0 0,AV.vec true 1 [vu (wv r)]]) (by kernel_rfl) (by kernel_rfl) (Zaa (Zak (fun h=>d2 (Zac.1 h))) Zal) Zao Zap (ZbI (d:=(tu [vf (us o),AV.vec true 1 [vu (wv r)]])) (bs:=[0==0]) (by kernel_rfl) (by kernel_rfl) (Zaa (beq_self_eq_true _) Zal) (by kernel_rfl) (by (try rw [w31]);all_goals exact H))
end Go.Av

namespace Go.Av
open Go.Proofs
theorem Za5 (v i:Nat):v / 1000000000 ^ i / 1000000000=v / 1000000000 ^ (i+1):=by rw [Nat.div_div_eq_div_mul,Nat.pow_succ]
theorem ZaH {n v i:Nat} (h:N.fits n v) (hi:n<=i):v / 1000000000 ^ i=0:=Zdi.1 (ZaT h hi)
theorem ZgH {fa fb:Bool} {n v w:Nat} {dq:AV} (hn:n<=1000000) (hq:AV.int .i64 (N.sgnI ((v:Int)-w))=dq):∀ (k:Nat),k<=n->v / 1000000000 ^ k=w / 1000000000 ^ k->Zci fa fb (N.Zav n v) (N.Zav n w) ((k:Int)-1) (Zag dq)
 | 0,hk,he=>by
  have e:v=w:=by simpa using he
  refine vCompareA _ _ _ _ _ _ ⟨fun h=>by omega,fun _ => ?_⟩
  rw [<- hq,e]
  congr 1
  unfold N.sgnI
  rw [if_neg (by omega),if_neg (by omega)]
 | k+1,hk,he=>by
  have e1:(((k+1:Nat):Int)-1)=(k:Nat):=by omega
  rw [e1]
  refine vCompareA _ _ _ _ _ _ ⟨fun _ => ?_,fun h=>by omega⟩
  rw [Int.toNat_natCast,Zaw v (show k<n by omega),Zaw w (show k<n by omega),Zan,Zan]
  have s1:=ZaY v k
  have s2:=ZaY w k
  rw [<- he] at s2
  refine ⟨by omega,by omega,by omega,fun h => ?_,fun h=>⟨fun h2 => ?_,fun h2=>⟨by omega,?_⟩⟩⟩
  ·have:=Zf8 (v:=v) (w:=w) (i:=k) (by omega)
   rw [<- hq];congr 1
   unfold N.sgnI
   rw [if_pos (by omega)]
  ·have:=Zf8 (v:=w) (w:=v) (i:=k) (by omega)
   rw [<- hq];congr 1
   unfold N.sgnI
   rw [if_neg (by omega),if_pos (by omega)]
  ·exact ZgH hn hq k (by omega) (by omega)
theorem compareN (fa fb:Bool) (n v m w:Nat) (h:N.Zay n/\N.Zay m/\N.fits n v/\N.fits m w):Ev M1 (.pure 97 [usA fa (N.Zav n v),usA fb (N.Zav m w)]) (.int .i64 (N.sgnI ((v:Int)-w))) []:=by
 obtain ⟨h1,h2,h3,h4⟩:=h
 have c1:=Zaz.1 h3
 have c2:=Zaz.1 h4
 have h1':n<=1000000:=h1
 have h2':m<=1000000:=h2
 refine call97 (vCompare _ _ _ _ _ ⟨N.lim v,trimN fa n v ⟨h1,h3⟩,N.lim w,trimN fb m w ⟨h2,h4⟩,?_⟩)
 rw [ZaL,ZaL]
 refine ⟨fun h=>⟨fun k => ?_,fun k => ?_⟩,fun h=>⟨by omega,?_⟩⟩
 ·have:=cmp_len (v:=v) (w:=w) (by omega)
  congr 1
  unfold N.sgnI
  rw [if_pos (by omega)]
 ·have:=cmp_len (v:=w) (w:=v) (by omega)
  congr 1
  unfold N.sgnI
  rw [if_neg (by omega),if_pos (by omega)]
 ·have e:N.cnt w=N.cnt v:=by omega
  have hw:N.lim w=N.Zav (N.cnt v) w:=by unfold N.lim;rw [e]
  rw [hw]
  refine ZgH (by omega) rfl (N.cnt v) (Nat.le_refl _) ?_
  rw [ZaH (Zai v) (Nat.le_refl _),ZaH (Zai w) (by omega)]
theorem ev97 (fa fb:Bool) (v w:Int) (h:N.ok v/\N.ok w):Ev M1 (.pure 97 [usA fa (N.Zad v),usA fb (N.Zad w)]) (.int .i64 (N.sgnI ((v.natAbs:Int)-w.natAbs))) []:=compareN fa fb _ _ _ _ ⟨h.1,h.2,Zai _,Zai _⟩
theorem loopPlus {fb fx:Bool} {n m v w:Nat} {dq:AV} (hn:n<=1000000) (hmn:m<=n) (hv:N.fits n v) (hw:N.fits m w):∀ (k i:Nat) (o:List Int) (c:Nat) (r:Nat),i+k=n->c<=1->o.length<=1000000+i ->
  usA false (o++N.Zav (k+1) (v / 1000000000 ^ i+w / 1000000000 ^ i+c))=dq->Zch fb fx (N.Zav m w) (N.Zav n v) o c n i r (Zag dq)
 | 0,i,o,c,r,hi,hc,hol,hq=>by
  rw [ZaH hv (by omega),ZaH hw (by omega)] at hq
  have e:N.Zav 1 (0+0+c)=[(c:Int)]:=by simp [N.Zav];omega
  rw [Nat.zero_add,e] at hq
  exact vPlusA _ _ _ _ _ _ _ _ _ _ ⟨fun h=>by omega,fun _=>⟨by omega,by rw [<- hq];exact .refl _⟩⟩
 | k+1,i,o,c,r,hi,hc,hol,hq=>by
  have gx:=Zaw v (show i<n by omega)
  rw [plus_step,Za5,Za5] at hq
  have nxt:∀ (d:Int) (c':Nat),((v / 1000000000 ^ i % 1000000000+w / 1000000000 ^ i % 1000000000+c) % 1000000000:Nat)=d->(v / 1000000000 ^ i % 1000000000+w / 1000000000 ^ i % 1000000000+c) / 1000000000=c'->c'<=1->Zch fb fx (N.Zav m w) (N.Zav n v) (o++[d]) c' n ((i:Int)+1) (r+1) (Zag dq):=by
   intro d c' hd hc' hc1
   refine loopPlus hn hmn hv hw k (i+1) (o++[d]) c' (r+1) (by omega) hc1 (by simp;omega) ?_
   rw [<- hq,hd,hc',List.append_assoc];rfl
  refine vPlusA _ _ _ _ _ _ _ _ _ _ ⟨fun _ => ?_,fun h=>by omega⟩
  rw [Int.toNat_natCast,gx,Zan,Zan]
  by_cases him:i<m
  ·rw [Zaw w him]
   generalize v / 1000000000 ^ i=V at nxt
   generalize w / 1000000000 ^ i=W at nxt
   refine ⟨by omega,by omega,by omega,fun _=>⟨by omega,by omega,fun h=>⟨by omega,by omega,by omega,nxt _ 1 (by omega) (by omega) (by omega)⟩,fun h=>⟨by omega,by omega,nxt _ 0 (by omega) (by omega) (by omega)⟩⟩,fun h=>by omega⟩
  ·have hW:=ZaH hw (show m<=i by omega)
   rw [hW] at nxt
   generalize v / 1000000000 ^ i=V at nxt
   refine ⟨by omega,by omega,by omega,fun h=>by omega,fun _=>⟨fun h=>⟨by omega,by omega,by omega,nxt _ 1 (by omega) (by omega) (by omega)⟩,fun h=>⟨by omega,by omega,nxt _ 0 (by omega) (by omega) (by omega)⟩⟩⟩
theorem ev141 (fa fb:Bool) (v w:Int) (h:N.ok v/\N.ok w):Ev M1 (.pure 141 [usA fa (N.Zad v),usA fb (N.Zad w)]) (usA false (N.Zav (max (N.cnt v.natAbs) (N.cnt w.natAbs)+1) (v.natAbs+w.natAbs))) []:=by
 have h1:N.cnt v.natAbs<=1000000:=h.1
 have h2:N.cnt w.natAbs<=1000000:=h.2
 refine call141 (vPlus _ _ _ _ _ ?_)
 rw [Zbz,Zbz]
 refine ⟨fun k=>⟨by omega,by omega,by omega,by omega,?_⟩,fun k=>⟨by omega,by omega,by omega,by omega,?_⟩⟩
 ·have:=loopPlus (fb:=fa) (fx:=fb) (v:=w.natAbs) (w:=v.natAbs) (dq:=usA false (N.Zav (max (N.cnt v.natAbs) (N.cnt w.natAbs)+1) (v.natAbs+w.natAbs))) h2 (show N.cnt v.natAbs<=N.cnt w.natAbs by omega) (Zai _) (Zai _) (N.cnt w.natAbs) 0 [] 0 0 (by omega) (by omega) (by simp) (by
   rw [Nat.max_eq_right (by omega)];simp [Nat.add_comm])
  exact this
 ·have:=loopPlus (fb:=fb) (fx:=fa) (v:=v.natAbs) (w:=w.natAbs) (dq:=usA false (N.Zav (max (N.cnt v.natAbs) (N.cnt w.natAbs)+1) (v.natAbs+w.natAbs))) h1 (show N.cnt w.natAbs<=N.cnt v.natAbs by omega) (Zai _) (Zai _) (N.cnt v.natAbs) 0 [] 0 0 (by omega) (by omega) (by simp) (by
   rw [Nat.max_eq_left (by omega)];simp)
  exact this
theorem ZaZ {o:List Int} {i:Nat} {d:Int} (h:i<o.length):(o.set i d).take (i+1)=o.take i++[d]:=by
 rw [List.take_add_one,List.take_set_of_le (Nat.le_refl _),List.getElem?_set_self h];rfl
theorem ZgG {fb fx:Bool} {n m v w:Nat} {dq:AV} (hn:n<=1000000) (hv:N.fits n v) (hw:N.fits m w) (hm:m<=1000000):∀ (k i:Nat) (o:List Int) (c:Nat),i+k=n->c<=1->o.length=n->w / 1000000000 ^ i+c<=v / 1000000000 ^ i ->
  usA false (o.take i++N.Zav k (v / 1000000000 ^ i-w / 1000000000 ^ i-c))=dq->Zbv fb fx (N.Zav m w) (N.Zav n v) o c n i (Zag dq)
 | 0,i,o,c,hi,hc,hol,hle,hq=>by
  rw [List.take_of_length_le (by omega),N.Zav,List.append_nil] at hq
  exact vMinusA _ _ _ _ _ _ _ _ _ ⟨fun h=>by omega,fun _=>by rw [<- hq];exact .refl _⟩
 | k+1,i,o,c,hi,hc,hol,hle,hq=>by
  have gx:=Zaw v (show i<n by omega)
  obtain ⟨s1,s2⟩:=ZhP k (v / 1000000000 ^ i) (w / 1000000000 ^ i) c hle hc
  rw [Za5,Za5] at s1 s2
  have nxt1:v / 1000000000 ^ i % 1000000000<w / 1000000000 ^ i % 1000000000+c -> ∀ d:Int,((v / 1000000000 ^ i % 1000000000+1000000000-(w / 1000000000 ^ i % 1000000000+c):Nat):Int)=d->Zbv fb fx (N.Zav m w) (N.Zav n v) (o.set i d) (1:Nat) n ((i:Int)+1) (Zag dq):=by
   intro hlt d hd
   obtain ⟨t1,t2⟩:=s1 hlt
   refine ZgG hn hv hw hm k (i+1) (o.set i d) 1 (by omega) (by omega) (by simpa using hol) t2 ?_
   rw [ZaZ (by omega),<- hq,t1,hd,List.append_assoc];rfl
  have nxt0:¬v / 1000000000 ^ i % 1000000000<w / 1000000000 ^ i % 1000000000+c -> ∀ d:Int,((v / 1000000000 ^ i % 1000000000-(w / 1000000000 ^ i % 1000000000+c):Nat):Int)=d->Zbv fb fx (N.Zav m w) (N.Zav n v) (o.set i d) (0:Nat) n ((i:Int)+1) (Zag dq):=by
   intro hlt d hd
   obtain ⟨t1,t2⟩:=s2 hlt
   refine ZgG hn hv hw hm k (i+1) (o.set i d) 0 (by omega) (by omega) (by simpa using hol) t2 ?_
   rw [ZaZ (by omega),<- hq,t1,hd,List.append_assoc];rfl
  refine vMinusA _ _ _ _ _ _ _ _ _ ⟨fun _ => ?_,fun h=>by omega⟩
  rw [Int.toNat_natCast,gx,Zan,Zan]
  by_cases him:i<m
  ·rw [Zaw w him]
   generalize v / 1000000000 ^ i=V at nxt0 nxt1
   generalize w / 1000000000 ^ i=W at nxt0 nxt1
   exact ⟨by omega,by omega,fun _=>⟨by omega,by omega,fun h=>⟨by omega,by omega,by omega,by omega,nxt1 (by omega) _ (by omega)⟩,fun h=>⟨by omega,by omega,by omega,nxt0 (by omega) _ (by omega)⟩⟩,fun h=>by omega⟩
  ·have hW:=ZaH hw (show m<=i by omega)
   rw [hW] at nxt0 nxt1
   generalize v / 1000000000 ^ i=V at nxt0 nxt1
   exact ⟨by omega,by omega,fun h=>by omega,fun _=>⟨fun h=>⟨by omega,by omega,by omega,by omega,nxt1 (by omega) _ (by omega)⟩,fun h=>⟨by omega,by omega,by omega,nxt0 (by omega) _ (by omega)⟩⟩⟩
theorem ev142 (fa fb:Bool) (v w:Int) (h:N.ok v/\N.ok w/\w.natAbs<=v.natAbs):Ev M1 (.pure 142 [usA fa (N.Zad v),usA fb (N.Zad w)]) (usA false (N.Zav (N.cnt v.natAbs) (v.natAbs-w.natAbs))) []:=by
 obtain ⟨h1,h2,h3⟩:=h
 have h1':N.cnt v.natAbs<=1000000:=h1
 refine call142 (vMinus _ _ _ _ _ ?_)
 rw [Zbz,Int.toNat_natCast]
 refine ⟨by omega,by omega,by omega,?_⟩
 have:=ZgG (fb:=fb) (fx:=fa) (v:=v.natAbs) (w:=w.natAbs) (dq:=usA false (N.Zav (N.cnt v.natAbs) (v.natAbs-w.natAbs))) h1' (Zai _) (Zai _) h2 (N.cnt v.natAbs) 0 (List.replicate (N.cnt v.natAbs) 0) 0 (by omega) (by omega) (by simp) (by simpa using h3) (by simp)
 exact this
theorem ZcE {o:List Int} {i:Nat} {d:Int} (h:i<o.length):(o.set i d).drop i=d::o.drop (i+1):=by
 rw [ZbJ (by simpa using h),List.drop_set_of_lt (by omega)]
 congr 1
 rw [List.getD_eq_getElem?_getD,List.getElem?_set_self h];rfl
theorem ZhT {fa:Bool} {n v d:Nat} {dq:AV} (hn:n<=1000000) (hd:0<d/\d<1000000000) (hq:AV.tup [usA false (N.Zav n (v / d)),usA false [((v % d:Nat):Int)]]=dq):∀ (i k:Nat) (o:List Int),i+k=n->o.length=n->o.drop i=N.Zav k (v / 1000000000 ^ i / d)->Zb3 fa (N.Zav n v) o d ((v / 1000000000 ^ i % d:Nat):Int) ((i:Int)-1) (Zag dq)
 | 0,k,o,hi,hol,ho=>by
  have hk:k=n:=by omega
  subst hk
  rw [List.drop_zero] at ho
  simp only [Nat.pow_zero,Nat.div_one] at ho ⊢
  have hm:=Nat.mod_lt v hd.1
  refine vByWordA _ _ _ _ _ _ _ ⟨fun h=>by omega,fun _=>⟨by omega,?_⟩⟩
  rw [ho,<- hq]
  refine .tup _ _ rfl fun i x y hx hy => ?_
  match i with
  | 0=>simp at hx hy;subst hx;subst hy;exact .refl _
  | 1=>simp at hx hy;subst hx;subst hy;exact ZcB _ _ _
  | i+2=>simp at hx
 | i+1,k,o,hi,hol,ho=>by
  have gx:=Zaw v (show i<n by omega)
  have e1:(((i+1:Nat):Int)-1)=(i:Nat):=by omega
  have hs:=ZaY v i
  have hx:v / 1000000000 ^ i % 1000000000<1000000000:=Nat.mod_lt _ (by omega)
  obtain ⟨b1,b2,b3⟩:=ZcX (v / 1000000000 ^ (i+1)) (v / 1000000000 ^ i % 1000000000) d hx hd.1
  have hs':v / 1000000000 ^ i % 1000000000+1000000000*(v / 1000000000 ^ (i+1))=v / 1000000000 ^ i:=by omega
  rw [hs'] at b1 b2
  have hr:=Nat.mod_lt (v / 1000000000 ^ (i+1)) hd.1
  rw [e1]
  refine vByWordA _ _ _ _ _ _ _ ⟨fun _ => ?_,fun h=>by omega⟩
  rw [Int.toNat_natCast,gx,Zan]
  have c1:((v / 1000000000 ^ (i+1) % d:Nat):Int)*1000000000+((v / 1000000000 ^ i % 1000000000:Nat):Int)=((v / 1000000000 ^ (i+1) % d*1000000000+v / 1000000000 ^ i % 1000000000:Nat):Int):=by omega
  obtain ⟨q0,hq0⟩:∃ q0,q0=(v / 1000000000 ^ (i+1) % d*1000000000+v / 1000000000 ^ i % 1000000000) / d:=⟨_,rfl⟩
  have c2:(((v / 1000000000 ^ (i+1) % d*1000000000+v / 1000000000 ^ i % 1000000000:Nat):Int)).tdiv d=(q0:Nat):=by rw [hq0];exact (Int.ofNat_tdiv _ _).symm
  have c3:(((v / 1000000000 ^ (i+1) % d*1000000000+v / 1000000000 ^ i % 1000000000:Nat):Int)).tmod d=((v / 1000000000 ^ i % d:Nat):Int):=by rw [b2];exact (Int.ofNat_tmod _ _).symm
  rw [<- hq0] at b1 b3
  rw [c1,c2,c3]
  have main:Zb3 fa (N.Zav n v) (o.set i (q0:Nat)) d ((v / 1000000000 ^ i % d:Nat):Int) ((i:Int)-1) (Zag dq):=by
   refine ZhT hn hd hq i (k+1) _ (by omega) (by simpa using hol) ?_
   rw [ZcE (by omega),ho,ZaC,b1]
   generalize v / 1000000000 ^ (i+1) / d=z
   have e2:(1000000000*z+q0) % 1000000000=q0:=by omega
   have e3:(1000000000*z+q0) / 1000000000=z:=by omega
   rw [e2,e3]
  have hx':((v / 1000000000 ^ i % 1000000000:Nat):Int)<1000000000:=by omega
  have hr':((v / 1000000000 ^ (i+1) % d:Nat):Int)<d:=by exact_mod_cast hr
  refine ⟨by omega,by omega,?_,by omega,?_,by omega,by omega,by omega,by omega,by omega,by omega,main⟩
  ·generalize v / 1000000000 ^ (i+1) % d=R at hr'
   omega
  ·generalize v / 1000000000 ^ (i+1) % d=R at hr'
   omega
theorem byWordN (fa:Bool) (n v d:Nat) (h:N.Zay n/\N.fits n v/\0<d/\d<1000000000):Ev M1 (.pure 128 [usA fa (N.Zav n v),.int .u32 d]) (.tup [usA false (N.Zav n (v / d)),usA false [((v % d:Nat):Int)]]) []:=by
 obtain ⟨h1,h2,h3,h4⟩:=h
 have h1':n<=1000000:=h1
 refine call128 (vByWord _ _ _ _ ?_)
 rw [Zan,Int.toNat_natCast]
 refine ⟨by omega,by omega,by omega,by omega,?_⟩
 have e0:=ZaH h2 (Nat.le_refl n)
 have:=ZhT (fa:=fa) (v:=v) (dq:=.tup [usA false (N.Zav n (v / d)),usA false [((v % d:Nat):Int)]]) h1' ⟨h3,h4⟩ rfl n 0 (List.replicate n 0) (by omega) (by simp) (by simp [N.Zav])
 rw [e0,Nat.zero_mod] at this
 exact this
end Go.Av

namespace Go.Av
open Go.Proofs
namespace N
def zs (n:Nat):List Int:=List.replicate n 0
end N
theorem Ze6:∀ (n k v:Nat),N.fits n v->N.Zav (n+k) v=N.Zav n v++N.zs k
 | n,0,v,_=>by simp [N.zs]
 | n,k+1,v,h=>by
  rw [<- Nat.add_assoc,Zd0,Ze6 n k v h,List.append_assoc]
  congr 1
  have e:v / 1000000000 ^ (n+k)=0:=ZaH h (by omega)
  rw [e]
  unfold N.zs
  rw [<- List.replicate_append_replicate (n:=k) (m:=1)];rfl
theorem ZhQ {fb fx fy:Bool} {b x:List Int} {m w xd n i K:Nat} {Q0:List Int} {Q:AV->Heap->Prop} (hm:m<=1000000) (hi:i<=1000000) (hK:K<=1000000) (hb:b.length=m) (hx:xd<1000000000) (hw:N.fits m w)
  (hq:∀ o:List Int,o=Q0++N.zs K->ZcI fb fx b x o n ((i:Int)+1) Q) :
  ∀ (r j:Nat) (o:List Int) (U c:Nat),j+r=m->o.length=i+m+1+K->c<1000000000->N.fits r U->o.drop (i+j)=N.Zav r U++N.zs (K+1)->o.take (i+j)++N.Zav (r+1) (U+xd*(w / 1000000000 ^ j)+c)=Q0 ->
   ZcH fb fx fy b x (N.Zav m w) o i xd c n i m j Q
 | 0,j,o,U,c,hj,hol,hc,hU,ho,hQ=>by
  have hU0:=Zbi.1 hU
  have hj':j=m:=by omega
  subst hj'
  rw [ZaH hw (Nat.le_refl _),hU0,Nat.mul_zero] at hQ
  have e:N.Zav 1 (0+0+c)=[(c:Int)]:=by simp [N.Zav];omega
  rw [Nat.zero_add,e] at hQ
  rw [hU0,N.Zav,List.nil_append] at ho
  refine vTimesB _ _ _ _ _ _ _ _ _ _ _ _ _ _ _ ⟨fun h=>by omega,fun _ => ?_⟩
  rw [hb]
  have e1:((i:Int)+(j:Int)).toNat=i+j:=by omega
  rw [e1]
  refine ⟨by omega,by omega,by omega,by omega,by omega,hq _ ?_⟩
  have ho2:o.drop (i+j+1)=N.zs K:=by
   rw [show i+j+1=1+(i+j) by omega,Nat.add_comm 1,<- List.drop_drop,ho];rfl
  rw [<- hQ,<- ho2]
  rw [List.set_eq_take_append_cons_drop,if_pos (by omega),List.append_assoc];rfl
 | r+1,j,o,U,c,hj,hol,hc,hU,ho,hQ=>by
  have gy:=Zaw w (show j<m by omega)
  have e1:((i:Int)+(j:Int)).toNat=i+j:=by omega
  have hod:=ZbJ (d:=o) (i:=i+j) (by omega)
  rw [ho,ZaC,List.cons_append] at hod
  obtain ⟨g1,g2⟩:=List.cons.inj hod
  have hu:U % 1000000000<1000000000:=Nat.mod_lt _ (by omega)
  have hy:w / 1000000000 ^ j % 1000000000<1000000000:=Nat.mod_lt _ (by omega)
  obtain ⟨w1,w2⟩:=ZhB hu hx hy hc
  rw [ZhC,Za5] at hQ
  refine vTimesB _ _ _ _ _ _ _ _ _ _ _ _ _ _ _ ⟨fun _ => ?_,fun h=>by omega⟩
  rw [Int.toNat_natCast,e1,gy,Zan,<- g1]
  have c1:((xd:Nat):Int)*((w / 1000000000 ^ j % 1000000000:Nat):Int)=((xd*(w / 1000000000 ^ j % 1000000000):Nat):Int):=(Int.natCast_mul _ _).symm
  rw [c1]
  have main:∀ d c':Int,d=(((U % 1000000000+xd*(w / 1000000000 ^ j % 1000000000)+c) % 1000000000:Nat):Int)->c'=(((U % 1000000000+xd*(w / 1000000000 ^ j % 1000000000)+c) / 1000000000:Nat):Int) ->
    ZcH fb fx fy b x (N.Zav m w) (o.set (i+j) d) i xd c' n i m ((j:Int)+1) Q:=by
   intro d c' hd hc'
   subst hc'
   refine ZhQ hm hi hK hb hx hw hq r (j+1) _ (U / 1000000000) _ (by omega) (by simpa using hol) w2 (ZbZ.1 hU) ?_ ?_
   ·rw [show i+(j+1)=i+j+1 by omega,List.drop_set_of_lt (by omega),<- g2]
   ·rw [show i+(j+1)=i+j+1 by omega,ZaZ (by omega),<- hQ,hd,List.append_assoc];rfl
  generalize xd*(w / 1000000000 ^ j % 1000000000)=p at w1 w2 main
  have hu':((U % 1000000000:Nat):Int)<1000000000:=by omega
  generalize U % 1000000000=u at w1 w2 main hu'
  have c2:((u:Nat):Int)+((p:Nat):Int)+((c:Nat):Int)=((u+p+c:Nat):Int):=by omega
  have c3:(((u+p+c:Nat):Int)).tdiv 1000000000=(((u+p+c) / 1000000000:Nat):Int):=by
   rw [Int.tdiv_eq_ediv_of_nonneg (by omega)];omega
  have c4:(((u+p+c:Nat):Int)).tmod 1000000000=(((u+p+c) % 1000000000:Nat):Int):=by
   rw [Int.tmod_eq_emod_of_nonneg (by omega)];omega
  rw [c2,c3,c4]
  exact ⟨by omega,by omega,by omega,by omega,by omega,by omega,by omega,by omega,by omega,by omega,by omega,by omega,by omega,by omega,main _ _ rfl rfl⟩
theorem ZhR {fb fx:Bool} {n m v w:Nat} {R:List Int} {Q:AV->Heap->Prop} (hn:n<=1000000) (hm:m<=1000000) (hv:N.fits n v) (hw:N.fits m w) (hq:Q (.row 0 0) [⟨R.map (.int .u32),1,0,false,true⟩]) :
  ∀ (k i:Nat) (o:List Int) (U:Nat),i+k=n->o.length=n+m->N.fits m U->o.drop i=N.Zav m U++N.zs k->o.take i++N.Zav (m+k) (U+v / 1000000000 ^ i*w)=R->ZcI fb fx (N.Zav m w) (N.Zav n v) o n i Q
 | 0,i,o,U,hi,hol,hU,ho,hR=>by
  have hi':i=n:=by omega
  subst hi'
  rw [ZaH hv (Nat.le_refl _),Nat.zero_mul,Nat.add_zero,Nat.add_zero] at hR
  have e:N.Zav m U++N.zs 0=N.Zav m U:=by simp [N.zs]
  rw [e] at ho
  rw [<- ho,List.take_append_drop] at hR
  exact vTimesA _ _ _ _ _ _ _ _ ⟨fun h=>by omega,fun _=>by rw [hR];exact hq⟩
 | k+1,i,o,U,hi,hol,hU,ho,hR=>by
  have gx:=Zaw v (show i<n by omega)
  have hx:v / 1000000000 ^ i % 1000000000<1000000000:=Nat.mod_lt _ (by omega)
  refine vTimesA _ _ _ _ _ _ _ _ ⟨fun _ => ?_,fun h=>by omega⟩
  rw [Int.toNat_natCast,gx,Zan,Zan]
  refine ⟨by omega,by omega,?_⟩
  have hf:N.fits (m+1) (U+v / 1000000000 ^ i % 1000000000*w):=fits_mul rfl hU hw hx
  have hP:1000000000 ^ m=1000000000 ^ m:=rfl
  have step:U+v / 1000000000 ^ i*w=U+v / 1000000000 ^ i % 1000000000*w+1000000000*(v / 1000000000 ^ (i+1)*w):=by
   have hs:=ZaY v i
   generalize v / 1000000000 ^ (i+1)=V' at hs ⊢
   generalize v / 1000000000 ^ i % 1000000000=d at hs ⊢
   rw [hs];grind
  refine ZhQ (Q0:=o.take i++N.Zav (m+1) (U+v / 1000000000 ^ i % 1000000000*w)) (K:=k) hm (by omega) (by omega) (Zan _ _) hx hw (fun o' ho' => ?_) m 0 o U 0 (by omega) (by omega) (by omega) hU ho (by simp)
  have hlen:(o.take i).length=i:=by rw [List.length_take];omega
  refine ZhR hn hm hv hw hq k (i+1) o' ((U+v / 1000000000 ^ i % 1000000000*w) / 1000000000) (by omega) ?_ (ZbZ.1 hf) ?_ ?_
  ·rw [ho']
   simp only [List.length_append,hlen,Zan,N.zs,List.length_replicate]
   omega
  ·rw [ho',ZaC]
   have e1:i+1=(o.take i++[(((U+v / 1000000000 ^ i % 1000000000*w) % 1000000000:Nat):Int)]).length:=by simp [hlen]
   rw [e1]
   have e2:o.take i++((((U+v / 1000000000 ^ i % 1000000000*w) % 1000000000:Nat):Int)::N.Zav m ((U+v / 1000000000 ^ i % 1000000000*w) / 1000000000))++N.zs k
     = (o.take i++[(((U+v / 1000000000 ^ i % 1000000000*w) % 1000000000:Nat):Int)])++(N.Zav m ((U+v / 1000000000 ^ i % 1000000000*w) / 1000000000)++N.zs k):=by simp
   rw [e2,List.drop_left]
  ·rw [<- hR,ho',ZaC,show m+(k+1)=(m+k)+1 by omega,ZaC (m+k)]
   have e1:i+1=(o.take i++[(((U+v / 1000000000 ^ i % 1000000000*w) % 1000000000:Nat):Int)]).length:=by simp [hlen]
   have e2:o.take i++((((U+v / 1000000000 ^ i % 1000000000*w) % 1000000000:Nat):Int)::N.Zav m ((U+v / 1000000000 ^ i % 1000000000*w) / 1000000000))++N.zs k
     = (o.take i++[(((U+v / 1000000000 ^ i % 1000000000*w) % 1000000000:Nat):Int)])++(N.Zav m ((U+v / 1000000000 ^ i % 1000000000*w) / 1000000000)++N.zs k):=by simp
   rw [e2,e1,List.take_left,List.append_assoc]
   have e3:(U+v / 1000000000 ^ i*w) % 1000000000=(U+v / 1000000000 ^ i % 1000000000*w) % 1000000000:=by rw [step];omega
   have e4:(U+v / 1000000000 ^ i*w) / 1000000000=(U+v / 1000000000 ^ i % 1000000000*w) / 1000000000+v / 1000000000 ^ (i+1)*w:=by rw [step];omega
   rw [e3,e4,<- e1];rfl
theorem timesQ {Q:AV->Heap->Prop} (fa fb:Bool) (n v m w:Nat) (h:N.Zay n/\N.Zay m/\N.fits n v/\N.fits m w) (hq:Q (.row 0 0) [⟨(N.Zav (n+m) (v*w)).map (.int .u32),1,0,false,true⟩]):Zgg fa fb (N.Zav n v) (N.Zav m w) Q:=by
 obtain ⟨h1,h2,h3,h4⟩:=h
 have h1':n<=1000000:=h1
 have h2':m<=1000000:=h2
 refine vTimes _ _ _ _ _ ?_
 rw [Zan,Zan]
 have e:((n:Int)+(m:Int)).toNat=n+m:=by omega
 rw [e]
 refine ⟨by omega,by omega,by omega,by omega,?_⟩
 have:=ZhR (fb:=fb) (fx:=fa) (R:=N.Zav (n+m) (v*w)) (Q:=Q) h1' h2' h3 h4 hq n 0 (List.replicate (n+m) 0) 0 (by omega) (by simp) (Zaz.2 (by rw [ZbF];omega)) (by
  rw [List.drop_zero,ZgI];unfold N.zs;rw [List.replicate_append_replicate,Nat.add_comm]) (by simp [Nat.add_comm])
 exact this
theorem timesN (fa fb:Bool) (n v m w:Nat) (h:N.Zay n/\N.Zay m/\N.fits n v/\N.fits m w):Ev M1 (.pure 95 [usA fa (N.Zav n v),usA fb (N.Zav m w)]) (usA false (N.Zav (n+m) (v*w))) []:=
 call95 (timesQ fa fb n v m w h ⟨_,rfl,⟨rfl,trivial⟩,rfl,.refl _⟩)
theorem evf95 (fa fb:Bool) (v:Nat) (s:Int) (h:N.Zay (N.cnt v)/\0<=s/\s<1000000000):Ev M1 (.own 95 [usA fa (N.lim v),.vec fb 1 [.int .u32 s]] []) (.row 0 0) [⟨(N.Zav (N.cnt v+1) (v*s.toNat)).map (.int .u32),1,0,false,true⟩]:=by
 have e:[AV.int .u32 s]=(N.Zav 1 s.toNat).map (.int .u32):=by
  simp only [N.Zav,List.map_cons,List.map_nil]
  have:((s.toNat % 1000000000:Nat):Int)=s:=by omega
  rw [this]
 rw [e]
 exact owncall95 (timesQ fa fb _ v 1 s.toNat ⟨h.1,by unfold N.Zay;omega,Zai _,by unfold N.fits;omega⟩ ⟨rfl,rfl⟩)
theorem ev95 (fa fb:Bool) (v w:Int) (h:N.ok v/\N.ok w):Ev M1 (.pure 95 [usA fa (N.Zad v),usA fb (N.Zad w)]) (usA false (N.Zav (N.cnt v.natAbs+N.cnt w.natAbs) (v.natAbs*w.natAbs))) []:=timesN fa fb _ _ _ _ ⟨h.1,h.2,Zai _,Zai _⟩
theorem ZcT {n m v w:Nat} (hv:N.fits n v) (hw:N.fits m w):N.fits (n+m) (v*w):=by
 unfold N.fits at *
 rw [Nat.pow_add]
 exact Nat.mul_lt_mul'' hv hw
theorem Zfe {n v w:Nat} (hv:N.fits n v) (hw:N.fits n w):N.fits (n+1) (v+w):=by
 unfold N.fits at *
 rw [Nat.pow_succ];omega
end Go.Av

namespace Go.Av
open Go.Proofs
set_option maxRecDepth 100000
def fi73:Fi:=⟨15,[.cell 2 85]⟩
def kp73:List (Nat × List Nat):=[(0,[0,2]),(1,[0,2,3]),(2,[0,2,3,7]),(3,[0,2,3]),(4,[2])]
def fi75:Fi:=⟨16,[.cell 4 85]⟩
def kp75:List (Nat × List Nat):=[(0,[2,3,4]),(1,[4])]
def fi78:Fi:=⟨24,[.tmp 4]⟩
def kp78:List (Nat × List Nat):=[(0,[2,3]),(1,[2,3,9]),(2,[11]),(3,[4]),(4,[4]),(5,[2,3,13]),(6,[4]),(7,[4])]
def fi92:Fi:=⟨10,[.cell 2 85]⟩
def kp92:List (Nat × List Nat):=[(0,[1,2]),(1,[2])]
def fi114:Fi:=⟨30,[.tmp 2,.tmp 3]⟩
def kp114:List (Nat × List Nat):=[(0,[1]),(1,[1,6]),(2,[1,6,7]),(3,[2,3]),(4,[1,6,9]),(5,[2,3]),(6,[1,16]),(7,[2,3]),(8,[2,3])]
def fi131:Fi:=⟨18,[.cell 4 85]⟩
def kp131:List (Nat × List Nat):=[(0,[2,3,4]),(1,[2,3,4]),(2,[4])]
def fi132:Fi:=⟨34,[.cell 4 85]⟩
def kp132:List (Nat × List Nat):=[(0,[2,3,4]),(1,[2,3,4,9]),(2,[4]),(3,[2,3,4,23]),(4,[2,3,4]),(5,[4])]
def vWord_at (fa s:Bool) (a:List Int) (Q:AV->Heap->Prop):Prop:=Wp M1 (.run fi114 (atC (cd Tryz.f114) []) [(0,.agg [.bool s,.vec fa 1 (a.map (.int .u32))])] []) Q
def ZeL (n:Int) (Q:AV->Heap->Prop):Prop:=Wp M1 (.run fi73 (atC (cd Tryz.f73) []) [(0,.int .i64 n)] []) Q
def vSub_at (fa fb:Bool) (a b:Int) (Q:AV->Heap->Prop):Prop:=Wp M1 (.run fi131 (atC (cd Tryz.f131) []) [(0,bigA fa a),(1,bigA fb b)] []) Q
def vAdd_at (fa fb:Bool) (a b:Int) (Q:AV->Heap->Prop):Prop:=Wp M1 (.run fi132 (atC (cd Tryz.f132) []) [(0,bigA fa a),(1,bigA fb b)] []) Q
def vMul_at (fa fb:Bool) (a b:Int) (Q:AV->Heap->Prop):Prop:=Wp M1 (.run fi75 (atC (cd Tryz.f75) []) [(0,bigA fa a),(1,bigA fb b)] []) Q
def vNeg0_at (fa:Bool) (Q:AV->Heap->Prop):Prop:=Wp M1 (.run fi92 (atC (cd Tryz.f92) []) [(0,.agg [.bool false,.vec fa 1 []])] []) Q
def vNeg_at (s fa:Bool) (x:Int) (a:List Int) (Q:AV->Heap->Prop):Prop:=Wp M1 (.run fi92 (atC (cd Tryz.f92) []) [(0,.agg [.bool s,.vec fa 1 ((x::a).map (.int .u32))])] []) Q
def vCmp_at (fa fb:Bool) (a b:Int) (Q:AV->Heap->Prop):Prop:=Wp M1 (.run fi78 (atC (cd Tryz.f78) []) [(0,bigA fa a),(1,bigA fb b)] []) Q
theorem call73 {args:List AV} {d:AV} (h:wc M1 fi73 Tryz.f73 args d):Ev M1 (.pure 73 args) d []:=pcl _ _ (by kernel_rfl) h
theorem call75 {args:List AV} {d:AV} (h:wc M1 fi75 Tryz.f75 args d):Ev M1 (.pure 75 args) d []:=pcl _ _ (by kernel_rfl) h
theorem call78 {args:List AV} {d:AV} (h:wc M1 fi78 Tryz.f78 args d):Ev M1 (.pure 78 args) d []:=pcl _ _ (by kernel_rfl) h
theorem call92 {args:List AV} {d:AV} (h:wc M1 fi92 Tryz.f92 args d):Ev M1 (.pure 92 args) d []:=pcl _ _ (by kernel_rfl) h
theorem call114 {args:List AV} {d:AV} (h:wc M1 fi114 Tryz.f114 args d):Ev M1 (.pure 114 args) d []:=pcl _ _ (by kernel_rfl) h
theorem call131 {args:List AV} {d:AV} (h:wc M1 fi131 Tryz.f131 args d):Ev M1 (.pure 131 args) d []:=pcl _ _ (by kernel_rfl) h
theorem call132 {args:List AV} {d:AV} (h:wc M1 fi132 Tryz.f132 args d):Ev M1 (.pure 132 args) d []:=pcl _ _ (by kernel_rfl) h
theorem vWord (fa s:Bool) (a:List Int)  (dq:AV) (H :
  (((↑a.length:Int)=0)->tu [vw 0,vb true]=dq) /\
  (¬((↑a.length:Int)=0)->(((↑a.length:Int)=1)->(0<a.length) /\
    (0<=a.getD 0 default/\a.getD 0 default<=18446744073709551615) /\
    tu [vw (a.getD 0 default),vb true]=dq) /\
   (¬((↑a.length:Int)=1)->(((↑a.length:Int)=2)->(1<a.length) /\
     (0<a.length) /\
     (0<=a.getD 1 default/\a.getD 1 default<=18446744073709551615) /\
     (0<=a.getD 1 default*1000000000/\a.getD 1 default*1000000000<=18446744073709551615) /\
     (0<=a.getD 0 default/\a.getD 0 default<=18446744073709551615) /\
     (0<=a.getD 1 default*1000000000+a.getD 0 default/\a.getD 1 default*1000000000+a.getD 0 default<=18446744073709551615) /\
     tu [vw (a.getD 1 default*1000000000+a.getD 0 default),vb true]=dq) /\
    (¬((↑a.length:Int)=2)->tu [vw 0,vb false]=dq)))) :
 vWord_at fa s a (Zag dq):=by
 unfold vWord_at
 have w1:(us a).length=a.length:=List.length_map ..
 have i2:((↑(us a).length:Int)==0)=true ↔ ((↑a.length:Int)=0):=(by (try rw [w1]);all_goals exact i_eq)
 rcases xq H with ⟨d3,H⟩|⟨d3,H⟩
 ·exact Zas (G:=Zae kp114 [] []) 1000 [true] (tu [vw 0,vb true]) (by kernel_rfl) (bc rfl (bc (Zam (i2.2 d3)) b0)) q0 c0 H
 ·have i4:((↑(us a).length:Int)==1)=true ↔ ((↑a.length:Int)=1):=(by (try rw [w1]);all_goals exact i_eq)
  rcases xq H with ⟨d5,H⟩|⟨d5,H⟩
  ·have i6:(decide (0<(us a).length))=true ↔ (0<a.length):=(by (try rw [w1]);all_goals exact Zac)
   obtain ⟨k7,k8,H⟩:=H
   have w9:wu (a.getD 0 default)=a.getD 0 default:=wU64 k8
   exact Zas (G:=Zae kp114 [(5,3,.elem (vu (a.getD 0 default)))] []) 1000 [false,true] (eqs:=[((us a).get?Internal 0=some (vu (a.getD 0 default)))]) (tu [vw (wu (a.getD 0 default)),vb true]) (by kernel_rfl) (bc rfl (bc (Zak (fun h=>d3 (i2.1 h))) (bc (Zam (i4.2 d5)) (bc rfl (bc rfl (bc (i6.2 k7) b0)))))) (qc (Zat k7) q0) c0 (by (try rw [w9]);all_goals exact H)
  ·have i10:((↑(us a).length:Int)==2)=true ↔ ((↑a.length:Int)=2):=(by (try rw [w1]);all_goals exact i_eq)
   rcases xq H with ⟨d11,H⟩|⟨d11,H⟩
   ·have i12:(decide (1<(us a).length))=true ↔ (1<a.length):=(by (try rw [w1]);all_goals exact Zac)
    obtain ⟨k13,H⟩:=H
    have i14:(decide (0<(us a).length))=true ↔ (0<a.length):=(by (try rw [w1]);all_goals exact Zac)
    obtain ⟨k15,k16,H⟩:=H
    have w17:wu (a.getD 1 default)=a.getD 1 default:=wU64 k16
    obtain ⟨k18,H⟩:=H
    have w19:wu (a.getD 1 default*1000000000)=a.getD 1 default*1000000000:=wU64 k18
    obtain ⟨k20,H⟩:=H
    have w21:wu (a.getD 0 default)=a.getD 0 default:=wU64 k20
    obtain ⟨k22,H⟩:=H
    have w23:wu (a.getD 1 default*1000000000+a.getD 0 default)=a.getD 1 default*1000000000+a.getD 0 default:=wU64 k22
    exact Zas (G:=Zae kp114 [(7,3,.elem (vu (a.getD 1 default))),(7,9,.elem (vu (a.getD 0 default)))] []) 1000 [false,false,true] (eqs:=[((us a).get?Internal 1=some (vu (a.getD 1 default))),((us a).get?Internal 0=some (vu (a.getD 0 default)))]) (tu [vw (wu (wu (wu (a.getD 1 default)*1000000000)+wu (a.getD 0 default))),vb true]) (by kernel_rfl) (bc rfl (bc (Zak (fun h=>d3 (i2.1 h))) (bc (Zak (fun h=>d5 (i4.1 h))) (bc (Zam (i10.2 d11)) (bc rfl (bc rfl (bc (i12.2 k13) (bc rfl (bc rfl (bc (i14.2 k15) b0)))))))))) (qc (Zat k13) (qc (Zat k15) q0)) c0 (by (try rw [w17]);(try rw [w19]);(try rw [w21]);(try rw [w23]);all_goals exact H)
   ·exact Zas (G:=Zae kp114 [] []) 1000 [false,false,false] (tu [vw 0,vb false]) (by kernel_rfl) (bc rfl (bc (Zak (fun h=>d3 (i2.1 h))) (bc (Zak (fun h=>d5 (i4.1 h))) (bc (Zak (fun h=>d11 (i10.1 h))) b0)))) q0 c0 H
theorem vFromInt64 (n:Int)  (dq:AV) (H :
  ((n<0)->(0<=IntKind.u64.wrap (0-IntKind.u64.wrap n)/\IntKind.u64.wrap (0-IntKind.u64.wrap n)<=18446744073709551615) /\
   (N.Zay 3/\N.fits 3 (IntKind.u64.wrap (0-IntKind.u64.wrap n)).toNat) /\
   Weak (bigA false (N.sg (decide (n<0)) (IntKind.u64.wrap (0-IntKind.u64.wrap n)).toNat)) dq) /\
  (¬(n<0)->(0<=IntKind.u64.wrap n/\IntKind.u64.wrap n<=18446744073709551615) /\
   (N.Zay 3/\N.fits 3 (IntKind.u64.wrap n).toNat) /\
   Weak (bigA false (N.sg (decide (n<0)) (IntKind.u64.wrap n).toNat)) dq)) :
 ZeL n (Zag dq):=by
 unfold ZeL
 rcases xq H with ⟨d2,H⟩|⟨d2,H⟩
 ·obtain ⟨k3,k4,H⟩:=H
  exact Zaj (G:=Zae kp73 [(4,3,.call (vf (us (N.Zav 3 (wu (0-wu n)).toNat))) none),(4,4,.call (bigA false (N.sg (decide (n<0)) (wu (0-wu n)).toNat)) none)] []) 1000 [true] (bigA false (N.sg (decide (n<0)) (wu (0-wu n)).toNat)) (by kernel_rfl) (bc (Zam (Zac.2 d2)) (bc rfl b0)) q0 (ce (@ev90 (wu (0-wu n)) k3) (ce (@ev89 (decide (n<0)) false 3 ((wu (0-wu n)).toNat) k4) c0)) H
 ·obtain ⟨k5,k6,H⟩:=H
  exact Zaj (G:=Zae kp73 [(4,3,.call (vf (us (N.Zav 3 (wu n).toNat))) none),(4,4,.call (bigA false (N.sg (decide (n<0)) (wu n).toNat)) none)] []) 1000 [false] (bigA false (N.sg (decide (n<0)) (wu n).toNat)) (by kernel_rfl) (bc (Zak (fun h=>d2 (Zac.1 h))) (bc rfl b0)) q0 (ce (@ev90 (wu n) k5) (ce (@ev89 (decide (n<0)) false 3 ((wu n).toNat) k6) c0)) H
theorem vSub (fa fb:Bool) (a b:Int)  (dq:AV) (H :
  ∃ (b1:Bool) (l1:List Int),
  (Ev M1 (Conf.pure 132 [bigA fa a,ag [vb (bif !N.Zab b then decide ((↑(N.Zad b).length:Int)>0) else false),AV.vec fb 1 (us (N.Zad b))]]) (ag [vb b1,vf (us l1)]) []) /\
  Weak (ag [vb b1,vf (us l1)]) dq) :
 vSub_at fa fb a b (Zag dq):=by
 unfold vSub_at
 have w1:(us (N.Zad b)).length=(N.Zad b).length:=List.length_map ..
 obtain ⟨b1,l1,k2,H⟩:=H
 exact Zaj (G:=Zae kp131 [(2,2,.call (ag [vb b1,vf (us l1)]) none)] []) 1000 [] (asm:=[true,!((!N.Zab b)==true&&true)||true,true,true,true,true]) (calls:=[pc 132 [bigA fa a,ag [vb (bif !N.Zab b then decide ((↑(us (N.Zad b)).length:Int)>0) else false),AV.vec fb 1 (us (N.Zad b))]] (ag [vb b1,vf (us l1)])]) (ag [vb b1,vf (us l1)]) (by kernel_rfl) (bc rfl (bc (Bool.or_true _) (bc rfl (bc rfl (bc rfl (bc rfl b0)))))) q0 (ce (by (try rw [w1]);all_goals exact k2) c0) H
theorem vAdd (fa fb:Bool) (a b:Int)  (dq:AV) (H :
  ((N.Zab a=N.Zab b)->(N.ok a/\N.ok b) /\
   (N.Zay (max (N.cnt a.natAbs) (N.cnt b.natAbs)+1)/\N.fits (max (N.cnt a.natAbs) (N.cnt b.natAbs)+1) (a.natAbs+b.natAbs)) /\
   Weak (bigA false (N.sg (N.Zab a) (a.natAbs+b.natAbs))) dq) /\
  (¬(N.Zab a=N.Zab b)->(N.ok a/\N.ok b) /\
   ((N.sgnI ((↑a.natAbs:Int)-(↑b.natAbs:Int))<0)->(N.ok b/\N.ok a/\a.natAbs<=b.natAbs) /\
    (N.Zay (N.cnt b.natAbs)/\N.fits (N.cnt b.natAbs) (b.natAbs-a.natAbs)) /\
    Weak (bigA false (N.sg (N.Zab b) (b.natAbs-a.natAbs))) dq) /\
   (¬(N.sgnI ((↑a.natAbs:Int)-(↑b.natAbs:Int))<0)->(N.ok a/\N.ok b/\b.natAbs<=a.natAbs) /\
    (N.Zay (N.cnt a.natAbs)/\N.fits (N.cnt a.natAbs) (a.natAbs-b.natAbs)) /\
    Weak (bigA false (N.sg (N.Zab a) (a.natAbs-b.natAbs))) dq))) :
 vAdd_at fa fb a b (Zag dq):=by
 unfold vAdd_at
 rcases xq H with ⟨d2,H⟩|⟨d2,H⟩
 ·obtain ⟨k3,k4,H⟩:=H
  exact Zaj (G:=Zae kp132 [(2,6,.call (vf (us (N.Zav (max (N.cnt a.natAbs) (N.cnt b.natAbs)+1) (a.natAbs+b.natAbs)))) none),(2,7,.call (bigA false (N.sg (N.Zab a) (a.natAbs+b.natAbs))) none)] []) 1000 [true] (bigA false (N.sg (N.Zab a) (a.natAbs+b.natAbs))) (by kernel_rfl) (bc rfl (bc rfl (bc (Zam (i_eq.2 d2)) (bc rfl (bc rfl (bc rfl (bc rfl b0))))))) q0 (ce (@ev141 fa fb a b k3) (ce (@ev89 (N.Zab a) false (max (N.cnt a.natAbs) (N.cnt b.natAbs)+1) (a.natAbs+b.natAbs) k4) c0)) H
 ·obtain ⟨k5,H⟩:=H
  refine Zaf (G:=Zae kp132 [(3,4,.call (vi (N.sgnI ((↑a.natAbs:Int)-(↑b.natAbs:Int)))) none)] []) 10 [false] ⟨(atC (cd Tryz.f132) [1,1,0,1]),[(2,AV.ptr 0 0 0 0),(3,AV.ptr 1 0 0 0),(4,AV.ptr 2 0 0 0),(23,vb (decide (N.sgnI ((↑a.natAbs:Int)-(↑b.natAbs:Int))<0)))],[⟨[bigA fa a],2,0,false,false⟩,⟨[bigA fb b],2,0,false,false⟩,⟨[ag [vb false,AV.vnil]],2,0,false,false⟩],_,[],_⟩ (by kernel_rfl) (bc rfl (bc rfl (bc (Zak (fun h=>d2 (i_eq.1 h))) (bc rfl (bc rfl b0))))) q0 (ce (@ev97 fa fb a b k5) c0) ?_
  rcases xq H with ⟨d7,H⟩|⟨d7,H⟩
  ·obtain ⟨k8,k9,H⟩:=H
   exact Zaj (G:=Zae kp132 [(5,6,.call (vf (us (N.Zav (N.cnt b.natAbs) (b.natAbs-a.natAbs)))) none),(5,7,.call (bigA false (N.sg (N.Zab b) (b.natAbs-a.natAbs))) none)] []) 1000 [true] (bigA false (N.sg (N.Zab b) (b.natAbs-a.natAbs))) (by kernel_rfl) (bc (Zam (Zac.2 d7)) (bc rfl (bc rfl (bc rfl (bc rfl (bc rfl (bc rfl (bc rfl (bc rfl b0))))))))) q0 (ce (@ev142 fb fa b a k8) (ce (@ev89 (N.Zab b) false (N.cnt b.natAbs) (b.natAbs-a.natAbs) k9) c0)) H
  ·obtain ⟨k10,k11,H⟩:=H
   exact Zaj (G:=Zae kp132 [(5,6,.call (vf (us (N.Zav (N.cnt a.natAbs) (a.natAbs-b.natAbs)))) none),(5,7,.call (bigA false (N.sg (N.Zab a) (a.natAbs-b.natAbs))) none)] []) 1000 [false] (bigA false (N.sg (N.Zab a) (a.natAbs-b.natAbs))) (by kernel_rfl) (bc (Zak (fun h=>d7 (Zac.1 h))) (bc rfl (bc rfl (bc rfl (bc rfl b0))))) q0 (ce (@ev142 fa fb a b k10) (ce (@ev89 (N.Zab a) false (N.cnt a.natAbs) (a.natAbs-b.natAbs) k11) c0)) H
theorem vMul (fa fb:Bool) (a b:Int)  (dq:AV) (H :
  (N.ok a/\N.ok b) /\
  (N.Zay (N.cnt a.natAbs+N.cnt b.natAbs)/\N.fits (N.cnt a.natAbs+N.cnt b.natAbs) (a.natAbs*b.natAbs)) /\
  Weak (bigA false (N.sg (!N.Zab a==N.Zab b) (a.natAbs*b.natAbs))) dq) :
 vMul_at fa fb a b (Zag dq):=by
 unfold vMul_at
 obtain ⟨k1,k2,H⟩:=H
 exact Zaj (G:=Zae kp75 [(1,9,.call (vf (us (N.Zav (N.cnt a.natAbs+N.cnt b.natAbs) (a.natAbs*b.natAbs)))) none),(1,10,.call (bigA false (N.sg (!N.Zab a==N.Zab b) (a.natAbs*b.natAbs))) none)] []) 1000 [] (bigA false (N.sg (!N.Zab a==N.Zab b) (a.natAbs*b.natAbs))) (by kernel_rfl) (bc rfl (bc rfl (bc rfl (bc rfl (bc rfl b0))))) q0 (ce (@ev95 fa fb a b k1) (ce (@ev89 (!N.Zab a==N.Zab b) false (N.cnt a.natAbs+N.cnt b.natAbs) (a.natAbs*b.natAbs) k2) c0)) H
theorem vNeg0 (fa:Bool)  (dq:AV) (H :
  ∃ (b2:Bool) (l2:List Int),
  (Ev M1 (Conf.pure 89 [vb true,AV.vnil]) (ag [vb b2,vf (us l2)]) []) /\
  Weak (ag [vb b2,vf (us l2)]) dq) :
 vNeg0_at fa (Zag dq):=by
 unfold vNeg0_at
 obtain ⟨b2,l2,k2,H⟩:=H
 exact Zaj (G:=Zae kp92 [(1,6,.call (ag [vb b2,vf (us l2)]) none)] [(1,[3007,902006,4005,2004,2001])]) 1000 [] (ag [vb b2,vf (us l2)]) (by kernel_rfl) (bc rfl (bc rfl (bc rfl b0))) q0 (ce k2 c0) H
theorem vNeg (s fa:Bool) (x:Int) (a:List Int)  (dq:AV) (H :
  ∃ (b2:Bool) (l2:List Int),
  (Ev M1 (Conf.pure 89 [vb !s,vf (vu x::us a)]) (ag [vb b2,vf (us l2)]) []) /\
  ((a.length+1)*4<=1099511627776) /\
  Weak (ag [vb b2,vf (us l2)]) dq) :
 vNeg_at s fa x a (Zag dq):=by
 unfold vNeg_at
 obtain ⟨b2,l2,k2,H⟩:=H
 have w3:(us a).length=a.length:=List.length_map ..
 have i4:(decide (((us a).length+1)*4<=1099511627776))=true ↔ ((a.length+1)*4<=1099511627776):=(by (try rw [w3]);all_goals exact Zac)
 obtain ⟨k5,H⟩:=H
 exact Zaj (G:=Zae kp92 [(1,6,.call (ag [vb b2,vf (us l2)]) none)] [(1,[3007,6,4005,2004,2001])]) 1000 [] (ag [vb b2,vf (us l2)]) (by kernel_rfl) (bc rfl (bc rfl (bc (i4.2 k5) (bc rfl (bc rfl b0))))) q0 (ce k2 c0) H
theorem vCmp (fa fb:Bool) (a b:Int)  (dq:AV) (H :
  ((¬(N.Zab a=N.Zab b))->((N.Zab a=true)->vi (-1)=dq) /\
   (¬(N.Zab a=true)->vi 1=dq)) /\
  (¬(¬(N.Zab a=N.Zab b))->((N.Zab a=true)->(N.ok b/\N.ok a) /\
    vi (N.sgnI ((↑b.natAbs:Int)-(↑a.natAbs:Int)))=dq) /\
   (¬(N.Zab a=true)->(N.ok a/\N.ok b) /\
    vi (N.sgnI ((↑a.natAbs:Int)-(↑b.natAbs:Int)))=dq))) :
 vCmp_at fa fb a b (Zag dq):=by
 unfold vCmp_at
 rcases xq H with ⟨d2,H⟩|⟨d2,H⟩
 ·rcases xq H with ⟨d4,H⟩|⟨d4,H⟩
  ·exact Zas (G:=Zae kp78 [] []) 1000 [true,true] (asm:=[true,true,(!N.Zab a==N.Zab b)==true,0==0,(N.Zab a)==true]) (vi (-1)) (by kernel_rfl) (bc rfl (bc rfl (bc (Zam ((Zbq i_eq).2 d2)) (bc (beq_self_eq_true _) (bc (Zam ((Zbu _).2 d4)) b0))))) q0 c0 H
  ·exact Zas (G:=Zae kp78 [] []) 1000 [true,false] (asm:=[true,true,(!N.Zab a==N.Zab b)==true,0==0,(N.Zab a)==false]) (vi 1) (by kernel_rfl) (bc rfl (bc rfl (bc (Zam ((Zbq i_eq).2 d2)) (bc (beq_self_eq_true _) (bc (Zak (fun h=>d4 ((Zbu _).1 h))) b0))))) q0 c0 H
 ·rcases xq H with ⟨d6,H⟩|⟨d6,H⟩
  ·obtain ⟨k7,H⟩:=H
   exact Zas (G:=Zae kp78 [(6,4,.call (vi (N.sgnI ((↑b.natAbs:Int)-(↑a.natAbs:Int)))) none)] []) 1000 [false,true] (asm:=[true,true,(!N.Zab a==N.Zab b)==false,0==0,(N.Zab a)==true,true,true]) (vi (N.sgnI ((↑b.natAbs:Int)-(↑a.natAbs:Int)))) (by kernel_rfl) (bc rfl (bc rfl (bc (Zak (fun h=>d2 ((Zbq i_eq).1 h))) (bc (beq_self_eq_true _) (bc (Zam ((Zbu _).2 d6)) (bc rfl (bc rfl b0))))))) q0 (ce (@ev97 fb fa b a k7) c0) H
  ·obtain ⟨k8,H⟩:=H
   exact Zas (G:=Zae kp78 [(7,4,.call (vi (N.sgnI ((↑a.natAbs:Int)-(↑b.natAbs:Int)))) none)] []) 1000 [false,false] (asm:=[true,true,(!N.Zab a==N.Zab b)==false,0==0,(N.Zab a)==false,true,true]) (vi (N.sgnI ((↑a.natAbs:Int)-(↑b.natAbs:Int)))) (by kernel_rfl) (bc rfl (bc rfl (bc (Zak (fun h=>d2 ((Zbq i_eq).1 h))) (bc (beq_self_eq_true _) (bc (Zak (fun h=>d6 ((Zbu _).1 h))) (bc rfl (bc rfl b0))))))) q0 (ce (@ev97 fa fb a b k8) c0) H
end Go.Av

namespace Go.Av
open Go.Proofs
namespace N
def okB (v:Int):Prop:=cnt v.natAbs<=400000
end N
theorem Zcw {v:Int} (h:N.okB v):N.ok v:=by unfold N.okB at h;unfold N.ok;omega
theorem weak_bnil (b:Bool):Weak (.agg [.bool b,.vnil]) (.agg [.bool b,.vec false 1 []]):=by
 refine .agg _ _ rfl fun i x y hx hy => ?_
 match i with
 | 0=>simp at hx hy;subst hx;subst hy;exact .refl _
 | 1=>simp at hx hy;subst hx;subst hy;exact .vnil 1
 | i+2=>simp at hx
theorem limI_neg (v:Int):N.Zad (-v)=N.Zad v:=by unfold N.Zad;rw [Int.natAbs_neg]
theorem sg_add {a b:Int} (h:N.Zab a=N.Zab b):N.sg (N.Zab a) (a.natAbs+b.natAbs)=a+b:=by
 unfold N.sg
 by_cases k:a<0
 ·have kb:b<0:=Zar.1 (by rw [<- h];exact Zar.2 k)
  rw [if_pos (Zar.2 k)];omega
 ·have kb:¬b<0:=fun x=>k (Zar.1 (by rw [h];exact Zar.2 x))
  rw [if_neg (fun x=>k (Zar.1 x))];omega
theorem sg_sub {a b:Int} (h:¬N.Zab a=N.Zab b) (hl:b.natAbs<=a.natAbs):N.sg (N.Zab a) (a.natAbs-b.natAbs)=a+b:=by
 unfold N.sg
 by_cases k:a<0
 ·have kb:¬b<0:=fun x=>h (by rw [Zar.2 k,Zar.2 x])
  rw [if_pos (Zar.2 k)];omega
 ·have kb:b<0:=by
   by_cases kb:b<0
   ·exact kb
   ·exact absurd (by rw [Bool.eq_false_iff.2 (fun x=>k (Zar.1 x)),Bool.eq_false_iff.2 (fun x=>kb (Zar.1 x))]) h
  rw [if_neg (fun x=>k (Zar.1 x))];omega
theorem sg_mul (a b:Int):N.sg (!(N.Zab a==N.Zab b)) (a.natAbs*b.natAbs)=a*b:=by
 unfold N.sg
 have hm:((a.natAbs*b.natAbs:Nat):Int)=(a.natAbs:Int)*(b.natAbs:Int):=Int.natCast_mul _ _
 rw [hm]
 by_cases ka:a<0
 ·have ea:(a.natAbs:Int) = -a:=by omega
  rw [Zar.2 ka,ea]
  by_cases kb:b<0
  ·have eb:(b.natAbs:Int) = -b:=by omega
   rw [Zar.2 kb,eb,if_neg (by simp),Int.neg_mul_neg]
  ·have eb:(b.natAbs:Int)=b:=by omega
   rw [Bool.eq_false_iff.2 (fun x=>kb (Zar.1 x)),eb,if_pos (by simp),Int.neg_mul,Int.neg_neg]
 ·have ea:(a.natAbs:Int)=a:=by omega
  rw [Bool.eq_false_iff.2 (fun x=>ka (Zar.1 x)),ea]
  by_cases kb:b<0
  ·have eb:(b.natAbs:Int) = -b:=by omega
   rw [Zar.2 kb,eb,if_pos (by simp),Int.mul_neg,Int.neg_neg]
  ·have eb:(b.natAbs:Int)=b:=by omega
   rw [Bool.eq_false_iff.2 (fun x=>kb (Zar.1 x)),eb,if_neg (by simp)]
theorem ZbV {n:Int}:N.sgnI n<0 ↔ n<0:=by
 unfold N.sgnI
 (repeat' split) <;> omega
theorem ev132 (fa fb:Bool) (a b:Int) (h:N.okB a/\N.okB b):Ev M1 (.pure 132 [bigA fa a,bigA fb b]) (bigA false (a+b)) []:=by
 obtain ⟨ha,hb⟩:=h
 have oa:=Zcw ha
 have ob:=Zcw hb
 unfold N.okB at ha hb
 refine call132 (vAdd _ _ _ _ _ ⟨fun h=>⟨⟨oa,ob⟩,⟨?_,?_⟩,?_⟩,fun h=>⟨⟨oa,ob⟩,fun k=>⟨⟨ob,oa,?_⟩,⟨ob,ZcU (Zai _) (by omega)⟩,?_⟩,fun k=>⟨⟨oa,ob,?_⟩,⟨oa,ZcU (Zai _) (by omega)⟩,?_⟩⟩⟩)
 ·unfold N.Zay;omega
 ·exact Zfe (ZaT (Zai _) (by omega)) (ZaT (Zai _) (by omega))
 ·rw [sg_add h];exact .refl _
 ·rw [ZbV] at k;omega
 ·rw [ZbV] at k
  rw [sg_sub (fun x=>h x.symm) (by omega),Int.add_comm];exact .refl _
 ·rw [ZbV] at k;omega
 ·rw [ZbV] at k
  rw [sg_sub h (by omega)];exact .refl _
theorem ev75 (fa fb:Bool) (a b:Int) (h:N.okB a/\N.okB b):Ev M1 (.pure 75 [bigA fa a,bigA fb b]) (bigA false (a*b)) []:=by
 obtain ⟨ha,hb⟩:=h
 have oa:=Zcw ha
 have ob:=Zcw hb
 unfold N.okB at ha hb
 refine call75 (vMul _ _ _ _ _ ⟨⟨oa,ob⟩,⟨?_,ZcT (Zai _) (Zai _)⟩,?_⟩)
 ·unfold N.Zay;omega
 ·rw [sg_mul];exact .refl _
theorem ev78 (fa fb:Bool) (a b:Int) (h:N.okB a/\N.okB b):Ev M1 (.pure 78 [bigA fa a,bigA fb b]) (.int .i64 (N.sgnI (a-b))) []:=by
 have oa:=Zcw h.1
 have ob:=Zcw h.2
 refine call78 (vCmp _ _ _ _ _ ⟨fun k=>⟨fun ka => ?_,fun ka => ?_⟩,fun k=>⟨fun ka=>⟨⟨ob,oa⟩,?_⟩,fun ka=>⟨⟨oa,ob⟩,?_⟩⟩⟩)
 ·have kb:¬b<0:=fun x=>k (by rw [ka,Zar.2 x])
  rw [Zar] at ka
  congr 1;unfold N.sgnI;rw [if_pos (by omega)]
 ·have kb:b<0:=by
   by_cases kb:b<0
   ·exact kb
   ·exact absurd (by rw [Bool.eq_false_iff.2 ka,Bool.eq_false_iff.2 (fun x=>kb (Zar.1 x))]) k
  have ka:¬a<0:=fun x=>ka (Zar.2 x)
  congr 1;unfold N.sgnI;rw [if_neg (by omega),if_pos (by omega)]
 ·have k:=Classical.not_not.1 k
  have kb:=Zar.1 (k ▸ ka)
  rw [Zar] at ka
  congr 2;omega
 ·have k:=Classical.not_not.1 k
  have kb:¬b<0:=fun x=>ka (by rw [k];exact Zar.2 x)
  have ka:¬a<0:=fun x=>ka (Zar.2 x)
  congr 2;omega
theorem ev92 (fa:Bool) (v:Int) (h:N.okB v):Ev M1 (.pure 92 [bigA fa v]) (bigA false (-v)) []:=by
 have ov:=Zcw h
 by_cases h0:v=0
 ·subst h0
  have e1:N.Zab 0=false:=rfl
  have e2:N.Zad 0=[]:=ZcD
  have e3:bigA fa 0 = .agg [.bool false,.vec fa 1 []]:=by
   show AV.agg [.bool (N.Zab 0),.vec fa 1 ((N.Zad 0).map (.int .u32))]=_
   rw [e1,e2];rfl
  have e4:bigA false (-0) = .agg [.bool false,.vec false 1 []]:=by
   show AV.agg [.bool (N.Zab (-0)),.vec false 1 ((N.Zad (-0)).map (.int .u32))]=_
   rw [Int.neg_zero,e1,e2];rfl
  rw [e3,e4]
  refine call92 (vNeg0 fa _ ⟨false,[],?_,.refl _⟩)
  exact call89 (vSigned0 true _ (vSigned0A true _ (weak_bnil false)))
 ·have hne:N.Zad v ≠ []:=by
   intro e
   have:=Zbz v
   rw [e] at this
   exact h0 (Int.natAbs_eq_zero.1 (ZaE.1 this.symm))
  obtain ⟨x,l,hl⟩:=List.exists_cons_of_ne_nil hne
  have es:=ev89_a (!N.Zab v) false v ov
  have e5:N.sg (!N.Zab v) v.natAbs = -v:=by
   unfold N.sg
   by_cases k:v<0
   ·rw [Zar.2 k,if_neg (by simp)];omega
   ·rw [Bool.eq_false_iff.2 (fun x=>k (Zar.1 x)),if_pos (by simp)];omega
  rw [e5] at es
  have hle:=Zbz v
  rw [hl] at hle
  simp only [List.length_cons] at hle
  unfold N.ok at ov
  have e6:bigA fa v = .agg [.bool (N.Zab v),.vec fa 1 ((x::l).map (.int .u32))]:=by
   show AV.agg [.bool (N.Zab v),.vec fa 1 ((N.Zad v).map (.int .u32))]=_
   rw [hl]
  rw [hl] at es
  rw [e6]
  exact call92 (vNeg _ _ _ _ _ ⟨_,_,es,by omega,.refl _⟩)
theorem ev131 (fa fb:Bool) (a b:Int) (h:N.okB a/\N.okB b):Ev M1 (.pure 131 [bigA fa a,bigA fb b]) (bigA false (a-b)) []:=by
 have hb:N.okB (-b):=by have:=h.2;unfold N.okB at *;rwa [Int.natAbs_neg]
 have ea:=ev132 fa fb a (-b) ⟨h.1,hb⟩
 have e1:N.Zab (-b)=(bif !N.Zab b then decide (((N.Zad b).length:Int)>0) else false):=by
  have hl:=Zbz b
  unfold N.Zab
  by_cases k:b<0
  ·simp [k];omega
  ·have:decide (b<0)=false:=by simp [k]
   rw [this,Bool.not_false,cond_true,decide_eq_decide,hl]
   have:=ZaE (v:=b.natAbs)
   omega
 have e2:bigA fb (-b) = .agg [.bool (bif !N.Zab b then decide (((N.Zad b).length:Int)>0) else false),.vec fb 1 ((N.Zad b).map (.int .u32))]:=by
  show AV.agg [.bool (N.Zab (-b)),.vec fb 1 ((N.Zad (-b)).map (.int .u32))]=_
  rw [e1,limI_neg]
 rw [e2] at ea
 exact call131 (vSub _ _ _ _ _ ⟨_,_,ea,.refl _⟩)
theorem wrap_neg {n:Int} (h:-9223372036854775808<=n/\n<0):IntKind.u64.wrap n=n+18446744073709551616:=by
 have e1:(2:Int) ^ IntKind.u64.bits=18446744073709551616:=rfl
 have e3:IntKind.u64.signed=false:=rfl
 simp only [IntKind.wrap,e1,e3,Bool.false_and,Bool.false_eq_true,if_false]
 omega
theorem fits3 {u:Nat} (h:u<=18446744073709551615):N.fits 3 u:=by
 unfold N.fits
 have:(1000000000:Nat) ^ 3=1000000000000000000000000000:=by decide
 omega
def N.inI (n:Int):Prop:=-9223372036854775808<=n/\n<=9223372036854775807
theorem ev73 (n:Int) (h:N.inI n):Ev M1 (.pure 73 [.int .i64 n]) (bigA false n) []:=by
 unfold N.inI at h
 refine call73 (vFromInt64 n _ ⟨fun k => ?_,fun k => ?_⟩)
 ·have e1:IntKind.u64.wrap (0-IntKind.u64.wrap n) = -n:=by
   rw [wrap_neg ⟨h.1,k⟩]
   have e1:(2:Int) ^ IntKind.u64.bits=18446744073709551616:=rfl
   have e3:IntKind.u64.signed=false:=rfl
   simp only [IntKind.wrap,e1,e3,Bool.false_and,Bool.false_eq_true,if_false]
   omega
  have e2:N.sg (decide (n<0)) (-n).toNat=n:=by unfold N.sg;rw [if_pos (by simpa using k)];omega
  rw [e1,e2]
  exact ⟨by omega,⟨by unfold N.Zay;omega,fits3 (by omega)⟩,.refl _⟩
 ·have e1:IntKind.u64.wrap n=n:=wU64 ⟨by omega,by omega⟩
  have e2:N.sg (decide (n<0)) n.toNat=n:=by unfold N.sg;rw [if_neg (by simpa using k)];omega
  rw [e1,e2]
  exact ⟨by omega,⟨by unfold N.Zay;omega,fits3 (by omega)⟩,.refl _⟩
end Go.Av

namespace Go.Av
open Go.Proofs
set_option maxRecDepth 100000
def fi129:Fi:=⟨62,[.tmp 6]⟩
def kp129:List (Nat × List Nat):=[(0,[0,1,2]),(1,[0,1,2,7,8]),(2,[0,1,2,7,8,14,15]),(3,[0,1,2,7,8,14,15,16]),(4,[0,1,2,7,8,9,14,15]),(5,[0,1,2,8,9,10,14,15]),(6,[0,1,2,8,9,10,14,15,22]),(7,[0,1,2,8,9,10,14,15]),(8,[0,1,2,7,8,9,10,14,15]),(9,[0,1,2,7,9,11,14,15]),(10,[0,1,2,7,8,9,11,14,15]),(11,[0,1,2,7,8,9,11,12,14,15]),(12,[0,1,2,7,8,9,11,12,14,15,45]),(13,[0,1,2,7,8,9,11,12,14,15]),(14,[0,1,2,7,8,14,15]),(15,[0,1,2,7,8,14,15]),(16,[6])]
def fi130:Fi:=⟨37,[]⟩
def kp130:List (Nat × List Nat):=[(0,[0,1,4]),(1,[0,1,4,8,9]),(2,[0,1,4,8,9,10]),(3,[0,1,4,5,8,9]),(4,[0,1,5,6,8,9]),(5,[0,1,5,6,8,9,21]),(6,[0,1,5,6,8,9]),(7,[0,1,4,5,6,8,9]),(8,[0,1,4,5,6,8,9,29]),(9,[0,1,4,5,6,8,9]),(10,[0,1,4,8,9]),(11,[0,1,4,8,9])]
def ZfB (u b:List Int) (fb:Bool) (v lo len:Nat) (g:Int) (Q:AV->Heap->Prop):Prop:=Wp M1 (.run fi129 (atC (cd Tryz.f129) []) [(0,.ref 0 v lo len),(1,.vec fb 1 (b.map (.int .u32))),(2,.int .u64 g)] [⟨u.map (.int .u32),1,v,false,true⟩]) Q
def Za8 (u b:List Int) (fb:Bool) (v lo len:Nat) (g c w n i:Int) (Q:AV->Heap->Prop):Prop:=Wp M1 (.run fi129 (atC (cd Tryz.f129) [1,1,0,1,0,0]) [(0,.ref 0 v lo len),(1,.vec fb 1 (b.map (.int .u32))),(2,.int .u64 g),(7,.int .u64 c),(8,.int .u64 w),(14,.int .i64 n),(15,.int .i64 i)] [⟨u.map (.int .u32),1,v,false,true⟩]) Q
def Zgi (u b:List Int) (fb:Bool) (v lo len:Nat) (Q:AV->Heap->Prop):Prop:=Wp M1 (.run fi130 (atC (cd Tryz.f130) []) [(0,.ref 0 v lo len),(1,.vec fb 1 (b.map (.int .u32)))] [⟨u.map (.int .u32),1,v,false,true⟩]) Q
def Zbh (u b:List Int) (fb:Bool) (v lo len:Nat) (c n i:Int) (Q:AV->Heap->Prop):Prop:=Wp M1 (.run fi130 (atC (cd Tryz.f130) [1,1,0,0]) [(0,.ref 0 v lo len),(1,.vec fb 1 (b.map (.int .u32))),(4,.int .u32 c),(8,.int .i64 n),(9,.int .i64 i)] [⟨u.map (.int .u32),1,v,false,true⟩]) Q
theorem owncall129 {args:List AV} {L:Heap} {Q:AV->Heap->Prop} (h:Wp M1 (.run fi129 [.code (cd Tryz.f129)] (Za2 0 args) L) Q):Wp M1 (.own 129 args L) Q:=
 ZdU Tryz.f129 fi129 (by kernel_rfl) (by kernel_rfl) (by kernel_rfl) (by kernel_rfl) h
theorem owncall130 {args:List AV} {L:Heap} {Q:AV->Heap->Prop} (h:Wp M1 (.run fi130 [.code (cd Tryz.f130)] (Za2 0 args) L) Q):Wp M1 (.own 130 args L) Q:=
 ZdU Tryz.f130 fi130 (by kernel_rfl) (by kernel_rfl) (by kernel_rfl) (by kernel_rfl) h
theorem vSubtract (u b:List Int) (fb:Bool) (v lo len:Nat) (g:Int)  (Q:AV->Heap->Prop) (H :
  Za8 u b fb v lo len g 0 0 ((↑len:Int)) 0 Q) :
 ZfB u b fb v lo len g Q:=by
 unfold ZfB
 exact Zaf (G:=Zae kp129 [] []) 1000 [] ⟨(atC (cd Tryz.f129) [1,1,0,1,0,0]),[(0,AV.ref 0 v lo len),(1,AV.vec fb 1 (us b)),(2,vw g),(7,vw 0),(8,vw 0),(14,vi (↑len:Int)),(15,vi 0)],[⟨us u,1,v,false,true⟩],[v==v],[],_⟩ (by kernel_rfl) (bc (beq_self_eq_true _) b0) q0 c0 H
noncomputable abbrev ZfJ (u:List Int) (lo:Nat) (i:Int):=vu (u.getD (lo+i.toNat) default)
theorem Zhv (u b:List Int) (fb:Bool) (v lo len:Nat) (g c w n i:Int)  (Q:AV->Heap->Prop) (H :
  ((i<n)->((i<(↑b.length:Int))->(0<=i) /\
    (i.toNat<b.length) /\
    (0<=b.getD i.toNat default/\b.getD i.toNat default<=18446744073709551615) /\
    (0<=b.getD i.toNat default*g/\b.getD i.toNat default*g<=18446744073709551615) /\
    (0<=c+b.getD i.toNat default*g/\c+b.getD i.toNat default*g<=18446744073709551615) /\
    (0<=(c+b.getD i.toNat default*g).tdiv 1000000000/\(c+b.getD i.toNat default*g).tdiv 1000000000<=18446744073709551615) /\
    (0<=(c+b.getD i.toNat default*g).tmod 1000000000+w/\(c+b.getD i.toNat default*g).tmod 1000000000+w<=18446744073709551615) /\
    (i.toNat<len) /\
    (lo+i.toNat<u.length) /\
    (0<=u.getD (lo+i.toNat) default/\u.getD (lo+i.toNat) default<=18446744073709551615) /\
    ((u.getD (lo+i.toNat) default<(c+b.getD i.toNat default*g).tmod 1000000000+w)->(0<=u.getD (lo+i.toNat) default+1000000000/\u.getD (lo+i.toNat) default+1000000000<=18446744073709551615) /\
     (0<=u.getD (lo+i.toNat) default+1000000000-((c+b.getD i.toNat default*g).tmod 1000000000+w)/\u.getD (lo+i.toNat) default+1000000000-((c+b.getD i.toNat default*g).tmod 1000000000+w)<=18446744073709551615) /\
     (0<=u.getD (lo+i.toNat) default+1000000000-((c+b.getD i.toNat default*g).tmod 1000000000+w)/\u.getD (lo+i.toNat) default+1000000000-((c+b.getD i.toNat default*g).tmod 1000000000+w)<=4294967295) /\
     (-9223372036854775808<=i+1/\i+1<=9223372036854775807) /\
     Za8 (u.set (lo+i.toNat) (u.getD (lo+i.toNat) default+1000000000-((c+b.getD i.toNat default*g).tmod 1000000000+w))) b fb v lo len g ((c+b.getD i.toNat default*g).tdiv 1000000000) 1 n (i+1) Q) /\
    (¬(u.getD (lo+i.toNat) default<(c+b.getD i.toNat default*g).tmod 1000000000+w)->(0<=u.getD (lo+i.toNat) default-((c+b.getD i.toNat default*g).tmod 1000000000+w)/\u.getD (lo+i.toNat) default-((c+b.getD i.toNat default*g).tmod 1000000000+w)<=18446744073709551615) /\
     (0<=u.getD (lo+i.toNat) default-((c+b.getD i.toNat default*g).tmod 1000000000+w)/\u.getD (lo+i.toNat) default-((c+b.getD i.toNat default*g).tmod 1000000000+w)<=4294967295) /\
     (-9223372036854775808<=i+1/\i+1<=9223372036854775807) /\
     Za8 (u.set (lo+i.toNat) (u.getD (lo+i.toNat) default-((c+b.getD i.toNat default*g).tmod 1000000000+w))) b fb v lo len g ((c+b.getD i.toNat default*g).tdiv 1000000000) 0 n (i+1) Q)) /\
   (¬(i<(↑b.length:Int))->(0<=c.tdiv 1000000000/\c.tdiv 1000000000<=18446744073709551615) /\
    (0<=c.tmod 1000000000+w/\c.tmod 1000000000+w<=18446744073709551615) /\
    (0<=i) /\
    (i.toNat<len) /\
    (lo+i.toNat<u.length) /\
    (0<=u.getD (lo+i.toNat) default/\u.getD (lo+i.toNat) default<=18446744073709551615) /\
    ((u.getD (lo+i.toNat) default<c.tmod 1000000000+w)->(0<=u.getD (lo+i.toNat) default+1000000000/\u.getD (lo+i.toNat) default+1000000000<=18446744073709551615) /\
     (0<=u.getD (lo+i.toNat) default+1000000000-(c.tmod 1000000000+w)/\u.getD (lo+i.toNat) default+1000000000-(c.tmod 1000000000+w)<=18446744073709551615) /\
     (0<=u.getD (lo+i.toNat) default+1000000000-(c.tmod 1000000000+w)/\u.getD (lo+i.toNat) default+1000000000-(c.tmod 1000000000+w)<=4294967295) /\
     (-9223372036854775808<=i+1/\i+1<=9223372036854775807) /\
     Za8 (u.set (lo+i.toNat) (u.getD (lo+i.toNat) default+1000000000-(c.tmod 1000000000+w))) b fb v lo len g (c.tdiv 1000000000) 1 n (i+1) Q) /\
    (¬(u.getD (lo+i.toNat) default<c.tmod 1000000000+w)->(0<=u.getD (lo+i.toNat) default-(c.tmod 1000000000+w)/\u.getD (lo+i.toNat) default-(c.tmod 1000000000+w)<=18446744073709551615) /\
     (0<=u.getD (lo+i.toNat) default-(c.tmod 1000000000+w)/\u.getD (lo+i.toNat) default-(c.tmod 1000000000+w)<=4294967295) /\
     (-9223372036854775808<=i+1/\i+1<=9223372036854775807) /\
     Za8 (u.set (lo+i.toNat) (u.getD (lo+i.toNat) default-(c.tmod 1000000000+w))) b fb v lo len g (c.tdiv 1000000000) 0 n (i+1) Q))) /\
  (¬(i<n)->Q (vb (bif decide (w>0) then true else decide (c>0))) [{ elems:=us u,es:=1,ver:=v,frozen:=false,clean:=true }])) :
 Za8 u b fb v lo len g c w n i Q:=by
 unfold Za8
 rcases xq H with ⟨d2,H⟩|⟨d2,H⟩
 ·have w3:(us b).length=b.length:=List.length_map ..
  have i4:(decide (i<(↑(us b).length:Int)))=true ↔ (i<(↑b.length:Int)):=(by (try rw [w3]);all_goals exact Zac)
  rcases xq H with ⟨d5,H⟩|⟨d5,H⟩
  ·obtain ⟨k7,H⟩:=H
   have i8:(decide (i.toNat<(us b).length))=true ↔ (i.toNat<b.length):=(by (try rw [w3]);all_goals exact Zac)
   obtain ⟨k9,k10,H⟩:=H
   have w11:wu (b.getD i.toNat default)=b.getD i.toNat default:=wU64 k10
   obtain ⟨k12,H⟩:=H
   have w13:wu (b.getD i.toNat default*g)=b.getD i.toNat default*g:=wU64 k12
   obtain ⟨k14,H⟩:=H
   have w15:wu (c+b.getD i.toNat default*g)=c+b.getD i.toNat default*g:=wU64 k14
   obtain ⟨k16,H⟩:=H
   have w17:wu ((c+b.getD i.toNat default*g).tdiv 1000000000)=(c+b.getD i.toNat default*g).tdiv 1000000000:=wU64 k16
   obtain ⟨k18,H⟩:=H
   have w19:wu ((c+b.getD i.toNat default*g).tmod 1000000000+w)=(c+b.getD i.toNat default*g).tmod 1000000000+w:=wU64 k18
   obtain ⟨k22,k23,k24,H⟩:=H
   have w25:wu (u.getD (lo+i.toNat) default)=u.getD (lo+i.toNat) default:=wU64 k24
   have i26:(decide (wu (u.getD (lo+i.toNat) default)<wu ((wu (c+wu (wu (b.getD i.toNat default)*g))).tmod 1000000000+w)))=true ↔ (u.getD (lo+i.toNat) default<(c+b.getD i.toNat default*g).tmod 1000000000+w):=(by (try rw [w11]);(try rw [w13]);(try rw [w15]);(try rw [w19]);(try rw [w25]);all_goals exact Zac)
   refine Zaf (G:=Zae kp129 [(7,4,.elem (vu (b.getD i.toNat default))),(11,3,.elem (ZfJ u lo i))] []) 27 [true,true] ⟨(atC (cd Tryz.f129) [1,1,0,1,0,0,1,1,0,0,1,1,1,1,1,1,1,0,1]),[(0,AV.ref 0 v lo len),(1,AV.vec fb 1 (us b)),(2,vw g),(7,vw (wu ((wu (c+wu (wu (b.getD i.toNat default)*g))).tdiv 1000000000))),(8,vw 0),(9,vi i),(11,vw (wu ((wu (c+wu (wu (b.getD i.toNat default)*g))).tmod 1000000000+w))),(12,vw (wu (u.getD (lo+i.toNat) default))),(14,vi n),(15,vi i),(45,vb (decide (wu (u.getD (lo+i.toNat) default)<wu ((wu (c+wu (wu (b.getD i.toNat default)*g))).tmod 1000000000+w))))],[⟨us u,1,v,false,true⟩],[(decide (i<n))==true,(decide (i<(↑(us b).length:Int)))==true,decide (0<=i),decide (i.toNat<(us b).length),true,true,v==v,decide (0<=i),decide (i.toNat<len),v==v],[((us b).get?Internal i.toNat=some (vu (b.getD i.toNat default))),((us u).get?Internal (lo+i.toNat)=some (ZfJ u lo i))],_⟩ (by kernel_rfl) (bc (Zam (Zac.2 d2)) (bc (Zam (i4.2 d5)) (bc (Zac.2 k7) (bc (i8.2 k9) (bc rfl (bc rfl (bc (beq_self_eq_true _) (bc (Zac.2 k7) (bc (Zac.2 k22) (bc (beq_self_eq_true _) b0)))))))))) (qc (Zat k9) (qc (Zat k23) q0)) c0 ?_
   rcases xq H with ⟨d27,H⟩|⟨d27,H⟩
   ·obtain ⟨k28,H⟩:=H
    have w29:wu (u.getD (lo+i.toNat) default+1000000000)=u.getD (lo+i.toNat) default+1000000000:=wU64 k28
    obtain ⟨k32,H⟩:=H
    have w33:wu (u.getD (lo+i.toNat) default+1000000000-((c+b.getD i.toNat default*g).tmod 1000000000+w))=u.getD (lo+i.toNat) default+1000000000-((c+b.getD i.toNat default*g).tmod 1000000000+w):=wU64 k32
    obtain ⟨k34,H⟩:=H
    have w35:wv (u.getD (lo+i.toNat) default+1000000000-((c+b.getD i.toNat default*g).tmod 1000000000+w))=u.getD (lo+i.toNat) default+1000000000-((c+b.getD i.toNat default*g).tmod 1000000000+w):=wU32 k34
    have w36:(us u).set (lo+i.toNat) (vu (u.getD (lo+i.toNat) default+1000000000-((c+b.getD i.toNat default*g).tmod 1000000000+w)))=us (u.set (lo+i.toNat) (u.getD (lo+i.toNat) default+1000000000-((c+b.getD i.toNat default*g).tmod 1000000000+w))):=(Zbf rfl rfl)
    obtain ⟨k37,H⟩:=H
    have w38:wi (i+1)=i+1:=wI64 k37
    exact Zaf (G:=Zae kp129 [(14,7,.elem (ZfJ u lo i))] []) 1000 [true] ⟨(atC (cd Tryz.f129) [1,1,0,1,0,0]),[(0,AV.ref 0 v lo len),(1,AV.vec fb 1 (us b)),(2,vw g),(7,vw (wu ((wu (c+wu (wu (b.getD i.toNat default)*g))).tdiv 1000000000))),(8,vw 1),(14,vi n),(15,vi (wi (i+1)))],[⟨(us u).set (lo+i.toNat) (vu (wv (wu (wu (wu (u.getD (lo+i.toNat) default)+1000000000)-wu ((wu (c+wu (wu (b.getD i.toNat default)*g))).tmod 1000000000+w))))),1,v,false,true⟩],[(decide (wu (u.getD (lo+i.toNat) default)<wu ((wu (c+wu (wu (b.getD i.toNat default)*g))).tmod 1000000000+w)))==true,v==v,decide (0<=i),decide (i.toNat<len),v==v],[((us u).get?Internal (lo+i.toNat)=some (ZfJ u lo i))],_⟩ (by kernel_rfl) (bc (Zam (i26.2 d27)) (bc (beq_self_eq_true _) (bc (Zac.2 k7) (bc (Zac.2 k22) (bc (beq_self_eq_true _) b0))))) (qc (Zat k23) q0) c0 (by (try rw [w11]);(try rw [w13]);(try rw [w15]);(try rw [w17]);(try rw [w19]);(try rw [w25]);(try rw [w29]);(try rw [w33]);(try rw [w35]);(try rw [w36]);(try rw [w38]);all_goals exact H)
   ·obtain ⟨k41,H⟩:=H
    have w42:wu (u.getD (lo+i.toNat) default-((c+b.getD i.toNat default*g).tmod 1000000000+w))=u.getD (lo+i.toNat) default-((c+b.getD i.toNat default*g).tmod 1000000000+w):=wU64 k41
    obtain ⟨k43,H⟩:=H
    have w44:wv (u.getD (lo+i.toNat) default-((c+b.getD i.toNat default*g).tmod 1000000000+w))=u.getD (lo+i.toNat) default-((c+b.getD i.toNat default*g).tmod 1000000000+w):=wU32 k43
    have w45:(us u).set (lo+i.toNat) (vu (u.getD (lo+i.toNat) default-((c+b.getD i.toNat default*g).tmod 1000000000+w)))=us (u.set (lo+i.toNat) (u.getD (lo+i.toNat) default-((c+b.getD i.toNat default*g).tmod 1000000000+w))):=(Zbf rfl rfl)
    obtain ⟨k46,H⟩:=H
    have w47:wi (i+1)=i+1:=wI64 k46
    exact Zaf (G:=Zae kp129 [(14,7,.elem (ZfJ u lo i))] []) 1000 [false] ⟨(atC (cd Tryz.f129) [1,1,0,1,0,0]),[(0,AV.ref 0 v lo len),(1,AV.vec fb 1 (us b)),(2,vw g),(7,vw (wu ((wu (c+wu (wu (b.getD i.toNat default)*g))).tdiv 1000000000))),(8,vw 0),(14,vi n),(15,vi (wi (i+1)))],[⟨(us u).set (lo+i.toNat) (vu (wv (wu (wu (u.getD (lo+i.toNat) default)-wu ((wu (c+wu (wu (b.getD i.toNat default)*g))).tmod 1000000000+w))))),1,v,false,true⟩],[(decide (wu (u.getD (lo+i.toNat) default)<wu ((wu (c+wu (wu (b.getD i.toNat default)*g))).tmod 1000000000+w)))==false,v==v,decide (0<=i),decide (i.toNat<len),v==v],[((us u).get?Internal (lo+i.toNat)=some (ZfJ u lo i))],_⟩ (by kernel_rfl) (bc (Zak (fun h=>d27 (i26.1 h))) (bc (beq_self_eq_true _) (bc (Zac.2 k7) (bc (Zac.2 k22) (bc (beq_self_eq_true _) b0))))) (qc (Zat k23) q0) c0 (by (try rw [w11]);(try rw [w13]);(try rw [w15]);(try rw [w17]);(try rw [w19]);(try rw [w25]);(try rw [w42]);(try rw [w44]);(try rw [w45]);(try rw [w47]);all_goals exact H)
  ·obtain ⟨k48,H⟩:=H
   have w49:wu (c.tdiv 1000000000)=c.tdiv 1000000000:=wU64 k48
   obtain ⟨k50,H⟩:=H
   have w51:wu (c.tmod 1000000000+w)=c.tmod 1000000000+w:=wU64 k50
   obtain ⟨k53,k55,k56,k57,H⟩:=H
   have w58:wu (u.getD (lo+i.toNat) default)=u.getD (lo+i.toNat) default:=wU64 k57
   have i59:(decide (wu (u.getD (lo+i.toNat) default)<wu (c.tmod 1000000000+w)))=true ↔ (u.getD (lo+i.toNat) default<c.tmod 1000000000+w):=(by (try rw [w51]);(try rw [w58]);all_goals exact Zac)
   refine Zaf (G:=Zae kp129 [(11,3,.elem (ZfJ u lo i))] []) 27 [true,false] ⟨(atC (cd Tryz.f129) [1,1,0,1,0,0,1,1,0,0,1,1,1,1,1,1,1,0,1]),[(0,AV.ref 0 v lo len),(1,AV.vec fb 1 (us b)),(2,vw g),(7,vw (wu (c.tdiv 1000000000))),(8,vw 0),(9,vi i),(11,vw (wu (c.tmod 1000000000+w))),(12,vw (wu (u.getD (lo+i.toNat) default))),(14,vi n),(15,vi i),(45,vb (decide (wu (u.getD (lo+i.toNat) default)<wu (c.tmod 1000000000+w))))],[⟨us u,1,v,false,true⟩],[(decide (i<n))==true,(decide (i<(↑(us b).length:Int)))==false,true,true,v==v,decide (0<=i),decide (i.toNat<len),v==v],[((us u).get?Internal (lo+i.toNat)=some (ZfJ u lo i))],_⟩ (by kernel_rfl) (bc (Zam (Zac.2 d2)) (bc (Zak (fun h=>d5 (i4.1 h))) (bc rfl (bc rfl (bc (beq_self_eq_true _) (bc (Zac.2 k53) (bc (Zac.2 k55) (bc (beq_self_eq_true _) b0)))))))) (qc (Zat k56) q0) c0 ?_
   rcases xq H with ⟨d60,H⟩|⟨d60,H⟩
   ·obtain ⟨k61,H⟩:=H
    have w62:wu (u.getD (lo+i.toNat) default+1000000000)=u.getD (lo+i.toNat) default+1000000000:=wU64 k61
    obtain ⟨k65,H⟩:=H
    have w66:wu (u.getD (lo+i.toNat) default+1000000000-(c.tmod 1000000000+w))=u.getD (lo+i.toNat) default+1000000000-(c.tmod 1000000000+w):=wU64 k65
    obtain ⟨k67,H⟩:=H
    have w68:wv (u.getD (lo+i.toNat) default+1000000000-(c.tmod 1000000000+w))=u.getD (lo+i.toNat) default+1000000000-(c.tmod 1000000000+w):=wU32 k67
    have w69:(us u).set (lo+i.toNat) (vu (u.getD (lo+i.toNat) default+1000000000-(c.tmod 1000000000+w)))=us (u.set (lo+i.toNat) (u.getD (lo+i.toNat) default+1000000000-(c.tmod 1000000000+w))):=(Zbf rfl rfl)
    obtain ⟨k70,H⟩:=H
    have w71:wi (i+1)=i+1:=wI64 k70
    exact Zaf (G:=Zae kp129 [(14,7,.elem (ZfJ u lo i))] []) 1000 [true] ⟨(atC (cd Tryz.f129) [1,1,0,1,0,0]),[(0,AV.ref 0 v lo len),(1,AV.vec fb 1 (us b)),(2,vw g),(7,vw (wu (c.tdiv 1000000000))),(8,vw 1),(14,vi n),(15,vi (wi (i+1)))],[⟨(us u).set (lo+i.toNat) (vu (wv (wu (wu (wu (u.getD (lo+i.toNat) default)+1000000000)-wu (c.tmod 1000000000+w))))),1,v,false,true⟩],[(decide (wu (u.getD (lo+i.toNat) default)<wu (c.tmod 1000000000+w)))==true,v==v,decide (0<=i),decide (i.toNat<len),v==v],[((us u).get?Internal (lo+i.toNat)=some (ZfJ u lo i))],_⟩ (by kernel_rfl) (bc (Zam (i59.2 d60)) (bc (beq_self_eq_true _) (bc (Zac.2 k53) (bc (Zac.2 k55) (bc (beq_self_eq_true _) b0))))) (qc (Zat k56) q0) c0 (by (try rw [w49]);(try rw [w51]);(try rw [w58]);(try rw [w62]);(try rw [w66]);(try rw [w68]);(try rw [w69]);(try rw [w71]);all_goals exact H)
   ·obtain ⟨k74,H⟩:=H
    have w75:wu (u.getD (lo+i.toNat) default-(c.tmod 1000000000+w))=u.getD (lo+i.toNat) default-(c.tmod 1000000000+w):=wU64 k74
    obtain ⟨k76,H⟩:=H
    have w77:wv (u.getD (lo+i.toNat) default-(c.tmod 1000000000+w))=u.getD (lo+i.toNat) default-(c.tmod 1000000000+w):=wU32 k76
    have w78:(us u).set (lo+i.toNat) (vu (u.getD (lo+i.toNat) default-(c.tmod 1000000000+w)))=us (u.set (lo+i.toNat) (u.getD (lo+i.toNat) default-(c.tmod 1000000000+w))):=(Zbf rfl rfl)
    obtain ⟨k79,H⟩:=H
    have w80:wi (i+1)=i+1:=wI64 k79
    exact Zaf (G:=Zae kp129 [(14,7,.elem (ZfJ u lo i))] []) 1000 [false] ⟨(atC (cd Tryz.f129) [1,1,0,1,0,0]),[(0,AV.ref 0 v lo len),(1,AV.vec fb 1 (us b)),(2,vw g),(7,vw (wu (c.tdiv 1000000000))),(8,vw 0),(14,vi n),(15,vi (wi (i+1)))],[⟨(us u).set (lo+i.toNat) (vu (wv (wu (wu (u.getD (lo+i.toNat) default)-wu (c.tmod 1000000000+w))))),1,v,false,true⟩],[(decide (wu (u.getD (lo+i.toNat) default)<wu (c.tmod 1000000000+w)))==false,v==v,decide (0<=i),decide (i.toNat<len),v==v],[((us u).get?Internal (lo+i.toNat)=some (ZfJ u lo i))],_⟩ (by kernel_rfl) (bc (Zak (fun h=>d60 (i59.1 h))) (bc (beq_self_eq_true _) (bc (Zac.2 k53) (bc (Zac.2 k55) (bc (beq_self_eq_true _) b0))))) (qc (Zat k56) q0) c0 (by (try rw [w49]);(try rw [w51]);(try rw [w58]);(try rw [w75]);(try rw [w77]);(try rw [w78]);(try rw [w80]);all_goals exact H)
 ·exact ZaB (G:=Zae kp129 [] []) 1000 [false] (k:=((atC (cd Tryz.f129) [1,1,1,1])).tail) (env':=[(6,vb (bif decide (w>0) then true else decide (c>0)))]) (L':=[⟨us u,1,v,false,true⟩]) (asm:=[(decide (i<n))==false]) (eqs:=[]) (calls:=[]) (vb (bif decide (w>0) then true else decide (c>0))) (by kernel_rfl) (by kernel_rfl) (Zaa (Zak (fun h=>d2 (Zac.1 h))) Zal) Zao Zap H
theorem vRestore (u b:List Int) (fb:Bool) (v lo len:Nat)  (Q:AV->Heap->Prop) (H :
  Zbh u b fb v lo len 0 ((↑len:Int)) 0 Q) :
 Zgi u b fb v lo len Q:=by
 unfold Zgi
 exact Zaf (G:=Zae kp130 [] []) 1000 [] ⟨(atC (cd Tryz.f130) [1,1,0,0]),[(0,AV.ref 0 v lo len),(1,AV.vec fb 1 (us b)),(4,vu 0),(8,vi (↑len:Int)),(9,vi 0)],[⟨us u,1,v,false,true⟩],[v==v],[],_⟩ (by kernel_rfl) (bc (beq_self_eq_true _) b0) q0 c0 H
noncomputable abbrev Zhd (u:List Int) (lo:Nat) (i:Int):=vu (u.getD (lo+i.toNat) default)
theorem vRestoreA (u b:List Int) (fb:Bool) (v lo len:Nat) (c n i:Int)  (Q:AV->Heap->Prop) (H :
  ((i<n)->(0<=i) /\
   (i.toNat<len) /\
   (lo+i.toNat<u.length) /\
   (0<=u.getD (lo+i.toNat) default+c/\u.getD (lo+i.toNat) default+c<=4294967295) /\
   ((i<(↑b.length:Int))->(i.toNat<b.length) /\
    (0<=u.getD (lo+i.toNat) default+c+b.getD i.toNat default/\u.getD (lo+i.toNat) default+c+b.getD i.toNat default<=4294967295) /\
    ((u.getD (lo+i.toNat) default+c+b.getD i.toNat default>=1000000000)->(0<=u.getD (lo+i.toNat) default+c+b.getD i.toNat default-1000000000/\u.getD (lo+i.toNat) default+c+b.getD i.toNat default-1000000000<=4294967295) /\
     (-9223372036854775808<=i+1/\i+1<=9223372036854775807) /\
     Zbh (u.set (lo+i.toNat) (u.getD (lo+i.toNat) default+c+b.getD i.toNat default-1000000000)) b fb v lo len 1 n (i+1) Q) /\
    (¬(u.getD (lo+i.toNat) default+c+b.getD i.toNat default>=1000000000)->(-9223372036854775808<=i+1/\i+1<=9223372036854775807) /\
     Zbh (u.set (lo+i.toNat) (u.getD (lo+i.toNat) default+c+b.getD i.toNat default)) b fb v lo len 0 n (i+1) Q)) /\
   (¬(i<(↑b.length:Int))->((u.getD (lo+i.toNat) default+c>=1000000000)->(0<=u.getD (lo+i.toNat) default+c-1000000000/\u.getD (lo+i.toNat) default+c-1000000000<=4294967295) /\
     (-9223372036854775808<=i+1/\i+1<=9223372036854775807) /\
     Zbh (u.set (lo+i.toNat) (u.getD (lo+i.toNat) default+c-1000000000)) b fb v lo len 1 n (i+1) Q) /\
    (¬(u.getD (lo+i.toNat) default+c>=1000000000)->(-9223372036854775808<=i+1/\i+1<=9223372036854775807) /\
     Zbh (u.set (lo+i.toNat) (u.getD (lo+i.toNat) default+c)) b fb v lo len 0 n (i+1) Q))) /\
  (¬(i<n)->Q (tu []) [{ elems:=us u,es:=1,ver:=v,frozen:=false,clean:=true }])) :
 Zbh u b fb v lo len c n i Q:=by
 unfold Zbh
 rcases xq H with ⟨d2,H⟩|⟨d2,H⟩
 ·obtain ⟨k4,k6,k7,k8,H⟩:=H
  have w9:wv (u.getD (lo+i.toNat) default+c)=u.getD (lo+i.toNat) default+c:=wU32 k8
  have w10:(us b).length=b.length:=List.length_map ..
  have i11:(decide (i<(↑(us b).length:Int)))=true ↔ (i<(↑b.length:Int)):=(by (try rw [w10]);all_goals exact Zac)
  refine Zaf (G:=Zae kp130 [(4,3,.elem (Zhd u lo i))] []) 14 [true] ⟨(atC (cd Tryz.f130) [1,1,0,0,1,1,0,0,1,1,0,1]),[(0,AV.ref 0 v lo len),(1,AV.vec fb 1 (us b)),(5,vi i),(6,vu (wv (u.getD (lo+i.toNat) default+c))),(8,vi n),(9,vi i),(21,vb (decide (i<(↑(us b).length:Int))))],[⟨us u,1,v,false,true⟩],[(decide (i<n))==true,v==v,decide (0<=i),decide (i.toNat<len),v==v],[((us u).get?Internal (lo+i.toNat)=some (Zhd u lo i))],_⟩ (by kernel_rfl) (bc (Zam (Zac.2 d2)) (bc (beq_self_eq_true _) (bc (Zac.2 k4) (bc (Zac.2 k6) (bc (beq_self_eq_true _) b0))))) (qc (Zat k7) q0) c0 ?_
  rcases xq H with ⟨d12,H⟩|⟨d12,H⟩
  ·have i14:(decide (i.toNat<(us b).length))=true ↔ (i.toNat<b.length):=(by (try rw [w10]);all_goals exact Zac)
   obtain ⟨k15,k16,H⟩:=H
   have w17:wv (u.getD (lo+i.toNat) default+c+b.getD i.toNat default)=u.getD (lo+i.toNat) default+c+b.getD i.toNat default:=wU32 k16
   have i18:(decide (wv (wv (u.getD (lo+i.toNat) default+c)+b.getD i.toNat default)>=1000000000))=true ↔ (u.getD (lo+i.toNat) default+c+b.getD i.toNat default>=1000000000):=(by (try rw [w9]);(try rw [w17]);all_goals exact Zac)
   refine Zaf (G:=Zae kp130 [(6,4,.elem (vu (b.getD i.toNat default)))] []) 7 [true] ⟨(atC (cd Tryz.f130) [1,1,0,0,1,1,0,0,1,1,1,1,0,1]),[(0,AV.ref 0 v lo len),(1,AV.vec fb 1 (us b)),(4,vu 0),(5,vi i),(6,vu (wv (wv (u.getD (lo+i.toNat) default+c)+b.getD i.toNat default))),(8,vi n),(9,vi i),(29,vb (decide (wv (wv (u.getD (lo+i.toNat) default+c)+b.getD i.toNat default)>=1000000000)))],[⟨us u,1,v,false,true⟩],_,[((us b).get?Internal i.toNat=some (vu (b.getD i.toNat default)))],_⟩ (by kernel_rfl) (bc (Zam (i11.2 d12)) (bc (Zac.2 k4) (bc (i14.2 k15) b0))) (qc (Zat k15) q0) c0 ?_
   rcases xq H with ⟨d19,H⟩|⟨d19,H⟩
   ·obtain ⟨k20,H⟩:=H
    have w21:wv (u.getD (lo+i.toNat) default+c+b.getD i.toNat default-1000000000)=u.getD (lo+i.toNat) default+c+b.getD i.toNat default-1000000000:=wU32 k20
    have w24:(us u).set (lo+i.toNat) (vu (u.getD (lo+i.toNat) default+c+b.getD i.toNat default-1000000000))=us (u.set (lo+i.toNat) (u.getD (lo+i.toNat) default+c+b.getD i.toNat default-1000000000)):=(Zbf rfl rfl)
    obtain ⟨k25,H⟩:=H
    have w26:wi (i+1)=i+1:=wI64 k25
    exact Zaf (G:=Zae kp130 [(10,4,.elem (Zhd u lo i))] []) 1000 [true] ⟨(atC (cd Tryz.f130) [1,1,0,0]),[(0,AV.ref 0 v lo len),(1,AV.vec fb 1 (us b)),(4,vu 1),(8,vi n),(9,vi (wi (i+1)))],[⟨(us u).set (lo+i.toNat) (vu (wv (wv (wv (u.getD (lo+i.toNat) default+c)+b.getD i.toNat default)-1000000000))),1,v,false,true⟩],[(decide (wv (wv (u.getD (lo+i.toNat) default+c)+b.getD i.toNat default)>=1000000000))==true,v==v,decide (0<=i),decide (i.toNat<len),v==v],[((us u).get?Internal (lo+i.toNat)=some (Zhd u lo i))],_⟩ (by kernel_rfl) (bc (Zam (i18.2 d19)) (bc (beq_self_eq_true _) (bc (Zac.2 k4) (bc (Zac.2 k6) (bc (beq_self_eq_true _) b0))))) (qc (Zat k7) q0) c0 (by (try rw [w9]);(try rw [w17]);(try rw [w21]);(try rw [w24]);(try rw [w26]);all_goals exact H)
   ·have w29:(us u).set (lo+i.toNat) (vu (u.getD (lo+i.toNat) default+c+b.getD i.toNat default))=us (u.set (lo+i.toNat) (u.getD (lo+i.toNat) default+c+b.getD i.toNat default)):=(Zbf rfl rfl)
    obtain ⟨k30,H⟩:=H
    have w31:wi (i+1)=i+1:=wI64 k30
    exact Zaf (G:=Zae kp130 [(10,4,.elem (Zhd u lo i))] []) 1000 [false] ⟨(atC (cd Tryz.f130) [1,1,0,0]),[(0,AV.ref 0 v lo len),(1,AV.vec fb 1 (us b)),(4,vu 0),(8,vi n),(9,vi (wi (i+1)))],[⟨(us u).set (lo+i.toNat) (vu (wv (wv (u.getD (lo+i.toNat) default+c)+b.getD i.toNat default))),1,v,false,true⟩],[(decide (wv (wv (u.getD (lo+i.toNat) default+c)+b.getD i.toNat default)>=1000000000))==false,v==v,decide (0<=i),decide (i.toNat<len),v==v],[((us u).get?Internal (lo+i.toNat)=some (Zhd u lo i))],_⟩ (by kernel_rfl) (bc (Zak (fun h=>d19 (i18.1 h))) (bc (beq_self_eq_true _) (bc (Zac.2 k4) (bc (Zac.2 k6) (bc (beq_self_eq_true _) b0))))) (qc (Zat k7) q0) c0 (by (try rw [w9]);(try rw [w17]);(try rw [w29]);(try rw [w31]);all_goals exact H)
  ·have i32:(decide (wv (u.getD (lo+i.toNat) default+c)>=1000000000))=true ↔ (u.getD (lo+i.toNat) default+c>=1000000000):=(by (try rw [w9]);all_goals exact Zac)
   rcases xq H with ⟨d33,H⟩|⟨d33,H⟩
   ·obtain ⟨k34,H⟩:=H
    have w35:wv (u.getD (lo+i.toNat) default+c-1000000000)=u.getD (lo+i.toNat) default+c-1000000000:=wU32 k34
    have w38:(us u).set (lo+i.toNat) (vu (u.getD (lo+i.toNat) default+c-1000000000))=us (u.set (lo+i.toNat) (u.getD (lo+i.toNat) default+c-1000000000)):=(Zbf rfl rfl)
    obtain ⟨k39,H⟩:=H
    have w40:wi (i+1)=i+1:=wI64 k39
    exact Zaf (G:=Zae kp130 [(10,4,.elem (Zhd u lo i))] []) 1000 [false,true] ⟨(atC (cd Tryz.f130) [1,1,0,0]),[(0,AV.ref 0 v lo len),(1,AV.vec fb 1 (us b)),(4,vu 1),(8,vi n),(9,vi (wi (i+1)))],[⟨(us u).set (lo+i.toNat) (vu (wv (wv (u.getD (lo+i.toNat) default+c)-1000000000))),1,v,false,true⟩],[(decide (i<(↑(us b).length:Int)))==false,(decide (wv (u.getD (lo+i.toNat) default+c)>=1000000000))==true,v==v,decide (0<=i),decide (i.toNat<len),v==v],[((us u).get?Internal (lo+i.toNat)=some (Zhd u lo i))],_⟩ (by kernel_rfl) (bc (Zak (fun h=>d12 (i11.1 h))) (bc (Zam (i32.2 d33)) (bc (beq_self_eq_true _) (bc (Zac.2 k4) (bc (Zac.2 k6) (bc (beq_self_eq_true _) b0)))))) (qc (Zat k7) q0) c0 (by (try rw [w9]);(try rw [w35]);(try rw [w38]);(try rw [w40]);all_goals exact H)
   ·have w43:(us u).set (lo+i.toNat) (vu (u.getD (lo+i.toNat) default+c))=us (u.set (lo+i.toNat) (u.getD (lo+i.toNat) default+c)):=(Zbf rfl rfl)
    obtain ⟨k44,H⟩:=H
    have w45:wi (i+1)=i+1:=wI64 k44
    exact Zaf (G:=Zae kp130 [(10,4,.elem (Zhd u lo i))] []) 1000 [false,false] ⟨(atC (cd Tryz.f130) [1,1,0,0]),[(0,AV.ref 0 v lo len),(1,AV.vec fb 1 (us b)),(4,vu 0),(8,vi n),(9,vi (wi (i+1)))],[⟨(us u).set (lo+i.toNat) (vu (wv (u.getD (lo+i.toNat) default+c))),1,v,false,true⟩],[(decide (i<(↑(us b).length:Int)))==false,(decide (wv (u.getD (lo+i.toNat) default+c)>=1000000000))==false,v==v,decide (0<=i),decide (i.toNat<len),v==v],[((us u).get?Internal (lo+i.toNat)=some (Zhd u lo i))],_⟩ (by kernel_rfl) (bc (Zak (fun h=>d12 (i11.1 h))) (bc (Zak (fun h=>d33 (i32.1 h))) (bc (beq_self_eq_true _) (bc (Zac.2 k4) (bc (Zac.2 k6) (bc (beq_self_eq_true _) b0)))))) (qc (Zat k7) q0) c0 (by (try rw [w9]);(try rw [w43]);(try rw [w45]);all_goals exact H)
 ·exact ZaR (G:=Zae kp130 [] []) 1000 [false] (env':=[(0,AV.ref 0 v lo len),(1,AV.vec fb 1 (us b)),(4,vu c),(8,vi n),(9,vi i),(10,vb (decide (i<n)))]) (L':=[⟨us u,1,v,false,true⟩]) (asm:=[(decide (i<n))==false]) (eqs:=[]) (calls:=[]) (tu []) (by kernel_rfl) (by kernel_rfl) (Zaa (Zak (fun h=>d2 (Zac.1 h))) Zal) Zao Zap H
end Go.Av

namespace Go.Av
open Go.Proofs
namespace N
def Zfj:Nat->Int->List Int
 | 0,_=>[]
 | n+1,z=>z % 1000000000::Zfj n (z / 1000000000)
def Zbg (u:List Int) (lo len:Nat) (z:Int):List Int:=u.take lo++(Zfj len z++u.drop (lo+len))
def win (u:List Int) (lo len:Nat):Nat:=valL ((u.drop lo).take len)
def okL (l:List Int):Prop:=∀ x ∈ l,0<=x/\x<1000000000
end N
abbrev urow (u:List Int) (v:Nat):Row:=⟨u.map (.int .u32),1,v,false,true⟩
theorem Zf3:∀ (n v:Nat),N.Zfj n v=N.Zav n v
 | 0,v=>rfl
 | n+1,v=>by
  rw [N.Zfj,ZaC,<- Zf3 n]
  congr 1
theorem Zf4:∀ (n:Nat) (z:Int),(N.Zfj n z).length=n
 | 0,z=>rfl
 | n+1,z=>by simp [N.Zfj,Zf4 n]
theorem limZ_ok:∀ (n:Nat) (z:Int),N.okL (N.Zfj n z)
 | 0,z=>by intro x hx;simp [N.Zfj] at hx
 | n+1,z=>by
  intro x hx
  rcases List.mem_cons.1 hx with rfl | hx
  ·omega
  ·exact limZ_ok n _ x hx
theorem ZfE {u l:List Int} {i:Nat} {x:Int} (hi:i<u.length) (h:u.drop i=x::l):u.getD i default=x/\u.drop (i+1)=l:=by
 rw [ZbJ hi] at h
 exact List.cons.inj h
theorem loopSub {fb:Bool} {m V g v lo:Nat} {rest R:List Int} {neg:Prop} [Decidable neg] {Q:AV->Heap->Prop} (hm:m<=1000000) (hlo:lo<=10000000) (hg:g<1000000000) (hV:N.fits m V) (hQ:Q (.bool (decide neg)) [urow R v]) :
    ∀ (k i:Nat) (u:List Int) (W c w:Nat),i+k=m+1->u.length=lo+(m+1)+rest.length->u.drop (lo+i)=N.Zav k W++rest->N.fits k W->c<1000000000->w<=1 ->
      (((W:Int)-((V / 1000000000 ^ i*g:Nat):Int)-c-w<0) ↔ neg)->u.take (lo+i)++(N.Zfj k ((W:Int)-((V / 1000000000 ^ i*g:Nat):Int)-c-w)++rest)=R ->
      Za8 u (N.Zav m V) fb v lo (m+1) g c w ((m+1:Nat):Int) i Q
  | 0,i,u,W,c,w,hi,hul,hud,hW,hc,hw,hneg,hR=>by
    have hW0:=Zbi.1 hW
    rw [ZaH hV (by omega),Nat.zero_mul,hW0] at hneg
    rw [N.Zfj,List.nil_append] at hR
    rw [N.Zav,List.nil_append] at hud
    have e:u=R:=by rw [<- hR,<- hud,List.take_append_drop]
    refine Zhv _ _ _ _ _ _ _ _ _ _ _ _ ⟨fun h=>by omega,fun _ => ?_⟩
    have eb:(bif decide ((w:Int)>0) then true else decide ((c:Int)>0))=decide neg:=by
      rw [<- decide_eq_decide.2 hneg]
      by_cases h1:(w:Int)>0
      · rw [decide_eq_true h1,cond_true];symm;rw [decide_eq_true_iff];omega
      · rw [decide_eq_false h1,cond_false,decide_eq_decide];omega
    rw [eb,e];exact hQ
  | k+1,i,u,W,c,w,hi,hul,hud,hW,hc,hw,hneg,hR=>by
    rw [ZaC,List.cons_append] at hud
    obtain ⟨gu,hud'⟩:=ZfE (by omega) hud
    have hp:=Ze5 g (V / 1000000000 ^ i)
    rw [Nat.mul_comm g (V / 1000000000 ^ i),Za5] at hp
    rw [Nat.mul_comm g (V / 1000000000 ^ (i+1)),Nat.mul_comm g (V / 1000000000 ^ i % 1000000000)] at hp
    have hd:V / 1000000000 ^ i % 1000000000<1000000000:=Nat.mod_lt _ (by omega)
    have hpb:V / 1000000000 ^ i % 1000000000*g<=999999999*999999999:=Nat.mul_le_mul (by omega) (by omega)
    have nxt:∀ (x:Int) (c' w':Nat),c' = (c + V / 1000000000 ^ i % 1000000000 * g) / 1000000000 ->
        ((((W % 1000000000:Nat):Int)<(((c+V / 1000000000 ^ i % 1000000000*g) % 1000000000+w:Nat):Int)/\w'=1/\x=((W % 1000000000:Nat):Int)+1000000000-(((c+V / 1000000000 ^ i % 1000000000*g) % 1000000000+w:Nat):Int)) \/
         (¬((W % 1000000000:Nat):Int)<(((c+V / 1000000000 ^ i % 1000000000*g) % 1000000000+w:Nat):Int)/\w'=0/\x=((W % 1000000000:Nat):Int)-(((c+V / 1000000000 ^ i % 1000000000*g) % 1000000000+w:Nat):Int))) ->
        Za8 (u.set (lo+i) x) (N.Zav m V) fb v lo (m+1) g c' w' ((m+1:Nat):Int) ((i:Int)+1) Q:=by
      intro x c' w' hc' hx
      have key:((W:Int)-((V / 1000000000 ^ i*g:Nat):Int)-c-w) % 1000000000=x/\((W:Int)-((V / 1000000000 ^ i*g:Nat):Int)-c-w) / 1000000000=((W / 1000000000:Nat):Int)-((V / 1000000000 ^ (i+1)*g:Nat):Int)-c'-w':=by
        generalize V / 1000000000 ^ i*g=a at hp
        generalize V / 1000000000 ^ (i+1)*g=b at hp
        generalize V / 1000000000 ^ i % 1000000000*g=p at hp hpb hc' hx
        subst hc'
        rcases hx with ⟨h1,rfl,rfl⟩ | ⟨h1,rfl,rfl⟩ <;> omega
      refine loopSub hm hlo hg hV hQ k (i+1) _ (W / 1000000000) c' w' (by omega) (by simpa using hul) ?_ (ZbZ.1 hW) ?_ ?_ ?_ ?_
      · rw [show lo+(i+1)=lo+i+1 by omega,List.drop_set_of_lt (by omega)];exact hud'
      · rw [hc']
        generalize V / 1000000000 ^ i % 1000000000*g=p at hpb
        omega
      · rcases hx with ⟨_,h,_⟩ | ⟨_,h,_⟩ <;> omega
      · rw [<- hneg,<- key.2];omega
      · rw [show lo+(i+1)=lo+i+1 by omega,ZaZ (by omega),<- hR,N.Zfj,key.1,key.2,List.append_assoc];rfl
    refine Zhv _ _ _ _ _ _ _ _ _ _ _ _ ⟨fun _ => ?_,fun h=>by omega⟩
    rw [Int.toNat_natCast,gu,Zan]
    have hWm:W % 1000000000<1000000000:=Nat.mod_lt _ (by omega)
    by_cases him:i<m
    · rw [Zaw V him]
      have c1:((V / 1000000000 ^ i % 1000000000:Nat):Int)*(g:Int)=((V / 1000000000 ^ i % 1000000000*g:Nat):Int):=(Int.natCast_mul _ _).symm
      rw [c1]
      have hd':((V / 1000000000 ^ i % 1000000000:Nat):Int)<1000000000:=by omega
      have hd0:(0:Int)<=((V / 1000000000 ^ i % 1000000000:Nat):Int):=by omega
      generalize ((V / 1000000000 ^ i % 1000000000:Nat):Int)=dI at hd' hd0
      generalize V / 1000000000 ^ i % 1000000000*g=p at hpb nxt
      have c2:((c:Nat):Int)+((p:Nat):Int)=((c+p:Nat):Int):=by omega
      have c3:(((c+p:Nat):Int)).tdiv 1000000000=(((c+p) / 1000000000:Nat):Int):=by rw [Int.tdiv_eq_ediv_of_nonneg (by omega)];omega
      have c4:(((c+p:Nat):Int)).tmod 1000000000=(((c+p) % 1000000000:Nat):Int):=by rw [Int.tmod_eq_emod_of_nonneg (by omega)];omega
      rw [c2,c3,c4]
      have c5:(((c+p) % 1000000000:Nat):Int)+(w:Int)=(((c+p) % 1000000000+w:Nat):Int):=by omega
      rw [c5]
      have hy:(c+p) % 1000000000+w<=1000000000:=by omega
      refine ⟨fun _=>⟨by omega,by omega,by omega,by omega,by omega,by omega,by omega,by omega,by omega,by omega,fun h=>⟨by omega,by omega,by omega,by omega,nxt _ _ 1 rfl (.inl ⟨h,rfl,rfl⟩)⟩,fun h=>⟨by omega,by omega,by omega,nxt _ _ 0 rfl (.inr ⟨h,rfl,rfl⟩)⟩⟩,fun h=>by omega⟩
    · have hV0:=ZaH hV (show m<=i by omega)
      rw [hV0,Nat.zero_mod,Nat.zero_mul] at nxt
      simp only [Nat.add_zero] at nxt
      have c3:((c:Nat):Int).tdiv 1000000000=((c / 1000000000:Nat):Int):=by rw [Int.tdiv_eq_ediv_of_nonneg (by omega)];omega
      have c4:((c:Nat):Int).tmod 1000000000=((c % 1000000000:Nat):Int):=by rw [Int.tmod_eq_emod_of_nonneg (by omega)];omega
      rw [c3,c4]
      have c5:((c % 1000000000:Nat):Int)+(w:Int)=((c % 1000000000+w:Nat):Int):=by omega
      rw [c5]
      have hy:c % 1000000000+w<=1000000000:=by omega
      refine ⟨fun h=>by omega,fun _=>⟨by omega,by omega,by omega,by omega,by omega,by omega,fun h=>⟨by omega,by omega,by omega,by omega,nxt _ _ 1 rfl (.inl ⟨h,rfl,rfl⟩)⟩,fun h=>⟨by omega,by omega,by omega,nxt _ _ 0 rfl (.inr ⟨h,rfl,rfl⟩)⟩⟩⟩
theorem win_drop {u:List Int} {lo len:Nat} (hu:N.okL u) (hl:lo+len<=u.length):u.drop lo=N.Zav len (N.win u lo len)++u.drop (lo+len)/\N.fits len (N.win u lo len):=by
 have hok:∀ x ∈ (u.drop lo).take len,0<=x/\x<1000000000:=fun x hx=>hu x (List.mem_of_mem_drop (List.mem_of_mem_take hx))
 obtain ⟨h1,h2⟩:=Zf5 _ hok
 have hlen:((u.drop lo).take len).length=len:=by rw [List.length_take,List.length_drop];omega
 rw [hlen] at h1 h2
 refine ⟨?_,h2⟩
 unfold N.win
 rw [<- h1]
 conv=>lhs;rw [<- List.take_append_drop len (u.drop lo),List.drop_drop]
theorem evo129 (u b:List Int) (fb:Bool) (v lo len:Nat) (g:Int) (h:N.okL u/\N.okL b/\lo+len<=u.length/\len=b.length+1/\u.length<=1000000/\0<=g/\g<1000000000) :
  Ev M1 (.own 129 [.ref 0 v lo len,usA fb b,.int .u64 g] [urow u v]) (.bool (decide ((N.win u lo len:Int)-g*(valL b:Nat)<0))) [urow (N.Zbg u lo len ((N.win u lo len:Int)-g*(valL b:Nat))) v]:=by
 obtain ⟨hu,hb,h1,h2,h3,h4,h5⟩:=h
 obtain ⟨b1,b2⟩:=Zf5 b hb
 obtain ⟨w1,w2⟩:=win_drop hu h1
 subst h2
 obtain ⟨gn,rfl⟩:=Int.eq_ofNat_of_zero_le h4
 refine owncall129 (vSubtract _ _ _ _ _ _ _ _ ?_)
 generalize hV:valL b=V at b1 b2
 rw [b1]
 have e0:((V / 1000000000 ^ 0*gn:Nat):Int)=(gn:Int)*(V:Int):=by rw [Nat.pow_zero,Nat.div_one,Nat.mul_comm,Int.natCast_mul]
 have:=loopSub (fb:=fb) (m:=b.length) (V:=V) (g:=gn) (v:=v) (lo:=lo) (rest:=u.drop (lo+(b.length+1))) (R:=N.Zbg u lo (b.length+1) ((N.win u lo (b.length+1):Int)-(gn:Int)*(V:Int))) (neg:=(N.win u lo (b.length+1):Int)-(gn:Int)*(V:Int)<0)
  (Q:=isR (.bool (decide ((N.win u lo (b.length+1):Int)-(gn:Int)*(V:Int)<0))) [urow (N.Zbg u lo (b.length+1) ((N.win u lo (b.length+1):Int)-(gn:Int)*(V:Int))) v]) (by omega) (by omega) (by omega) b2 ⟨rfl,rfl⟩
  (b.length+1) 0 u (N.win u lo (b.length+1)) 0 0 (by omega) (by rw [List.length_drop];omega) w1 w2 (by omega) (by omega) (by rw [e0];simp) (by rw [e0];simp [N.Zbg])
 rw [Zan] at *
 exact this
end Go.Av

namespace Go.Av
open Go.Proofs
theorem limZ_add:∀ (n:Nat) (a b c:Int),N.Zfj n a=N.Zfj n b->N.Zfj n (a+c)=N.Zfj n (b+c)
 | 0,a,b,c,_=>rfl
 | n+1,a,b,c,h=>by
  rw [N.Zfj,N.Zfj] at h
  obtain ⟨h1,h2⟩:=List.cons.inj h
  rw [N.Zfj,N.Zfj]
  have e1:(a+c) % 1000000000=(b+c) % 1000000000:=by omega
  have e2:(a+c) / 1000000000=a / 1000000000+(a % 1000000000+c) / 1000000000:=by omega
  have e3:(b+c) / 1000000000=b / 1000000000+(a % 1000000000+c) / 1000000000:=by omega
  rw [e1,e2,e3,limZ_add n _ _ _ h2]
theorem loopRes {fb:Bool} {m V v lo:Nat} {rest R:List Int} {Q:AV->Heap->Prop} (hm:m<=1000000) (hlo:lo<=10000000) (hV:N.fits m V) (hQ:Q (.tup []) [urow R v]) :
  ∀ (k i:Nat) (u:List Int) (z:Int) (c:Nat),i+k=m+1->u.length=lo+(m+1)+rest.length->u.drop (lo+i)=N.Zfj k z++rest->c<=1 ->
   u.take (lo+i)++(N.Zfj k (z+((V / 1000000000 ^ i:Nat):Int)+c)++rest)=R->Zbh u (N.Zav m V) fb v lo (m+1) c ((m+1:Nat):Int) i Q
 | 0,i,u,z,c,hi,hul,hud,hc,hR=>by
  rw [N.Zfj,List.nil_append] at hR hud
  have e:u=R:=by rw [<- hR,<- hud,List.take_append_drop]
  exact vRestoreA _ _ _ _ _ _ _ _ _ _ ⟨fun h=>by omega,fun _=>by rw [e];exact hQ⟩
 | k+1,i,u,z,c,hi,hul,hud,hc,hR=>by
  rw [N.Zfj,List.cons_append] at hud
  obtain ⟨gu,hud'⟩:=ZfE (by omega) hud
  have hn:=Za5 V i
  have nxt:∀ (x:Int) (c':Nat),(z % 1000000000+c+((V / 1000000000 ^ i % 1000000000:Nat):Int)>=1000000000/\c'=1/\x=z % 1000000000+c+((V / 1000000000 ^ i % 1000000000:Nat):Int)-1000000000\/¬z % 1000000000+c+((V / 1000000000 ^ i % 1000000000:Nat):Int)>=1000000000/\c'=0/\x=z % 1000000000+c+((V / 1000000000 ^ i % 1000000000:Nat):Int)) ->
    Zbh (u.set (lo+i) x) (N.Zav m V) fb v lo (m+1) c' ((m+1:Nat):Int) ((i:Int)+1) Q:=by
   intro x c' hx
   have key:(z+((V / 1000000000 ^ i:Nat):Int)+c) % 1000000000=x/\(z+((V / 1000000000 ^ i:Nat):Int)+c) / 1000000000=z / 1000000000+((V / 1000000000 ^ (i+1):Nat):Int)+c':=by
    generalize V / 1000000000 ^ (i+1)=b at hn
    generalize V / 1000000000 ^ i=a at hn hx
    subst hn
    rcases hx with ⟨h1,rfl,rfl⟩ | ⟨h1,rfl,rfl⟩ <;> omega
   refine loopRes hm hlo hV hQ k (i+1) _ (z / 1000000000) c' (by omega) (by simpa using hul) ?_ (by omega) ?_
   ·rw [show lo+(i+1)=lo+i+1 by omega,List.drop_set_of_lt (by omega)];exact hud'
   ·rw [show lo+(i+1)=lo+i+1 by omega,ZaZ (by omega),<- hR,N.Zfj,key.1,key.2,List.append_assoc];rfl
  refine vRestoreA _ _ _ _ _ _ _ _ _ _ ⟨fun _ => ?_,fun h=>by omega⟩
  rw [Int.toNat_natCast,gu,Zan]
  by_cases him:i<m
  ·rw [Zaw V him]
   have hd:((V / 1000000000 ^ i % 1000000000:Nat):Int)<1000000000:=by omega
   have hd0:(0:Int)<=((V / 1000000000 ^ i % 1000000000:Nat):Int):=by omega
   generalize ((V / 1000000000 ^ i % 1000000000:Nat):Int)=d at hd hd0 nxt
   exact ⟨by omega,by omega,by omega,by omega,fun _=>⟨by omega,by omega,fun h=>⟨by omega,by omega,nxt _ 1 (.inl ⟨h,rfl,rfl⟩)⟩,fun h=>⟨by omega,nxt _ 0 (.inr ⟨h,rfl,rfl⟩)⟩⟩,fun h=>by omega⟩
  ·have hV0:=ZaH hV (show m<=i by omega)
   rw [hV0,Nat.zero_mod] at nxt
   simp only [Int.ofNat_zero,Int.add_zero] at nxt
   exact ⟨by omega,by omega,by omega,by omega,fun h=>by omega,fun _=>⟨fun h=>⟨by omega,by omega,nxt _ 1 (.inl ⟨h,rfl,rfl⟩)⟩,fun h=>⟨by omega,nxt _ 0 (.inr ⟨h,rfl,rfl⟩)⟩⟩⟩
theorem evo130 (u b:List Int) (fb:Bool) (v lo len:Nat) (h:N.okL u/\N.okL b/\lo+len<=u.length/\len=b.length+1/\u.length<=1000000) :
  Ev M1 (.own 130 [.ref 0 v lo len,usA fb b] [urow u v]) (.tup []) [urow (N.Zbg u lo len ((N.win u lo len:Int)+(valL b:Nat))) v]:=by
 obtain ⟨hu,hb,h1,h2,h3⟩:=h
 obtain ⟨b1,b2⟩:=Zf5 b hb
 obtain ⟨w1,w2⟩:=win_drop hu h1
 subst h2
 refine owncall130 (vRestore _ _ _ _ _ _ _ ?_)
 generalize hV:valL b=V at b1 b2
 rw [b1]
 have:=loopRes (fb:=fb) (m:=b.length) (V:=V) (v:=v) (lo:=lo) (rest:=u.drop (lo+(b.length+1))) (R:=N.Zbg u lo (b.length+1) ((N.win u lo (b.length+1):Int)+(V:Int)))
  (Q:=isR (.tup []) [urow (N.Zbg u lo (b.length+1) ((N.win u lo (b.length+1):Int)+(V:Int))) v]) (by omega) (by omega) b2 ⟨rfl,rfl⟩
  (b.length+1) 0 u (N.win u lo (b.length+1)) 0 (by omega) (by rw [List.length_drop];omega) (by rw [Zf3];exact w1) (by omega) (by simp [N.Zbg])
 rw [Zan] at *
 exact this
theorem lim_ok (v:Nat):N.okL (N.lim v):=limN_ok _ _
theorem ZfT {u:List Int} {lo len:Nat} {z:Int} (h:lo+len<=u.length):(N.Zbg u lo len z).length=u.length:=by
 unfold N.Zbg
 simp only [List.length_append,List.length_take,Zf4,List.length_drop]
 omega
theorem rowZ_ok {u:List Int} {lo len:Nat} {z:Int} (h:N.okL u):N.okL (N.Zbg u lo len z):=by
 intro x hx
 unfold N.Zbg at hx
 rcases List.mem_append.1 hx with hx | hx
 ·exact h x (List.mem_of_mem_take hx)
 ·rcases List.mem_append.1 hx with hx | hx
  ·exact limZ_ok _ _ x hx
  ·exact h x (List.mem_of_mem_drop hx)
theorem rowZ_again {u:List Int} {lo len:Nat} {z c:Int} (h:lo+len<=u.length) (hu:N.okL u):N.Zbg (N.Zbg u lo len z) lo len ((N.win (N.Zbg u lo len z) lo len:Int)+c)=N.Zbg u lo len (z+c):=by
 have hw:=win_drop (rowZ_ok (lo:=lo) (len:=len) (z:=z) hu) (by rw [ZfT h];exact h)
 have e1:(N.Zbg u lo len z).take lo=u.take lo:=by
  unfold N.Zbg
  rw [List.take_append_of_le_length (by rw [List.length_take];omega),List.take_take]
  congr 1;omega
 have e2:(N.Zbg u lo len z).drop lo=N.Zfj len z++u.drop (lo+len):=by
  unfold N.Zbg
  rw [List.drop_append_of_le_length (by rw [List.length_take];omega),List.drop_of_length_le (by rw [List.length_take];omega),List.nil_append]
 have e3:(N.Zbg u lo len z).drop (lo+len)=u.drop (lo+len):=by
  rw [<- List.drop_drop,e2,List.drop_append_of_le_length (by rw [Zf4];omega),List.drop_of_length_le (by rw [Zf4];omega),List.nil_append]
 have e4:N.Zfj len (N.win (N.Zbg u lo len z) lo len:Int)=N.Zfj len z:=by
  have:=hw.1
  rw [e2,e3] at this
  rw [Zf3]
  exact (List.append_cancel_right this).symm
 show (N.Zbg u lo len z).take lo++(N.Zfj len ((N.win (N.Zbg u lo len z) lo len:Int)+c)++(N.Zbg u lo len z).drop (lo+len))=_
 rw [e1,e3,limZ_add len _ z c e4]
 rfl
end Go.Av

namespace Go.Av
open Go.Proofs
set_option maxRecDepth 100000
def fi115:Fi:=⟨179,[.tmp 4,.tmp 5]⟩
def Zdr:List (Nat × List Nat):=[(0,[0,1]),(1,[0,1]),(2,[0,1,23]),(3,[4,5]),(4,[0,1,34]),(5,[4,5]),(6,[0,1,6]),(7,[0,1,6,7]),(8,[1,6,7,8]),(9,[6,7,8,9]),(10,[6,7,8,9,10]),(11,[6,7,8,9,10,11]),(12,[6,7,8,9,10,11,70]),(13,[6,7,8,9,10,11]),(14,[6,7,8,9,10,11,12]),(15,[6,7,8,9,10,11,13,14]),(16,[6,7,8,9,10,11,13,14,129]),(17,[6,7,8,9,10,11,13,14]),(18,[6,7,8,9,10,11,13,14]),(19,[6,7,8,9,10,11,13,14,141]),(20,[6,7,8,9,10,11,13,151]),(21,[6,7,8,9,10,11,13]),(22,[6,7,8,9,10,11,13]),(23,[6,7,8,9,10,11]),(24,[10,15]),(25,[4,5])]
def Zgk (fa fb:Bool) (a b:List Int) (Q:AV->Heap->Prop):Prop:=Wp M1 (.run fi115 (atC (cd Tryz.f115) []) [(0,.vec fa 1 (a.map (.int .u32))),(1,.vec fb 1 (b.map (.int .u32)))] []) Q
def Zgj (fa fb:Bool) (a b:List Int) (Q:AV->Heap->Prop):Prop:=Wp M1 (.run fi115 (atC (cd Tryz.f115) []) [(0,.vec fa 1 (a.map (.int .u32))),(1,.vec fb 1 (b.map (.int .u32)))] []) Q
def ZaU (u b q:List Int) (fb:Bool) (v:Nat) (n s k:Int) (Q:AV->Heap->Prop):Prop:=Wp M1 (.run fi115 (atC (cd Tryz.f115) [1,1,1,1,1,1,1,1,1,0,1,0,0]) [(6,.int .i64 n),(7,.int .u32 s),(8,.row 0 v),(9,.vec fb 1 (b.map (.int .u32))),(10,.row 1 0),(11,.int .i64 k)] [⟨u.map (.int .u32),1,v,false,true⟩,⟨q.map (.int .u32),1,0,false,true⟩]) Q
def ZcQ (u b q:List Int) (fb:Bool) (v:Nat) (n s k:Int) (g r:Int) (Q:AV->Heap->Prop):Prop:=Wp M1 (.run fi115 (atC (cd Tryz.f115) [1,1,1,1,1,1,1,1,1,0,1,0,0,1,0,0,1,1,0,0,0]) [(6,.int .i64 n),(7,.int .u32 s),(8,.row 0 v),(9,.vec fb 1 (b.map (.int .u32))),(10,.row 1 0),(11,.int .i64 k),(13,.int .u64 g),(14,.int .u64 r)] [⟨u.map (.int .u32),1,v,false,true⟩,⟨q.map (.int .u32),1,0,false,true⟩]) Q
theorem call115 {args:List AV} {d:AV} (h:wc M1 fi115 Tryz.f115 args d):Ev M1 (.pure 115 args) d []:=pcl _ _ (by kernel_rfl) h
theorem vDivide0 (fa fb:Bool) (a b:List Int)  (dq:AV) (H :
  (Ev M1 (Conf.pure 117 [AV.vec fa 1 (us a)]) (vf []) []) /\
  ∃ (l1:List Int),
  (Ev M1 (Conf.pure 117 [AV.vec fb 1 (us b)]) (vf (us l1)) []) /\
  (((↑l1.length:Int)=1) -> ∃ (l2:List Int) (l3:List Int),
   (Ev M1 (Conf.pure 128 [vf [],vu (l1.getD 0 default)]) (tu [vf (us l2),vf (us l3)]) []) /\
   (0<l1.length) /\
   Weak (tu [vf (us l2),vf (us l3)]) dq) /\
  (¬((↑l1.length:Int)=1)->(Ev M1 (Conf.pure 97 [vf [],vf (us l1)]) (vi (-1)) []) /\
   Weak (tu [AV.vnil,AV.vnil]) dq)) :
 Zgk fa fb a b (Zag dq):=by
 unfold Zgk
 obtain ⟨k1,l1,k2,H⟩:=H
 have w3:(us l1).length=l1.length:=List.length_map ..
 have i4:((↑(us l1).length:Int)==1)=true ↔ ((↑l1.length:Int)=1):=(by (try rw [w3]);all_goals exact i_eq)
 refine Zaf (G:=Zae Zdr [(1,1,.call (.vec false 1 []) none),(1,3,.call (vf (us l1)) none)] []) 7 [] ⟨(atC (cd Tryz.f115) [1,1,0,1]),[(0,vf []),(1,vf (us l1)),(23,vb ((↑(us l1).length:Int)==1))],[],_,[],_⟩ (by kernel_rfl) b0 q0 (ce k1 (ce k2 c0)) ?_
 rcases xq H with ⟨d5,H⟩|⟨d5,H⟩
 ·obtain ⟨l2,l3,k6,H⟩:=H
  have i7:(decide (0<(us l1).length))=true ↔ (0<l1.length):=(by (try rw [w3]);all_goals exact Zac)
  obtain ⟨k8,H⟩:=H
  exact Zaj (G:=Zae Zdr [(3,3,.elem (vu (l1.getD 0 default))),(3,4,.call (tu [vf (us l2),vf (us l3)]) none)] []) 1000 [true] (eqs:=[((us l1).get?Internal 0=some (vu (l1.getD 0 default)))]) (tu [vf (us l2),vf (us l3)]) (by kernel_rfl) (bc (Zam (i4.2 d5)) (bc rfl (bc (i7.2 k8) b0))) (qc (Zat k8) q0) (ce k6 c0) H
 ·obtain ⟨k9,H⟩:=H
  exact Zaj (G:=Zae Zdr [(4,2,.call (.int .i64 (-1)) none)] []) 1000 [false,true] (tu [AV.vnil,AV.vnil]) (by kernel_rfl) (bc (Zak (fun h=>d5 (i4.1 h))) (bc rfl b0)) q0 (ce k9 c0) H
noncomputable abbrev zNvF1 (x:Int) (l:List Int):=vu x::us l
theorem vDivideC (fa fb:Bool) (a b:List Int) (x:Int) (l ul:List Int) (dq:AV) (H :
  (Ev M1 (Conf.pure 117 [AV.vec fa 1 (us a)]) (vf (vu x::us l)) []) /\
  ∃ (l1:List Int),
  (Ev M1 (Conf.pure 117 [AV.vec fb 1 (us b)]) (vf (us l1)) []) /\
  (((↑l1.length:Int)=1) -> ∃ (l2:List Int) (l3:List Int),
   (Ev M1 (Conf.pure 128 [vf (vu x::us l),vu (l1.getD 0 default)]) (tu [vf (us l2),vf (us l3)]) []) /\
   (0<l1.length) /\
   Weak (tu [vf (us l2),vf (us l3)]) dq) /\
  (¬((↑l1.length:Int)=1) -> ∃ (n1:Int),
   (Ev M1 (Conf.pure 97 [vf (vu x::us l),vf (us l1)]) (vi n1) []) /\
   ((n1<0)->((l.length+1)*4<=1099511627776) /\
    Weak (tu [AV.vnil,vf (vu x::us l)]) dq) /\
   (¬(n1<0)->(-9223372036854775808<=(↑l1.length:Int)-1/\(↑l1.length:Int)-1<=9223372036854775807) /\
    (0<=(↑l1.length:Int)-1) /\
    (((↑l1.length:Int)-1).toNat<l1.length) /\
    (0<=l1.getD ((↑l1.length:Int)-1).toNat default/\l1.getD ((↑l1.length:Int)-1).toNat default<=18446744073709551615) /\
    (0<=l1.getD ((↑l1.length:Int)-1).toNat default+1/\l1.getD ((↑l1.length:Int)-1).toNat default+1<=18446744073709551615) /\
    (¬l1.getD ((↑l1.length:Int)-1).toNat default+1=0) /\
    (0<=Int.tdiv 1000000000 (l1.getD ((↑l1.length:Int)-1).toNat default+1)/\Int.tdiv 1000000000 (l1.getD ((↑l1.length:Int)-1).toNat default+1)<=18446744073709551615) /\
    (0<=Int.tdiv 1000000000 (l1.getD ((↑l1.length:Int)-1).toNat default+1)/\Int.tdiv 1000000000 (l1.getD ((↑l1.length:Int)-1).toNat default+1)<=4294967295) /\
    (Ev M1 (Conf.own 95 [vf (vu x::us l),AV.vec true 1 [vu (Int.tdiv 1000000000 (l1.getD ((↑l1.length:Int)-1).toNat default+1))]] []) (AV.row 0 0) [{ elems:=us ul,es:=1,ver:=0,frozen:=false,clean:=true }]) /\
    ((ul.length+1)*4<=1099511627776) /\
    ∃ (l4:List Int),
    (Ev M1 (Conf.pure 95 [vf (us l1),AV.vec true 1 [vu (Int.tdiv 1000000000 (l1.getD ((↑l1.length:Int)-1).toNat default+1))]]) (vf (us l4)) []) /\
    ∃ (l5:List Int),
    (Ev M1 (Conf.pure 117 [vf (us l4)]) (vf (us l5)) []) /\
    (-9223372036854775808<=(↑(ul++[0]).length:Int)-(↑l1.length:Int)/\(↑(ul++[0]).length:Int)-(↑l1.length:Int)<=9223372036854775807) /\
    (0<=(↑(ul++[0]).length:Int)-(↑l1.length:Int)) /\
    (((↑(ul++[0]).length:Int)-(↑l1.length:Int))*4<=1099511627776) /\
    ((↑(ul++[0]).length:Int)-(↑l1.length:Int)<=1099511627776) /\
    (-9223372036854775808<=(↑(ul++[0]).length:Int)-(↑l1.length:Int)-1/\(↑(ul++[0]).length:Int)-(↑l1.length:Int)-1<=9223372036854775807) /\
    ZaU (ul++[0]) l5 (List.replicate ((↑(ul++[0]).length:Int)-(↑l1.length:Int)).toNat (0:Int)) false 1 ((↑l1.length:Int)) (Int.tdiv 1000000000 (l1.getD ((↑l1.length:Int)-1).toNat default+1)) ((↑(ul++[0]).length:Int)-(↑l1.length:Int)-1) (Zag dq)))) :
 Zgj fa fb a b (Zag dq):=by
 unfold Zgj
 obtain ⟨k1,l1,k2,H⟩:=H
 have w3:(us l1).length=l1.length:=List.length_map ..
 have i4:((↑(us l1).length:Int)==1)=true ↔ ((↑l1.length:Int)=1):=(by (try rw [w3]);all_goals exact i_eq)
 refine Zaf (G:=Zae Zdr [(1,1,.call (.vec false 1 ((x::l).map (.int .u32))) none),(1,3,.call (vf (us l1)) none)] []) 7 [] ⟨(atC (cd Tryz.f115) [1,1,0,1]),[(0,vf (zNvF1 x l)),(1,vf (us l1)),(23,vb ((↑(us l1).length:Int)==1))],[],_,[],_⟩ (by kernel_rfl) b0 q0 (ce k1 (ce k2 c0)) ?_
 rcases xq H with ⟨d5,H⟩|⟨d5,H⟩
 ·obtain ⟨l2,l3,k6,H⟩:=H
  have i7:(decide (0<(us l1).length))=true ↔ (0<l1.length):=(by (try rw [w3]);all_goals exact Zac)
  obtain ⟨k8,H⟩:=H
  exact Zaj (G:=Zae Zdr [(3,3,.elem (vu (l1.getD 0 default))),(3,4,.call (tu [vf (us l2),vf (us l3)]) none)] []) 1000 [true] (eqs:=[((us l1).get?Internal 0=some (vu (l1.getD 0 default)))]) (tu [vf (us l2),vf (us l3)]) (by kernel_rfl) (bc (Zam (i4.2 d5)) (bc rfl (bc (i7.2 k8) b0))) (qc (Zat k8) q0) (ce k6 c0) H
 ·obtain ⟨n1,k9,H⟩:=H
  refine Zaf (G:=Zae Zdr [(4,2,.call (vi n1) none)] []) 5 [false] ⟨(atC (cd Tryz.f115) [1,1,1,0,1]),[(0,vf (zNvF1 x l)),(1,vf (us l1)),(34,vb (decide (n1<0)))],[],_,[],_⟩ (by kernel_rfl) (bc (Zak (fun h=>d5 (i4.1 h))) b0) q0 (ce k9 c0) ?_
  rcases xq H with ⟨d11,H⟩|⟨d11,H⟩
  ·have w12:(us l).length=l.length:=List.length_map ..
   have i13:(decide (((us l).length+1)*4<=1099511627776))=true ↔ ((l.length+1)*4<=1099511627776):=(by (try rw [w12]);all_goals exact Zac)
   obtain ⟨k14,H⟩:=H
   exact ZaB (G:=Zae Zdr [] []) 1000 [true] (k:=((atC (cd Tryz.f115) [1,1,1,0,1,0,1])).tail) (env':=[(4,AV.vnil),(5,AV.row 0 0)]) (L':=[⟨vu x::us l,1,0,false,true⟩]) (asm:=[(decide (n1<0))==true,decide (((us l).length+1)*4<=1099511627776)]) (eqs:=[]) (calls:=[]) (tu [AV.vnil,AV.row 0 0]) (by kernel_rfl) (by kernel_rfl) (Zaa (Zam (Zac.2 d11)) (Zaa (i13.2 k14) Zal)) Zao Zap (ZbI (d:=(tu [AV.vnil,vf (zNvF1 x l)])) (bs:=[0==0]) (by kernel_rfl) (by kernel_rfl) (Zaa (beq_self_eq_true _) Zal) (by kernel_rfl) H)
  ·obtain ⟨k15,H⟩:=H
   have w16:wi ((↑l1.length:Int)-1)=(↑l1.length:Int)-1:=wI64 k15
   have i17:(decide (0<=wi ((↑(us l1).length:Int)-1)))=true ↔ (0<=(↑l1.length:Int)-1):=(by (try rw [w3]);(try rw [w16]);all_goals exact Zac)
   obtain ⟨k18,H⟩:=H
   have i19:(decide ((wi ((↑(us l1).length:Int)-1)).toNat<(us l1).length))=true ↔ (((↑l1.length:Int)-1).toNat<l1.length):=(by (try rw [w3]);(try rw [w16]);all_goals exact Zac)
   obtain ⟨k20,k21,H⟩:=H
   have w22:wu (l1.getD ((↑l1.length:Int)-1).toNat default)=l1.getD ((↑l1.length:Int)-1).toNat default:=wU64 k21
   obtain ⟨k23,H⟩:=H
   have w24:wu (l1.getD ((↑l1.length:Int)-1).toNat default+1)=l1.getD ((↑l1.length:Int)-1).toNat default+1:=wU64 k23
   have i25:(!wu (wu (l1.getD ((↑l1.length:Int)-1).toNat default)+1)==0)=true ↔ (¬l1.getD ((↑l1.length:Int)-1).toNat default+1=0):=(by (try rw [w22]);(try rw [w24]);all_goals exact ZdC)
   obtain ⟨k26,k27,H⟩:=H
   have w28:wu (Int.tdiv 1000000000 (l1.getD ((↑l1.length:Int)-1).toNat default+1))=Int.tdiv 1000000000 (l1.getD ((↑l1.length:Int)-1).toNat default+1):=wU64 k27
   obtain ⟨k29,H⟩:=H
   have w30:wv (Int.tdiv 1000000000 (l1.getD ((↑l1.length:Int)-1).toNat default+1))=Int.tdiv 1000000000 (l1.getD ((↑l1.length:Int)-1).toNat default+1):=wU32 k29
   obtain ⟨k31,H⟩:=H
   have w32:(us ul).length=ul.length:=List.length_map ..
   have i33:(decide (((us ul).length+1)*4<=1099511627776))=true ↔ ((ul.length+1)*4<=1099511627776):=(by (try rw [w32]);all_goals exact Zac)
   obtain ⟨k34,H⟩:=H
   have w35:us ul++[vu 0]=us (ul++[0]):=(ZdZ rfl rfl)
   obtain ⟨l4,k36,l5,k37,H⟩:=H
   have w38:(us (ul++[0])).length=(ul++[0]).length:=List.length_map ..
   obtain ⟨k39,H⟩:=H
   have w40:wi ((↑(ul++[0]).length:Int)-(↑l1.length:Int))=(↑(ul++[0]).length:Int)-(↑l1.length:Int):=wI64 k39
   have i41:(decide (0<=wi ((↑(us ul++[vu 0]).length:Int)-(↑(us l1).length:Int))))=true ↔ (0<=(↑(ul++[0]).length:Int)-(↑l1.length:Int)):=(by (try rw [w3]);(try rw [w35]);(try rw [w38]);(try rw [w40]);all_goals exact Zac)
   obtain ⟨k42,H⟩:=H
   have i43:(decide (wi ((↑(us ul++[vu 0]).length:Int)-(↑(us l1).length:Int))<=wi ((↑(us ul++[vu 0]).length:Int)-(↑(us l1).length:Int))))=true ↔ ((↑(ul++[0]).length:Int)-(↑l1.length:Int)<=(↑(ul++[0]).length:Int)-(↑l1.length:Int)):=(by (try rw [w3]);(try rw [w35]);(try rw [w38]);(try rw [w40]);all_goals exact Zac)
   have i44:(decide (wi ((↑(us ul++[vu 0]).length:Int)-(↑(us l1).length:Int))*4<=1099511627776))=true ↔ (((↑(ul++[0]).length:Int)-(↑l1.length:Int))*4<=1099511627776):=(by (try rw [w3]);(try rw [w35]);(try rw [w38]);(try rw [w40]);all_goals exact Zac)
   obtain ⟨k45,H⟩:=H
   have i46:(decide (wi ((↑(us ul++[vu 0]).length:Int)-(↑(us l1).length:Int))<=1099511627776))=true ↔ ((↑(ul++[0]).length:Int)-(↑l1.length:Int)<=1099511627776):=(by (try rw [w3]);(try rw [w35]);(try rw [w38]);(try rw [w40]);all_goals exact Zac)
   obtain ⟨k47,H⟩:=H
   have w48:List.replicate ((↑(ul++[0]).length:Int)-(↑l1.length:Int)).toNat (vu 0)=us (List.replicate ((↑(ul++[0]).length:Int)-(↑l1.length:Int)).toNat (0:Int)):=(ZdY rfl)
   obtain ⟨k49,H⟩:=H
   have w50:wi ((↑(ul++[0]).length:Int)-(↑l1.length:Int)-1)=(↑(ul++[0]).length:Int)-(↑l1.length:Int)-1:=wI64 k49
   exact Zaf (G:=Zae Zdr [(7,4,.elem (vu (l1.getD ((↑l1.length:Int)-1).toNat default))),(8,3,(.call (.row 0 0) (some [⟨ul.map (.int .u32),1,0,false,true⟩]):Ans)),(9,3,.call (vf (us l4)) none),(9,4,.call (vf (us l5)) none)] []) 1000 [false] ⟨(atC (cd Tryz.f115) [1,1,1,1,1,1,1,1,1,0,1,0,0]),[(6,vi (↑(us l1).length:Int)),(7,vu (wv (wu (Int.tdiv 1000000000 (wu (wu (l1.getD ((↑l1.length:Int)-1).toNat default)+1)))))),(8,AV.row 0 1),(9,vf (us l5)),(10,AV.row 1 0),(11,vi (wi (wi ((↑(us ul++[vu 0]).length:Int)-(↑(us l1).length:Int))-1)))],[⟨us ul++[vu 0],1,1,false,true⟩,⟨List.replicate (wi ((↑(us ul++[vu 0]).length:Int)-(↑(us l1).length:Int))).toNat (vu 0),1,0,false,true⟩],[(decide (n1<0))==false,decide (0<=wi ((↑(us l1).length:Int)-1)),decide ((wi ((↑(us l1).length:Int)-1)).toNat<(us l1).length),!wu (wu (l1.getD ((↑l1.length:Int)-1).toNat default)+1)==0,scalarL (us ul),true,decide (((us ul).length+1)*4<=1099511627776),true,decide (0<=wi ((↑(us ul++[vu 0]).length:Int)-(↑(us l1).length:Int))),decide (wi ((↑(us ul++[vu 0]).length:Int)-(↑(us l1).length:Int))<=wi ((↑(us ul++[vu 0]).length:Int)-(↑(us l1).length:Int))),decide (wi ((↑(us ul++[vu 0]).length:Int)-(↑(us l1).length:Int))*4<=1099511627776),decide (wi ((↑(us ul++[vu 0]).length:Int)-(↑(us l1).length:Int))<=1099511627776),true],[((us l1).get?Internal (wi ((↑(us l1).length:Int)-1)).toNat=some (vu (l1.getD ((↑l1.length:Int)-1).toNat default)))],[⟨true,true,95,[vf (zNvF1 x l),AV.vec true 1 [vu (wv (wu (Int.tdiv 1000000000 (wu (wu (l1.getD ((↑l1.length:Int)-1).toNat default)+1)))))]],[],AV.row 0 0,[⟨us ul,1,0,false,true⟩]⟩,⟨true,false,95,[vf (us l1),AV.vec true 1 [vu (wv (wu (Int.tdiv 1000000000 (wu (wu (l1.getD ((↑l1.length:Int)-1).toNat default)+1)))))]],[],vf (us l4),[]⟩,⟨true,false,117,[vf (us l4)],[],vf (us l5),[]⟩]⟩ (by kernel_rfl) (bc (Zak (fun h=>d11 (Zac.1 h))) (bc (i17.2 k18) (bc (i19.2 k20) (bc (i25.2 k26) (bc (by first | exact sc_int _ | exact sc_bool _) (bc rfl (bc (i33.2 k34) (bc rfl (bc (i41.2 k42) (bc (i43.2 (by omega)) (bc (i44.2 k45) (bc (i46.2 k47) (bc rfl b0))))))))))))) (qc (by (try rw [w3]);(try rw [w16]);all_goals exact (Zat k20)) q0) (cc (fun _=>(by (try rw [w22]);(try rw [w24]);(try rw [w28]);(try rw [w30]);all_goals exact k31)) (cc (fun _=>(by (try rw [w22]);(try rw [w24]);(try rw [w28]);(try rw [w30]);all_goals exact k36)) (cc (fun _=>k37) c0))) (by (try rw [w3]);(try rw [w22]);(try rw [w24]);(try rw [w28]);(try rw [w30]);(try rw [w35]);(try rw [w38]);(try rw [w40]);(try rw [w48]);(try rw [w50]);all_goals exact H)
noncomputable abbrev zNvF2 (b:List Int) (n:Int):=vu (b.getD (n-1).toNat default)
theorem vDivideK (u b q:List Int) (fb:Bool) (v:Nat) (n s k:Int)  (dq:AV) (H :
  ((k>=0)->(-9223372036854775808<=k+n/\k+n<=9223372036854775807) /\
   (-9223372036854775808<=k+n-1/\k+n-1<=9223372036854775807) /\
   (0<=k+n) /\
   ((k+n).toNat<u.length) /\
   (0<=k+n-1) /\
   ((k+n-1).toNat<u.length) /\
   (0<=u.getD (k+n).toNat default/\u.getD (k+n).toNat default<=18446744073709551615) /\
   (0<=u.getD (k+n).toNat default*1000000000/\u.getD (k+n).toNat default*1000000000<=18446744073709551615) /\
   (0<=u.getD (k+n-1).toNat default/\u.getD (k+n-1).toNat default<=18446744073709551615) /\
   (0<=u.getD (k+n).toNat default*1000000000+u.getD (k+n-1).toNat default/\u.getD (k+n).toNat default*1000000000+u.getD (k+n-1).toNat default<=18446744073709551615) /\
   (-9223372036854775808<=n-1/\n-1<=9223372036854775807) /\
   (0<=n-1) /\
   ((n-1).toNat<b.length) /\
   (0<=b.getD (n-1).toNat default/\b.getD (n-1).toNat default<=18446744073709551615) /\
   (¬b.getD (n-1).toNat default=0) /\
   (0<=(u.getD (k+n).toNat default*1000000000+u.getD (k+n-1).toNat default).tdiv (b.getD (n-1).toNat default)/\(u.getD (k+n).toNat default*1000000000+u.getD (k+n-1).toNat default).tdiv (b.getD (n-1).toNat default)<=18446744073709551615) /\
   ZcQ u b q fb v n s k ((u.getD (k+n).toNat default*1000000000+u.getD (k+n-1).toNat default).tdiv (b.getD (n-1).toNat default)) ((u.getD (k+n).toNat default*1000000000+u.getD (k+n-1).toNat default).tmod (b.getD (n-1).toNat default)) (Zag dq)) /\
  (¬(k>=0) -> ∃ (l1:List Int),
   (Ev M1 (Conf.pure 117 [vf (us (List.take (n.toNat-0) (List.drop 0 u)))]) (vf (us l1)) []) /\
   ∃ (l2:List Int) (l3:List Int),
   (Ev M1 (Conf.pure 128 [vf (us l1),vu s]) (tu [vf (us l2),vf (us l3)]) []) /\
   (0<=n) /\
   (0<=n.toNat) /\
   (n.toNat<=u.length) /\
   Weak (tu [vf (us q),vf (us l2)]) dq)) :
 ZaU u b q fb v n s k (Zag dq):=by
 unfold ZaU
 rcases xq H with ⟨d2,H⟩|⟨d2,H⟩
 ·obtain ⟨k3,H⟩:=H
  have w4:wi (k+n)=k+n:=wI64 k3
  obtain ⟨k5,H⟩:=H
  have w6:wi (k+n-1)=k+n-1:=wI64 k5
  have i7:(decide (0<=wi (k+n)))=true ↔ (0<=k+n):=(by (try rw [w4]);all_goals exact Zac)
  obtain ⟨k8,H⟩:=H
  have w9:(us u).length=u.length:=List.length_map ..
  have i10:(decide ((wi (k+n)).toNat<(us u).length))=true ↔ ((k+n).toNat<u.length):=(by (try rw [w4]);(try rw [w9]);all_goals exact Zac)
  obtain ⟨k11,H⟩:=H
  have i12:(decide (0<=wi (wi (k+n)-1)))=true ↔ (0<=k+n-1):=(by (try rw [w4]);(try rw [w6]);all_goals exact Zac)
  obtain ⟨k13,H⟩:=H
  have i14:(decide ((wi (wi (k+n)-1)).toNat<(us u).length))=true ↔ ((k+n-1).toNat<u.length):=(by (try rw [w4]);(try rw [w6]);(try rw [w9]);all_goals exact Zac)
  obtain ⟨k15,k16,H⟩:=H
  have w17:wu (u.getD (k+n).toNat default)=u.getD (k+n).toNat default:=wU64 k16
  obtain ⟨k18,H⟩:=H
  have w19:wu (u.getD (k+n).toNat default*1000000000)=u.getD (k+n).toNat default*1000000000:=wU64 k18
  obtain ⟨k20,H⟩:=H
  have w21:wu (u.getD (k+n-1).toNat default)=u.getD (k+n-1).toNat default:=wU64 k20
  obtain ⟨k22,H⟩:=H
  have w23:wu (u.getD (k+n).toNat default*1000000000+u.getD (k+n-1).toNat default)=u.getD (k+n).toNat default*1000000000+u.getD (k+n-1).toNat default:=wU64 k22
  obtain ⟨k24,H⟩:=H
  have w25:wi (n-1)=n-1:=wI64 k24
  have i26:(decide (0<=wi (n-1)))=true ↔ (0<=n-1):=(by (try rw [w25]);all_goals exact Zac)
  obtain ⟨k27,H⟩:=H
  have w28:(us b).length=b.length:=List.length_map ..
  have i29:(decide ((wi (n-1)).toNat<(us b).length))=true ↔ ((n-1).toNat<b.length):=(by (try rw [w25]);(try rw [w28]);all_goals exact Zac)
  obtain ⟨k30,k31,H⟩:=H
  have w32:wu (b.getD (n-1).toNat default)=b.getD (n-1).toNat default:=wU64 k31
  have i33:(!wu (b.getD (n-1).toNat default)==0)=true ↔ (¬b.getD (n-1).toNat default=0):=(by (try rw [w32]);all_goals exact ZdC)
  obtain ⟨k34,H⟩:=H
  have i35:(decide (0<=wi (n-1)))=true ↔ (0<=n-1):=(by (try rw [w25]);all_goals exact Zac)
  have i36:(decide ((wi (n-1)).toNat<(us b).length))=true ↔ ((n-1).toNat<b.length):=(by (try rw [w25]);(try rw [w28]);all_goals exact Zac)
  have i37:(!wu (b.getD (n-1).toNat default)==0)=true ↔ (¬b.getD (n-1).toNat default=0):=(by (try rw [w32]);all_goals exact ZdC)
  obtain ⟨k38,H⟩:=H
  have w39:wu ((u.getD (k+n).toNat default*1000000000+u.getD (k+n-1).toNat default).tdiv (b.getD (n-1).toNat default))=(u.getD (k+n).toNat default*1000000000+u.getD (k+n-1).toNat default).tdiv (b.getD (n-1).toNat default):=wU64 k38
  exact Zaf (G:=Zae Zdr [(14,5,.elem (vu (u.getD (k+n).toNat default))),(14,14,.elem (vu (u.getD (k+n-1).toNat default))),(15,5,.elem (zNvF2 b n)),(15,13,.elem (zNvF2 b n))] []) 1000 [true] ⟨(atC (cd Tryz.f115) [1,1,1,1,1,1,1,1,1,0,1,0,0,1,0,0,1,1,0,0,0]),[(6,vi n),(7,vu s),(8,AV.row 0 v),(9,AV.vec fb 1 (us b)),(10,AV.row 1 0),(11,vi k),(13,vw (wu ((wu (wu (wu (u.getD (k+n).toNat default)*1000000000)+wu (u.getD (k+n-1).toNat default))).tdiv (wu (b.getD (n-1).toNat default))))),(14,vw ((wu (wu (wu (u.getD (k+n).toNat default)*1000000000)+wu (u.getD (k+n-1).toNat default))).tmod (wu (b.getD (n-1).toNat default))))],[⟨us u,1,v,false,true⟩,⟨us q,1,0,false,true⟩],[(decide (k>=0))==true,v==v,decide (0<=wi (k+n)),decide ((wi (k+n)).toNat<(us u).length),v==v,v==v,decide (0<=wi (wi (k+n)-1)),decide ((wi (wi (k+n)-1)).toNat<(us u).length),v==v,decide (0<=wi (n-1)),decide ((wi (n-1)).toNat<(us b).length),!wu (b.getD (n-1).toNat default)==0,decide (0<=wi (n-1)),decide ((wi (n-1)).toNat<(us b).length),!wu (b.getD (n-1).toNat default)==0],[((us u).get?Internal (wi (k+n)).toNat=some (vu (u.getD (k+n).toNat default))),((us u).get?Internal (wi (wi (k+n)-1)).toNat=some (vu (u.getD (k+n-1).toNat default))),((us b).get?Internal (wi (n-1)).toNat=some (zNvF2 b n)),((us b).get?Internal (wi (n-1)).toNat=some (zNvF2 b n))],_⟩ (by kernel_rfl) (bc (Zam (Zac.2 d2)) (bc (beq_self_eq_true _) (bc (i7.2 k8) (bc (i10.2 k11) (bc (beq_self_eq_true _) (bc (beq_self_eq_true _) (bc (i12.2 k13) (bc (i14.2 k15) (bc (beq_self_eq_true _) (bc (i26.2 k27) (bc (i29.2 k30) (bc (i33.2 k34) (bc (i35.2 k27) (bc (i36.2 k30) (bc (i37.2 k34) b0))))))))))))))) (qc (by (try rw [w4]);all_goals exact (Zat k11)) (qc (by (try rw [w4]);(try rw [w6]);all_goals exact (Zat k15)) (qc (by (try rw [w25]);all_goals exact (Zat k30)) (qc (by (try rw [w25]);all_goals exact (Zat k30)) q0)))) c0 (by (try rw [w17]);(try rw [w19]);(try rw [w21]);(try rw [w23]);(try rw [w32]);(try rw [w39]);all_goals exact H)
 ·have w40:List.drop 0 (us u)=us (List.drop 0 u):=(Zft rfl)
  have w41:List.take (n.toNat-0) (us (List.drop 0 u))=us (List.take (n.toNat-0) (List.drop 0 u)):=(Zfs rfl)
  obtain ⟨l1,k42,l2,l3,k43,k45,k47,H⟩:=H
  have w48:(us u).length=u.length:=List.length_map ..
  have i49:(decide (n.toNat<=(us u).length))=true ↔ (n.toNat<=u.length):=(by (try rw [w48]);all_goals exact Zac)
  obtain ⟨k50,H⟩:=H
  exact ZaB (G:=Zae Zdr [(24,3,.call (vf (us l1)) none),(24,5,.call (tu [vf (us l2),vf (us l3)]) none)] []) 1000 [false] (k:=((atC (cd Tryz.f115) [1,1,1,1,1,1,1,1,1,1,1,1])).tail) (env':=[(4,AV.row 1 0),(5,vf (us l2))]) (L':=[⟨us u,1,v,true,true⟩,⟨us q,1,0,false,true⟩]) (asm:=[(decide (k>=0))==false,v==v,decide (0<=n),decide (0<=n.toNat),decide (n.toNat<=(us u).length),v==v]) (eqs:=[]) (calls:=[⟨true,false,117,[vf (List.take (n.toNat-0) (List.drop 0 (us u)))],[],vf (us l1),[]⟩,⟨true,false,128,[vf (us l1),vu s],[],tu [vf (us l2),vf (us l3)],[]⟩]) (tu [AV.row 1 0,vf (us l2)]) (by kernel_rfl) (by kernel_rfl) (Zaa (Zak (fun h=>d2 (Zac.1 h))) (Zaa (beq_self_eq_true _) (Zaa (Zac.2 k45) (Zaa (Zac.2 k47) (Zaa (i49.2 k50) (Zaa (beq_self_eq_true _) Zal)))))) Zao (Zah (fun _=>(by (try rw [w40]);(try rw [w41]);all_goals exact k42)) (Zah (fun _=>k43) Zap)) (ZbI (d:=(tu [vf (us q),vf (us l2)])) (bs:=[0==0]) (by kernel_rfl) (by kernel_rfl) (Zaa (beq_self_eq_true _) Zal) (by kernel_rfl) H)
noncomputable abbrev zNvF3 (g:Int) (b:List Int) (n:Int) (r:Int) (u:List Int) (k:Int):=wu (g*wu (b.getD (n-2).toNat default))>wu (wu (r*1000000000)+wu (u.getD (k+n-2).toNat default))
theorem vDivideG (u b q:List Int) (fb:Bool) (v:Nat) (n s k:Int) (g r:Int)  (dq:AV) (H :
  (-9223372036854775808<=n-2/\n-2<=9223372036854775807) /\
  (-9223372036854775808<=k+n/\k+n<=9223372036854775807) /\
  (-9223372036854775808<=k+n-2/\k+n-2<=9223372036854775807) /\
  ((¬(g>=1000000000))->(0<=n-2)) /\
  ((¬(g>=1000000000))->((n-2).toNat<b.length)) /\
  ((¬(g>=1000000000))->(0<=k+n-2)) /\
  ((¬(g>=1000000000))->((k+n-2).toNat<u.length)) /\
  (((g>=1000000000)\/(IntKind.u64.wrap (g*IntKind.u64.wrap (b.getD (n-2).toNat default))>IntKind.u64.wrap (IntKind.u64.wrap (r*1000000000)+IntKind.u64.wrap (u.getD (k+n-2).toNat default))))->(0<=g-1/\g-1<=18446744073709551615) /\
   (-9223372036854775808<=n-1/\n-1<=9223372036854775807) /\
   (0<=n-1) /\
   ((n-1).toNat<b.length) /\
   (0<=b.getD (n-1).toNat default/\b.getD (n-1).toNat default<=18446744073709551615) /\
   (0<=r+b.getD (n-1).toNat default/\r+b.getD (n-1).toNat default<=18446744073709551615) /\
   ((r+b.getD (n-1).toNat default>=1000000000)->(-9223372036854775808<=k+n+1/\k+n+1<=9223372036854775807) /\
    (N.okL u/\N.okL b/\k.toNat+((k+n+1).toNat-k.toNat)<=u.length/\(k+n+1).toNat-k.toNat=b.length+1/\u.length<=1000000/\0<=g-1/\g-1<1000000000) /\
    (0<=k) /\
    (0<=k+n+1) /\
    (k.toNat<=(k+n+1).toNat) /\
    ((k+n+1).toNat<=u.length) /\
    (((↑(N.win u k.toNat ((k+n+1).toNat-k.toNat)):Int)-(g-1)*(↑(valL b):Int)<0)->(0<=g-1-1/\g-1-1<=18446744073709551615) /\
     (N.okL (N.Zbg u k.toNat ((k+n+1).toNat-k.toNat) ((↑(N.win u k.toNat ((k+n+1).toNat-k.toNat)):Int)-(g-1)*(↑(valL b):Int)))/\N.okL b/\k.toNat+((k+n+1).toNat-k.toNat)<=(N.Zbg u k.toNat ((k+n+1).toNat-k.toNat) ((↑(N.win u k.toNat ((k+n+1).toNat-k.toNat)):Int)-(g-1)*(↑(valL b):Int))).length/\(k+n+1).toNat-k.toNat=b.length+1/\(N.Zbg u k.toNat ((k+n+1).toNat-k.toNat) ((↑(N.win u k.toNat ((k+n+1).toNat-k.toNat)):Int)-(g-1)*(↑(valL b):Int))).length<=1000000) /\
     ((k+n+1).toNat<=(N.Zbg u k.toNat ((k+n+1).toNat-k.toNat) ((↑(N.win u k.toNat ((k+n+1).toNat-k.toNat)):Int)-(g-1)*(↑(valL b):Int))).length) /\
     (k.toNat<q.length) /\
     (0<=g-1-1/\g-1-1<=4294967295) /\
     (-9223372036854775808<=k-1/\k-1<=9223372036854775807) /\
     ZaU (N.Zbg (N.Zbg u k.toNat ((k+n+1).toNat-k.toNat) ((↑(N.win u k.toNat ((k+n+1).toNat-k.toNat)):Int)-(g-1)*(↑(valL b):Int))) k.toNat ((k+n+1).toNat-k.toNat) ((↑(N.win (N.Zbg u k.toNat ((k+n+1).toNat-k.toNat) ((↑(N.win u k.toNat ((k+n+1).toNat-k.toNat)):Int)-(g-1)*(↑(valL b):Int))) k.toNat ((k+n+1).toNat-k.toNat)):Int)+(↑(valL b):Int))) b (q.set k.toNat (g-1-1)) fb v n s (k-1) (Zag dq)) /\
    (¬((↑(N.win u k.toNat ((k+n+1).toNat-k.toNat)):Int)-(g-1)*(↑(valL b):Int)<0)->(k.toNat<q.length) /\
     (0<=g-1/\g-1<=4294967295) /\
     (-9223372036854775808<=k-1/\k-1<=9223372036854775807) /\
     ZaU (N.Zbg u k.toNat ((k+n+1).toNat-k.toNat) ((↑(N.win u k.toNat ((k+n+1).toNat-k.toNat)):Int)-(g-1)*(↑(valL b):Int))) b (q.set k.toNat (g-1)) fb v n s (k-1) (Zag dq))) /\
   (¬(r+b.getD (n-1).toNat default>=1000000000)->ZcQ u b q fb v n s k (g-1) (r+b.getD (n-1).toNat default) (Zag dq))) /\
  (¬((g>=1000000000)\/(IntKind.u64.wrap (g*IntKind.u64.wrap (b.getD (n-2).toNat default))>IntKind.u64.wrap (IntKind.u64.wrap (r*1000000000)+IntKind.u64.wrap (u.getD (k+n-2).toNat default))))->(-9223372036854775808<=k+n+1/\k+n+1<=9223372036854775807) /\
   (N.okL u/\N.okL b/\k.toNat+((k+n+1).toNat-k.toNat)<=u.length/\(k+n+1).toNat-k.toNat=b.length+1/\u.length<=1000000/\0<=g/\g<1000000000) /\
   (0<=k) /\
   (0<=k+n+1) /\
   (k.toNat<=(k+n+1).toNat) /\
   ((k+n+1).toNat<=u.length) /\
   (((↑(N.win u k.toNat ((k+n+1).toNat-k.toNat)):Int)-g*(↑(valL b):Int)<0)->(0<=g-1/\g-1<=18446744073709551615) /\
    (N.okL (N.Zbg u k.toNat ((k+n+1).toNat-k.toNat) ((↑(N.win u k.toNat ((k+n+1).toNat-k.toNat)):Int)-g*(↑(valL b):Int)))/\N.okL b/\k.toNat+((k+n+1).toNat-k.toNat)<=(N.Zbg u k.toNat ((k+n+1).toNat-k.toNat) ((↑(N.win u k.toNat ((k+n+1).toNat-k.toNat)):Int)-g*(↑(valL b):Int))).length/\(k+n+1).toNat-k.toNat=b.length+1/\(N.Zbg u k.toNat ((k+n+1).toNat-k.toNat) ((↑(N.win u k.toNat ((k+n+1).toNat-k.toNat)):Int)-g*(↑(valL b):Int))).length<=1000000) /\
    ((k+n+1).toNat<=(N.Zbg u k.toNat ((k+n+1).toNat-k.toNat) ((↑(N.win u k.toNat ((k+n+1).toNat-k.toNat)):Int)-g*(↑(valL b):Int))).length) /\
    (k.toNat<q.length) /\
    (0<=g-1/\g-1<=4294967295) /\
    (-9223372036854775808<=k-1/\k-1<=9223372036854775807) /\
    ZaU (N.Zbg (N.Zbg u k.toNat ((k+n+1).toNat-k.toNat) ((↑(N.win u k.toNat ((k+n+1).toNat-k.toNat)):Int)-g*(↑(valL b):Int))) k.toNat ((k+n+1).toNat-k.toNat) ((↑(N.win (N.Zbg u k.toNat ((k+n+1).toNat-k.toNat) ((↑(N.win u k.toNat ((k+n+1).toNat-k.toNat)):Int)-g*(↑(valL b):Int))) k.toNat ((k+n+1).toNat-k.toNat)):Int)+(↑(valL b):Int))) b (q.set k.toNat (g-1)) fb v n s (k-1) (Zag dq)) /\
   (¬((↑(N.win u k.toNat ((k+n+1).toNat-k.toNat)):Int)-g*(↑(valL b):Int)<0)->(k.toNat<q.length) /\
    (0<=g/\g<=4294967295) /\
    (-9223372036854775808<=k-1/\k-1<=9223372036854775807) /\
    ZaU (N.Zbg u k.toNat ((k+n+1).toNat-k.toNat) ((↑(N.win u k.toNat ((k+n+1).toNat-k.toNat)):Int)-g*(↑(valL b):Int))) b (q.set k.toNat g) fb v n s (k-1) (Zag dq)))) :
 ZcQ u b q fb v n s k g r (Zag dq):=by
 unfold ZcQ
 obtain ⟨k1,H⟩:=H
 have w2:wi (n-2)=n-2:=wI64 k1
 obtain ⟨k3,H⟩:=H
 have w4:wi (k+n)=k+n:=wI64 k3
 obtain ⟨k5,H⟩:=H
 have w6:wi (k+n-2)=k+n-2:=wI64 k5
 have i7:(!(decide (g>=1000000000)==false&&true)||decide (0<=wi (n-2)))=true ↔ ((¬(g>=1000000000))->(0<=n-2)):=(by (try rw [w2]);all_goals exact (ZfO (i_at (i_bf Zac)) Zac))
 obtain ⟨k8,H⟩:=H
 have w9:(us b).length=b.length:=List.length_map ..
 have i10:(!(decide (g>=1000000000)==false&&true)||decide ((wi (n-2)).toNat<(us b).length))=true ↔ ((¬(g>=1000000000))->((n-2).toNat<b.length)):=(by (try rw [w2]);(try rw [w9]);all_goals exact (ZfO (i_at (i_bf Zac)) Zac))
 obtain ⟨k11,H⟩:=H
 have i13:(!(decide (g>=1000000000)==false&&true)||decide (0<=wi (wi (k+n)-2)))=true ↔ ((¬(g>=1000000000))->(0<=k+n-2)):=(by (try rw [w4]);(try rw [w6]);all_goals exact (ZfO (i_at (i_bf Zac)) Zac))
 obtain ⟨k14,H⟩:=H
 have w15:(us u).length=u.length:=List.length_map ..
 have i16:(!(decide (g>=1000000000)==false&&true)||decide ((wi (wi (k+n)-2)).toNat<(us u).length))=true ↔ ((¬(g>=1000000000))->((k+n-2).toNat<u.length)):=(by (try rw [w4]);(try rw [w6]);(try rw [w15]);all_goals exact (ZfO (i_at (i_bf Zac)) Zac))
 obtain ⟨k17,H⟩:=H
 refine Zaf (G:=Zae Zdr [(16,8,.elem (vu (b.getD (n-2).toNat default))),(16,19,.elem (vu (u.getD (k+n-2).toNat default)))] []) 3 [] ⟨(atC (cd Tryz.f115) [1,1,1,1,1,1,1,1,1,0,1,0,0,1,0,0,1,1,0,0,0,0,1]),[(6,vi n),(7,vu s),(8,AV.row 0 v),(9,AV.vec fb 1 (us b)),(10,AV.row 1 0),(11,vi k),(13,vw g),(14,vw r),(129,vb (bif decide (g>=1000000000) then true else decide (zNvF3 g b n r u k)))],[⟨us u,1,v,false,true⟩,⟨us q,1,0,false,true⟩],[!(decide (g>=1000000000)==false&&true)||decide (0<=wi (n-2)),!(decide (g>=1000000000)==false&&true)||decide ((wi (n-2)).toNat<(us b).length),!(decide (g>=1000000000)==false&&true)||v==v,!(decide (g>=1000000000)==false&&true)||decide (0<=wi (wi (k+n)-2)),!(decide (g>=1000000000)==false&&true)||decide ((wi (wi (k+n)-2)).toNat<(us u).length),!(decide (g>=1000000000)==false&&true)||v==v],[((decide (g>=1000000000)==false&&true)=true->(us b).get?Internal (wi (n-2)).toNat=some (vu (b.getD (n-2).toNat default))),((decide (g>=1000000000)==false&&true)=true->(us u).get?Internal (wi (wi (k+n)-2)).toNat=some (vu (u.getD (k+n-2).toNat default)))],_⟩ (by kernel_rfl) (bc (i7.2 k8) (bc (i10.2 k11) (bc ((ZfO (i_at (i_bf Zac)) i_eq).2 (fun _=>rfl)) (bc (i13.2 k14) (bc (i16.2 k17) (bc ((ZfO (i_at (i_bf Zac)) i_eq).2 (fun _=>rfl)) b0)))))) (qc (by (try rw [w2]);all_goals exact (fun h=>Zat (k11 ((i_at (i_bf Zac)).1 h)))) (qc (by (try rw [w4]);(try rw [w6]);all_goals exact (fun h=>Zat (k17 ((i_at (i_bf Zac)).1 h)))) q0)) c0 ?_
 rcases xq H with ⟨d22,H⟩|⟨d22,H⟩
 ·obtain ⟨k23,H⟩:=H
  have w24:wu (g-1)=g-1:=wU64 k23
  obtain ⟨k25,H⟩:=H
  have w26:wi (n-1)=n-1:=wI64 k25
  have i27:(decide (0<=wi (n-1)))=true ↔ (0<=n-1):=(by (try rw [w26]);all_goals exact Zac)
  obtain ⟨k28,H⟩:=H
  have i29:(decide ((wi (n-1)).toNat<(us b).length))=true ↔ ((n-1).toNat<b.length):=(by (try rw [w9]);(try rw [w26]);all_goals exact Zac)
  obtain ⟨k30,k31,H⟩:=H
  have w32:wu (b.getD (n-1).toNat default)=b.getD (n-1).toNat default:=wU64 k31
  obtain ⟨k33,H⟩:=H
  have w34:wu (r+b.getD (n-1).toNat default)=r+b.getD (n-1).toNat default:=wU64 k33
  have i35:(decide (wu (r+wu (b.getD (n-1).toNat default))>=1000000000))=true ↔ (r+b.getD (n-1).toNat default>=1000000000):=(by (try rw [w32]);(try rw [w34]);all_goals exact Zac)
  refine Zaf (G:=Zae Zdr [(18,5,.elem (vu (b.getD (n-1).toNat default)))] []) 9 [true] ⟨(atC (cd Tryz.f115) [1,1,1,1,1,1,1,1,1,0,1,0,0,1,0,0,1,1,0,0,0,1,0,1,1,1]),[(6,vi n),(7,vu s),(8,AV.row 0 v),(9,AV.vec fb 1 (us b)),(10,AV.row 1 0),(11,vi k),(13,vw (wu (g-1))),(14,vw (wu (r+wu (b.getD (n-1).toNat default)))),(141,vb (decide (wu (r+wu (b.getD (n-1).toNat default))>=1000000000)))],[⟨us u,1,v,false,true⟩,⟨us q,1,0,false,true⟩],_,[((us b).get?Internal (wi (n-1)).toNat=some (vu (b.getD (n-1).toNat default)))],_⟩ (by kernel_rfl) (bc (Zam ((ZbP Zac Zac).2 d22)) (bc (i27.2 k28) (bc (i29.2 k30) b0))) (qc (by (try rw [w26]);all_goals exact (Zat k30)) q0) c0 ?_
  rcases xq H with ⟨d36,H⟩|⟨d36,H⟩
  ·obtain ⟨k37,H⟩:=H
   have w38:wi (k+n+1)=k+n+1:=wI64 k37
   obtain ⟨k39,k41,H⟩:=H
   have i42:(decide (0<=wi (wi (k+n)+1)))=true ↔ (0<=k+n+1):=(by (try rw [w4]);(try rw [w38]);all_goals exact Zac)
   obtain ⟨k43,H⟩:=H
   have i44:(decide (k.toNat<=(wi (wi (k+n)+1)).toNat))=true ↔ (k.toNat<=(k+n+1).toNat):=(by (try rw [w4]);(try rw [w38]);all_goals exact Zac)
   obtain ⟨k45,H⟩:=H
   have i46:(decide ((wi (wi (k+n)+1)).toNat<=(us u).length))=true ↔ ((k+n+1).toNat<=u.length):=(by (try rw [w4]);(try rw [w15]);(try rw [w38]);all_goals exact Zac)
   obtain ⟨k47,H⟩:=H
   refine Zaf (G:=Zae Zdr [(20,9,.call (vb (decide ((↑(N.win u k.toNat ((k+n+1).toNat-k.toNat)):Int)-(g-1)*(↑(valL b):Int)<0))) (some [⟨us (N.Zbg u k.toNat ((k+n+1).toNat-k.toNat) ((↑(N.win u k.toNat ((k+n+1).toNat-k.toNat)):Int)-(g-1)*(↑(valL b):Int))),1,v,false,true⟩]))] []) 5 [true] ⟨(atC (cd Tryz.f115) [1,1,1,1,1,1,1,1,1,0,1,0,0,1,0,0,1,1,1,0,1]),[(6,vi n),(7,vu s),(8,AV.row 0 v),(9,AV.vec fb 1 (us b)),(10,AV.row 1 0),(11,vi k),(13,vw (wu (g-1))),(151,vb (decide ((↑(N.win u k.toNat ((k+n+1).toNat-k.toNat)):Int)-(g-1)*(↑(valL b):Int)<0)))],[⟨us (N.Zbg u k.toNat ((k+n+1).toNat-k.toNat) ((↑(N.win u k.toNat ((k+n+1).toNat-k.toNat)):Int)-(g-1)*(↑(valL b):Int))),1,v,false,true⟩,⟨us q,1,0,false,true⟩],[(decide (wu (r+wu (b.getD (n-1).toNat default))>=1000000000))==true,v==v,decide (0<=k),decide (0<=wi (wi (k+n)+1)),decide (k.toNat<=(wi (wi (k+n)+1)).toNat),decide ((wi (wi (k+n)+1)).toNat<=(us u).length)],[],[⟨true,true,129,[AV.ref 0 v k.toNat ((wi (wi (k+n)+1)).toNat-k.toNat),AV.vec fb 1 (us b),vw (wu (g-1))],[⟨us u,1,v,false,true⟩],vb (decide ((↑(N.win u k.toNat ((k+n+1).toNat-k.toNat)):Int)-(g-1)*(↑(valL b):Int)<0)),[⟨us (N.Zbg u k.toNat ((k+n+1).toNat-k.toNat) ((↑(N.win u k.toNat ((k+n+1).toNat-k.toNat)):Int)-(g-1)*(↑(valL b):Int))),1,v,false,true⟩]⟩]⟩ (by kernel_rfl) (bc (Zam (i35.2 d36)) (bc (beq_self_eq_true _) (bc (Zac.2 k41) (bc (i42.2 k43) (bc (i44.2 k45) (bc (i46.2 k47) b0)))))) q0 (cc (fun _=>(by (try rw [w4]);(try rw [w24]);(try rw [w38]);all_goals exact (@evo129 u b fb v (k.toNat) ((k+n+1).toNat-k.toNat) (g-1) k39))) c0) ?_
   rcases xq H with ⟨d49,H⟩|⟨d49,H⟩
   ·obtain ⟨k50,H⟩:=H
    have w51:wu (g-1-1)=g-1-1:=wU64 k50
    obtain ⟨k52,H⟩:=H
    have i54:(decide (0<=wi (wi (k+n)+1)))=true ↔ (0<=k+n+1):=(by (try rw [w4]);(try rw [w38]);all_goals exact Zac)
    have i55:(decide (k.toNat<=(wi (wi (k+n)+1)).toNat))=true ↔ (k.toNat<=(k+n+1).toNat):=(by (try rw [w4]);(try rw [w38]);all_goals exact Zac)
    have w56:(us (N.Zbg u k.toNat ((k+n+1).toNat-k.toNat) ((↑(N.win u k.toNat ((k+n+1).toNat-k.toNat)):Int)-(g-1)*(↑(valL b):Int)))).length=(N.Zbg u k.toNat ((k+n+1).toNat-k.toNat) ((↑(N.win u k.toNat ((k+n+1).toNat-k.toNat)):Int)-(g-1)*(↑(valL b):Int))).length:=List.length_map ..
    have i57:(decide ((wi (wi (k+n)+1)).toNat<=(us (N.Zbg u k.toNat ((k+n+1).toNat-k.toNat) ((↑(N.win u k.toNat ((k+n+1).toNat-k.toNat)):Int)-(g-1)*(↑(valL b):Int)))).length))=true ↔ ((k+n+1).toNat<=(N.Zbg u k.toNat ((k+n+1).toNat-k.toNat) ((↑(N.win u k.toNat ((k+n+1).toNat-k.toNat)):Int)-(g-1)*(↑(valL b):Int))).length):=(by (try rw [w4]);(try rw [w38]);(try rw [w56]);all_goals exact Zac)
    obtain ⟨k58,H⟩:=H
    have w60:(us q).length=q.length:=List.length_map ..
    have i61:(decide (k.toNat<(us q).length))=true ↔ (k.toNat<q.length):=(by (try rw [w60]);all_goals exact Zac)
    obtain ⟨k62,k63,H⟩:=H
    have w64:wv (g-1-1)=g-1-1:=wU32 k63
    have w65:(us q).set k.toNat (vu (g-1-1))=us (q.set k.toNat (g-1-1)):=(Zbf rfl rfl)
    obtain ⟨k66,H⟩:=H
    have w67:wi (k-1)=k-1:=wI64 k66
    exact Zaf (G:=Zae Zdr [(22,8,.call (tu []) (some [⟨us (N.Zbg (N.Zbg u k.toNat ((k+n+1).toNat-k.toNat) ((↑(N.win u k.toNat ((k+n+1).toNat-k.toNat)):Int)-(g-1)*(↑(valL b):Int))) k.toNat ((k+n+1).toNat-k.toNat) ((↑(N.win (N.Zbg u k.toNat ((k+n+1).toNat-k.toNat) ((↑(N.win u k.toNat ((k+n+1).toNat-k.toNat)):Int)-(g-1)*(↑(valL b):Int))) k.toNat ((k+n+1).toNat-k.toNat)):Int)+(↑(valL b):Int))),1,v,false,true⟩])),(23,5,.elem (vu (q.getD k.toNat default)))] []) 1000 [true] ⟨(atC (cd Tryz.f115) [1,1,1,1,1,1,1,1,1,0,1,0,0]),[(6,vi n),(7,vu s),(8,AV.row 0 v),(9,AV.vec fb 1 (us b)),(10,AV.row 1 0),(11,vi (wi (k-1)))],[⟨us (N.Zbg (N.Zbg u k.toNat ((k+n+1).toNat-k.toNat) ((↑(N.win u k.toNat ((k+n+1).toNat-k.toNat)):Int)-(g-1)*(↑(valL b):Int))) k.toNat ((k+n+1).toNat-k.toNat) ((↑(N.win (N.Zbg u k.toNat ((k+n+1).toNat-k.toNat) ((↑(N.win u k.toNat ((k+n+1).toNat-k.toNat)):Int)-(g-1)*(↑(valL b):Int))) k.toNat ((k+n+1).toNat-k.toNat)):Int)+(↑(valL b):Int))),1,v,false,true⟩,⟨(us q).set k.toNat (vu (wv (wu (wu (g-1)-1)))),1,0,false,true⟩],[(decide ((↑(N.win u k.toNat ((k+n+1).toNat-k.toNat)):Int)-(g-1)*(↑(valL b):Int)<0))==true,v==v,decide (0<=k),decide (0<=wi (wi (k+n)+1)),decide (k.toNat<=(wi (wi (k+n)+1)).toNat),decide ((wi (wi (k+n)+1)).toNat<=(us (N.Zbg u k.toNat ((k+n+1).toNat-k.toNat) ((↑(N.win u k.toNat ((k+n+1).toNat-k.toNat)):Int)-(g-1)*(↑(valL b):Int)))).length),true,decide (0<=k),decide (k.toNat<(us q).length),true],[((us q).get?Internal k.toNat=some (vu (q.getD k.toNat default)))],[⟨true,true,130,[AV.ref 0 v k.toNat ((wi (wi (k+n)+1)).toNat-k.toNat),AV.vec fb 1 (us b)],[⟨us (N.Zbg u k.toNat ((k+n+1).toNat-k.toNat) ((↑(N.win u k.toNat ((k+n+1).toNat-k.toNat)):Int)-(g-1)*(↑(valL b):Int))),1,v,false,true⟩],tu [],[⟨us (N.Zbg (N.Zbg u k.toNat ((k+n+1).toNat-k.toNat) ((↑(N.win u k.toNat ((k+n+1).toNat-k.toNat)):Int)-(g-1)*(↑(valL b):Int))) k.toNat ((k+n+1).toNat-k.toNat) ((↑(N.win (N.Zbg u k.toNat ((k+n+1).toNat-k.toNat) ((↑(N.win u k.toNat ((k+n+1).toNat-k.toNat)):Int)-(g-1)*(↑(valL b):Int))) k.toNat ((k+n+1).toNat-k.toNat)):Int)+(↑(valL b):Int))),1,v,false,true⟩]⟩]⟩ (by kernel_rfl) (bc (Zam (Zac.2 d49)) (bc (beq_self_eq_true _) (bc (Zac.2 k41) (bc (i54.2 k43) (bc (i55.2 k45) (bc (i57.2 k58) (bc rfl (bc (Zac.2 k41) (bc (i61.2 k62) (bc rfl b0)))))))))) (qc (Zat k62) q0) (cc (fun _=>(by (try rw [w4]);(try rw [w38]);all_goals exact (@evo130 (N.Zbg u k.toNat ((k+n+1).toNat-k.toNat) ((↑(N.win u k.toNat ((k+n+1).toNat-k.toNat)):Int)-(g-1)*(↑(valL b):Int))) b fb v (k.toNat) ((k+n+1).toNat-k.toNat) k52))) c0) (by (try rw [w24]);(try rw [w51]);(try rw [w64]);(try rw [w65]);(try rw [w67]);all_goals exact H)
   ·have w69:(us q).length=q.length:=List.length_map ..
    have i70:(decide (k.toNat<(us q).length))=true ↔ (k.toNat<q.length):=(by (try rw [w69]);all_goals exact Zac)
    obtain ⟨k71,k72,H⟩:=H
    have w73:wv (g-1)=g-1:=wU32 k72
    have w74:(us q).set k.toNat (vu (g-1))=us (q.set k.toNat (g-1)):=(Zbf rfl rfl)
    obtain ⟨k75,H⟩:=H
    have w76:wi (k-1)=k-1:=wI64 k75
    exact Zaf (G:=Zae Zdr [(23,5,.elem (vu (q.getD k.toNat default)))] []) 1000 [false] ⟨(atC (cd Tryz.f115) [1,1,1,1,1,1,1,1,1,0,1,0,0]),[(6,vi n),(7,vu s),(8,AV.row 0 v),(9,AV.vec fb 1 (us b)),(10,AV.row 1 0),(11,vi (wi (k-1)))],[⟨us (N.Zbg u k.toNat ((k+n+1).toNat-k.toNat) ((↑(N.win u k.toNat ((k+n+1).toNat-k.toNat)):Int)-(g-1)*(↑(valL b):Int))),1,v,false,true⟩,⟨(us q).set k.toNat (vu (wv (wu (g-1)))),1,0,false,true⟩],_,[((us q).get?Internal k.toNat=some (vu (q.getD k.toNat default)))],_⟩ (by kernel_rfl) (bc (Zak (fun h=>d49 (Zac.1 h))) (bc rfl (bc (Zac.2 k41) (bc (i70.2 k71) (bc rfl b0))))) (qc (Zat k71) q0) c0 (by (try rw [w24]);(try rw [w73]);(try rw [w74]);(try rw [w76]);all_goals exact H)
  ·exact Zaf (G:=Zae Zdr [] []) 1000 [false] ⟨(atC (cd Tryz.f115) [1,1,1,1,1,1,1,1,1,0,1,0,0,1,0,0,1,1,0,0,0]),[(6,vi n),(7,vu s),(8,AV.row 0 v),(9,AV.vec fb 1 (us b)),(10,AV.row 1 0),(11,vi k),(13,vw (wu (g-1))),(14,vw (wu (r+wu (b.getD (n-1).toNat default)))),(141,vb (decide (wu (r+wu (b.getD (n-1).toNat default))>=1000000000)))],[⟨us u,1,v,false,true⟩,⟨us q,1,0,false,true⟩],_,[],_⟩ (by kernel_rfl) (bc (Zak (fun h=>d36 (i35.1 h))) b0) q0 c0 (by (try rw [w24]);(try rw [w32]);(try rw [w34]);all_goals exact Wp.less [6,7,8,9,10,11,13,14] H)
 ·obtain ⟨k77,H⟩:=H
  have w78:wi (k+n+1)=k+n+1:=wI64 k77
  obtain ⟨k79,k81,H⟩:=H
  have i82:(decide (0<=wi (wi (k+n)+1)))=true ↔ (0<=k+n+1):=(by (try rw [w4]);(try rw [w78]);all_goals exact Zac)
  obtain ⟨k83,H⟩:=H
  have i84:(decide (k.toNat<=(wi (wi (k+n)+1)).toNat))=true ↔ (k.toNat<=(k+n+1).toNat):=(by (try rw [w4]);(try rw [w78]);all_goals exact Zac)
  obtain ⟨k85,H⟩:=H
  have i86:(decide ((wi (wi (k+n)+1)).toNat<=(us u).length))=true ↔ ((k+n+1).toNat<=u.length):=(by (try rw [w4]);(try rw [w15]);(try rw [w78]);all_goals exact Zac)
  obtain ⟨k87,H⟩:=H
  refine Zaf (G:=Zae Zdr [(20,9,.call (vb (decide ((↑(N.win u k.toNat ((k+n+1).toNat-k.toNat)):Int)-g*(↑(valL b):Int)<0))) (some [⟨us (N.Zbg u k.toNat ((k+n+1).toNat-k.toNat) ((↑(N.win u k.toNat ((k+n+1).toNat-k.toNat)):Int)-g*(↑(valL b):Int))),1,v,false,true⟩]))] []) 5 [false] ⟨(atC (cd Tryz.f115) [1,1,1,1,1,1,1,1,1,0,1,0,0,1,0,0,1,1,1,0,1]),[(6,vi n),(7,vu s),(8,AV.row 0 v),(9,AV.vec fb 1 (us b)),(10,AV.row 1 0),(11,vi k),(13,vw g),(151,vb (decide ((↑(N.win u k.toNat ((k+n+1).toNat-k.toNat)):Int)-g*(↑(valL b):Int)<0)))],[⟨us (N.Zbg u k.toNat ((k+n+1).toNat-k.toNat) ((↑(N.win u k.toNat ((k+n+1).toNat-k.toNat)):Int)-g*(↑(valL b):Int))),1,v,false,true⟩,⟨us q,1,0,false,true⟩],[(bif decide (g>=1000000000) then true else decide (zNvF3 g b n r u k))==false,v==v,decide (0<=k),decide (0<=wi (wi (k+n)+1)),decide (k.toNat<=(wi (wi (k+n)+1)).toNat),decide ((wi (wi (k+n)+1)).toNat<=(us u).length)],[],[⟨true,true,129,[AV.ref 0 v k.toNat ((wi (wi (k+n)+1)).toNat-k.toNat),AV.vec fb 1 (us b),vw g],[⟨us u,1,v,false,true⟩],vb (decide ((↑(N.win u k.toNat ((k+n+1).toNat-k.toNat)):Int)-g*(↑(valL b):Int)<0)),[⟨us (N.Zbg u k.toNat ((k+n+1).toNat-k.toNat) ((↑(N.win u k.toNat ((k+n+1).toNat-k.toNat)):Int)-g*(↑(valL b):Int))),1,v,false,true⟩]⟩]⟩ (by kernel_rfl) (bc (Zak (fun h=>d22 ((ZbP Zac Zac).1 h))) (bc (beq_self_eq_true _) (bc (Zac.2 k81) (bc (i82.2 k83) (bc (i84.2 k85) (bc (i86.2 k87) b0)))))) q0 (cc (fun _=>(by (try rw [w4]);(try rw [w78]);all_goals exact (@evo129 u b fb v (k.toNat) ((k+n+1).toNat-k.toNat) g k79))) c0) ?_
  rcases xq H with ⟨d89,H⟩|⟨d89,H⟩
  ·obtain ⟨k90,H⟩:=H
   have w91:wu (g-1)=g-1:=wU64 k90
   obtain ⟨k92,H⟩:=H
   have i94:(decide (0<=wi (wi (k+n)+1)))=true ↔ (0<=k+n+1):=(by (try rw [w4]);(try rw [w78]);all_goals exact Zac)
   have i95:(decide (k.toNat<=(wi (wi (k+n)+1)).toNat))=true ↔ (k.toNat<=(k+n+1).toNat):=(by (try rw [w4]);(try rw [w78]);all_goals exact Zac)
   have w96:(us (N.Zbg u k.toNat ((k+n+1).toNat-k.toNat) ((↑(N.win u k.toNat ((k+n+1).toNat-k.toNat)):Int)-g*(↑(valL b):Int)))).length=(N.Zbg u k.toNat ((k+n+1).toNat-k.toNat) ((↑(N.win u k.toNat ((k+n+1).toNat-k.toNat)):Int)-g*(↑(valL b):Int))).length:=List.length_map ..
   have i97:(decide ((wi (wi (k+n)+1)).toNat<=(us (N.Zbg u k.toNat ((k+n+1).toNat-k.toNat) ((↑(N.win u k.toNat ((k+n+1).toNat-k.toNat)):Int)-g*(↑(valL b):Int)))).length))=true ↔ ((k+n+1).toNat<=(N.Zbg u k.toNat ((k+n+1).toNat-k.toNat) ((↑(N.win u k.toNat ((k+n+1).toNat-k.toNat)):Int)-g*(↑(valL b):Int))).length):=(by (try rw [w4]);(try rw [w78]);(try rw [w96]);all_goals exact Zac)
   obtain ⟨k98,H⟩:=H
   have w100:(us q).length=q.length:=List.length_map ..
   have i101:(decide (k.toNat<(us q).length))=true ↔ (k.toNat<q.length):=(by (try rw [w100]);all_goals exact Zac)
   obtain ⟨k102,k103,H⟩:=H
   have w104:wv (g-1)=g-1:=wU32 k103
   have w105:(us q).set k.toNat (vu (g-1))=us (q.set k.toNat (g-1)):=(Zbf rfl rfl)
   obtain ⟨k106,H⟩:=H
   have w107:wi (k-1)=k-1:=wI64 k106
   exact Zaf (G:=Zae Zdr [(22,8,.call (tu []) (some [⟨us (N.Zbg (N.Zbg u k.toNat ((k+n+1).toNat-k.toNat) ((↑(N.win u k.toNat ((k+n+1).toNat-k.toNat)):Int)-g*(↑(valL b):Int))) k.toNat ((k+n+1).toNat-k.toNat) ((↑(N.win (N.Zbg u k.toNat ((k+n+1).toNat-k.toNat) ((↑(N.win u k.toNat ((k+n+1).toNat-k.toNat)):Int)-g*(↑(valL b):Int))) k.toNat ((k+n+1).toNat-k.toNat)):Int)+(↑(valL b):Int))),1,v,false,true⟩])),(23,5,.elem (vu (q.getD k.toNat default)))] []) 1000 [true] ⟨(atC (cd Tryz.f115) [1,1,1,1,1,1,1,1,1,0,1,0,0]),[(6,vi n),(7,vu s),(8,AV.row 0 v),(9,AV.vec fb 1 (us b)),(10,AV.row 1 0),(11,vi (wi (k-1)))],[⟨us (N.Zbg (N.Zbg u k.toNat ((k+n+1).toNat-k.toNat) ((↑(N.win u k.toNat ((k+n+1).toNat-k.toNat)):Int)-g*(↑(valL b):Int))) k.toNat ((k+n+1).toNat-k.toNat) ((↑(N.win (N.Zbg u k.toNat ((k+n+1).toNat-k.toNat) ((↑(N.win u k.toNat ((k+n+1).toNat-k.toNat)):Int)-g*(↑(valL b):Int))) k.toNat ((k+n+1).toNat-k.toNat)):Int)+(↑(valL b):Int))),1,v,false,true⟩,⟨(us q).set k.toNat (vu (wv (wu (g-1)))),1,0,false,true⟩],[(decide ((↑(N.win u k.toNat ((k+n+1).toNat-k.toNat)):Int)-g*(↑(valL b):Int)<0))==true,v==v,decide (0<=k),decide (0<=wi (wi (k+n)+1)),decide (k.toNat<=(wi (wi (k+n)+1)).toNat),decide ((wi (wi (k+n)+1)).toNat<=(us (N.Zbg u k.toNat ((k+n+1).toNat-k.toNat) ((↑(N.win u k.toNat ((k+n+1).toNat-k.toNat)):Int)-g*(↑(valL b):Int)))).length),true,decide (0<=k),decide (k.toNat<(us q).length),true],[((us q).get?Internal k.toNat=some (vu (q.getD k.toNat default)))],[⟨true,true,130,[AV.ref 0 v k.toNat ((wi (wi (k+n)+1)).toNat-k.toNat),AV.vec fb 1 (us b)],[⟨us (N.Zbg u k.toNat ((k+n+1).toNat-k.toNat) ((↑(N.win u k.toNat ((k+n+1).toNat-k.toNat)):Int)-g*(↑(valL b):Int))),1,v,false,true⟩],tu [],[⟨us (N.Zbg (N.Zbg u k.toNat ((k+n+1).toNat-k.toNat) ((↑(N.win u k.toNat ((k+n+1).toNat-k.toNat)):Int)-g*(↑(valL b):Int))) k.toNat ((k+n+1).toNat-k.toNat) ((↑(N.win (N.Zbg u k.toNat ((k+n+1).toNat-k.toNat) ((↑(N.win u k.toNat ((k+n+1).toNat-k.toNat)):Int)-g*(↑(valL b):Int))) k.toNat ((k+n+1).toNat-k.toNat)):Int)+(↑(valL b):Int))),1,v,false,true⟩]⟩]⟩ (by kernel_rfl) (bc (Zam (Zac.2 d89)) (bc (beq_self_eq_true _) (bc (Zac.2 k81) (bc (i94.2 k83) (bc (i95.2 k85) (bc (i97.2 k98) (bc rfl (bc (Zac.2 k81) (bc (i101.2 k102) (bc rfl b0)))))))))) (qc (Zat k102) q0) (cc (fun _=>(by (try rw [w4]);(try rw [w78]);all_goals exact (@evo130 (N.Zbg u k.toNat ((k+n+1).toNat-k.toNat) ((↑(N.win u k.toNat ((k+n+1).toNat-k.toNat)):Int)-g*(↑(valL b):Int))) b fb v (k.toNat) ((k+n+1).toNat-k.toNat) k92))) c0) (by (try rw [w91]);(try rw [w104]);(try rw [w105]);(try rw [w107]);all_goals exact H)
  ·have w109:(us q).length=q.length:=List.length_map ..
   have i110:(decide (k.toNat<(us q).length))=true ↔ (k.toNat<q.length):=(by (try rw [w109]);all_goals exact Zac)
   obtain ⟨k111,k112,H⟩:=H
   have w113:wv g=g:=wU32 k112
   have w114:(us q).set k.toNat (vu g)=us (q.set k.toNat g):=(Zbf rfl rfl)
   obtain ⟨k115,H⟩:=H
   have w116:wi (k-1)=k-1:=wI64 k115
   exact Zaf (G:=Zae Zdr [(23,5,.elem (vu (q.getD k.toNat default)))] []) 1000 [false] ⟨(atC (cd Tryz.f115) [1,1,1,1,1,1,1,1,1,0,1,0,0]),[(6,vi n),(7,vu s),(8,AV.row 0 v),(9,AV.vec fb 1 (us b)),(10,AV.row 1 0),(11,vi (wi (k-1)))],[⟨us (N.Zbg u k.toNat ((k+n+1).toNat-k.toNat) ((↑(N.win u k.toNat ((k+n+1).toNat-k.toNat)):Int)-g*(↑(valL b):Int))),1,v,false,true⟩,⟨(us q).set k.toNat (vu (wv g)),1,0,false,true⟩],_,[((us q).get?Internal k.toNat=some (vu (q.getD k.toNat default)))],_⟩ (by kernel_rfl) (bc (Zak (fun h=>d89 (Zac.1 h))) (bc rfl (bc (Zac.2 k81) (bc (i110.2 k111) (bc rfl b0))))) (qc (Zat k111) q0) c0 (by (try rw [w113]);(try rw [w114]);(try rw [w116]);all_goals exact H)
end Go.Av

namespace Go.Av
open Go.Proofs
theorem Zeg:∀ (a b x:Nat),N.Zav (a+b) x=N.Zav a x++N.Zav b (x / 1000000000 ^ a)
 | 0,b,x=>by simp [N.Zav]
 | a+1,b,x=>by
  rw [show a+1+b=(a+b)+1 by omega,ZaC,ZaC,Zeg a b,List.cons_append,Nat.div_div_eq_div_mul,Nat.pow_succ,Nat.mul_comm (1000000000 ^ a)]
theorem limN_mod:∀ (a x:Nat),N.Zav a (x % 1000000000 ^ a)=N.Zav a x
 | 0,x=>rfl
 | a+1,x=>by
  rw [ZaC,ZaC]
  have e1:x % 1000000000 ^ (a+1) % 1000000000=x % 1000000000:=Nat.mod_mod_of_dvd _ ⟨1000000000 ^ a,by rw [Nat.pow_succ,Nat.mul_comm]⟩
  have e2:x % 1000000000 ^ (a+1) / 1000000000=x / 1000000000 % 1000000000 ^ a:=by rw [Nat.pow_succ,Nat.mul_comm,Nat.mod_mul_right_div_self]
  rw [e1,e2,limN_mod a]
theorem limN_low (a x y:Nat):N.Zav a (x % 1000000000 ^ a+1000000000 ^ a*y)=N.Zav a x:=by
 rw [<- limN_mod a (x % 1000000000 ^ a+1000000000 ^ a*y),Nat.add_mul_mod_self_left,Nat.mod_mod,limN_mod]
theorem limN_more' (n m v:Nat) (h:N.fits n v) (hm:n<=m):N.Zav m v=N.Zav n v++N.zs (m-n):=by
 obtain ⟨d,rfl⟩:=Nat.exists_eq_add_of_le hm
 rw [Ze6 n d v h,Nat.add_sub_cancel_left]
theorem rowZ_lim {L U lo len:Nat} {Z:Nat} (hl:lo+len<=L) (hU:N.fits (lo+len) U) (hZ:N.fits len Z):N.Zbg (N.Zav L U) lo len (Z:Int)=N.Zav L (U % 1000000000 ^ lo+1000000000 ^ lo*Z):=by
 have e:L=lo+(len+(L-lo-len)):=by omega
 unfold N.Zbg
 rw [Zf3,Ze7 _ _ _ hl,ZaH hU (Nat.le_refl _),ZgI]
 conv=>rhs;rw [e]
 rw [Zeg,limN_low]
 have e2:(U % 1000000000 ^ lo+1000000000 ^ lo*Z) / 1000000000 ^ lo=Z:=by
  rw [Nat.add_mul_div_left _ _ (Nat.pow_pos (by omega)),Nat.div_eq_of_lt (Nat.mod_lt _ (Nat.pow_pos (by omega))),Nat.zero_add]
 rw [e2,Ze6 len _ Z hZ]
 have e3:(N.Zav L U).take lo=N.Zav lo U:=by
  conv=>lhs;rw [e,Zeg]
  rw [List.take_append_of_le_length (by rw [Zan];omega),List.take_of_length_le (by rw [Zan];omega)]
 rw [e3,show L-(lo+len)=L-lo-len by omega];rfl
theorem win_lim {L U lo len:Nat} (hl:lo+len<=L) (hU:N.fits (lo+len) U):N.win (N.Zav L U) lo len=U / 1000000000 ^ lo:=by
 have hf:N.fits len (U / 1000000000 ^ lo):=by
  rw [Zdi,Nat.div_div_eq_div_mul,<- Nat.pow_add]
  exact ZaH hU (Nat.le_refl _)
 unfold N.win
 rw [Ze7 _ _ _ (by omega),limN_more' len (L-lo) _ hf (by omega),List.take_append_of_le_length (by rw [Zan];omega),List.take_of_length_le (by rw [Zan];omega),val_limN _ _ hf]
theorem limN_okL (n v:Nat):N.okL (N.Zav n v):=limN_ok n v
def AfterG (u b q:List Int) (fb:Bool) (v:Nat) (n s k g:Int) (dq:AV):Prop:=
 (-9223372036854775808<=k+n+1/\k+n+1<=9223372036854775807) /\
 (N.okL u/\N.okL b/\k.toNat+((k+n+1).toNat-k.toNat)<=u.length/\(k+n+1).toNat-k.toNat=b.length+1/\u.length<=1000000/\0<=g/\g<1000000000) /\
 (0<=k)/\(0<=k+n+1)/\(k.toNat<=(k+n+1).toNat)/\((k+n+1).toNat<=u.length) /\
 (((N.win u k.toNat ((k+n+1).toNat-k.toNat):Int)-g*(valL b:Nat)<0)->(0<=g-1/\g-1<=18446744073709551615) /\
  (N.okL (N.Zbg u k.toNat ((k+n+1).toNat-k.toNat) ((N.win u k.toNat ((k+n+1).toNat-k.toNat):Int)-g*(valL b:Nat)))/\N.okL b/\k.toNat+((k+n+1).toNat-k.toNat)<=(N.Zbg u k.toNat ((k+n+1).toNat-k.toNat) ((N.win u k.toNat ((k+n+1).toNat-k.toNat):Int)-g*(valL b:Nat))).length/\(k+n+1).toNat-k.toNat=b.length+1/\(N.Zbg u k.toNat ((k+n+1).toNat-k.toNat) ((N.win u k.toNat ((k+n+1).toNat-k.toNat):Int)-g*(valL b:Nat))).length<=1000000) /\
  ((k+n+1).toNat<=(N.Zbg u k.toNat ((k+n+1).toNat-k.toNat) ((N.win u k.toNat ((k+n+1).toNat-k.toNat):Int)-g*(valL b:Nat))).length) /\
  (k.toNat<q.length)/\(0<=g-1/\g-1<=4294967295)/\(-9223372036854775808<=k-1/\k-1<=9223372036854775807) /\
  ZaU (N.Zbg (N.Zbg u k.toNat ((k+n+1).toNat-k.toNat) ((N.win u k.toNat ((k+n+1).toNat-k.toNat):Int)-g*(valL b:Nat))) k.toNat ((k+n+1).toNat-k.toNat) ((N.win (N.Zbg u k.toNat ((k+n+1).toNat-k.toNat) ((N.win u k.toNat ((k+n+1).toNat-k.toNat):Int)-g*(valL b:Nat))) k.toNat ((k+n+1).toNat-k.toNat):Int)+(valL b:Nat))) b (q.set k.toNat (g-1)) fb v n s (k-1) (Zag dq)) /\
 (¬((N.win u k.toNat ((k+n+1).toNat-k.toNat):Int)-g*(valL b:Nat)<0)->(k.toNat<q.length)/\(0<=g/\g<=4294967295)/\(-9223372036854775808<=k-1/\k-1<=9223372036854775807) /\
  ZaU (N.Zbg u k.toNat ((k+n+1).toNat-k.toNat) ((N.win u k.toNat ((k+n+1).toNat-k.toNat):Int)-g*(valL b:Nat))) b (q.set k.toNat g) fb v n s (k-1) (Zag dq))
theorem afterG {q:List Int} {fb:Bool} {v n k L U V g:Nat} {s:Int} {dq:AV} (hL:L<=1000000) (hkn:k+n+1<=L) (hq:q.length<=1000000/\k<q.length) (hV0:0<V) (hV:N.fits n V) (hU:N.fits (k+(n+1)) U) (hg:g<1000000000) (h1:U / 1000000000 ^ k / V<=g) (h2:g<=U / 1000000000 ^ k / V+1)
  (cont:ZaU (N.Zav L (U % 1000000000 ^ k+1000000000 ^ k*(U / 1000000000 ^ k % V))) (N.Zav n V) (q.set k ((U / 1000000000 ^ k / V:Nat):Int)) fb v n s ((k:Int)-1) (Zag dq)) :
  AfterG (N.Zav L U) (N.Zav n V) q fb v n s k g dq:=by
 unfold AfterG
 have e1:((k:Int)+n+1).toNat-(k:Int).toNat=n+1:=by omega
 rw [e1,Int.toNat_natCast,win_lim (by omega) hU,val_limN n V hV]
 have hok:=limN_okL L U
 have hlen:=Zan L U
 have hdm:=Nat.div_add_mod (U / 1000000000 ^ k) V
 have hml:=Nat.mod_lt (U / 1000000000 ^ k) hV0
 have hfm:N.fits (n+1) (U / 1000000000 ^ k % V):=ZaT (ZcU hV (Nat.le_of_lt hml)) (by omega)
 have hrow:=rowZ_lim (L:=L) (U:=U) (lo:=k) (len:=n+1) (by omega) hU hfm
 have hgV:(g:Int)*(V:Int)=((g*V:Nat):Int):=(Int.natCast_mul _ _).symm
 rw [hgV]
 generalize hW:U / 1000000000 ^ k=W at hdm hml h1 h2 hrow cont
 have hq1:W / V*V+W % V=W:=by rw [Nat.mul_comm];exact hdm
 generalize W / V=q0 at hq1 h1 h2 cont
 generalize W % V=r0 at hq1 hml hrow cont
 refine ⟨by omega,⟨hok,limN_okL n V,by omega,by rw [Zan],by omega,by omega,by omega⟩,by omega,by omega,by omega,by omega,fun hneg => ?_,fun hneg => ?_⟩
 ·have hg1:g=q0+1:=by
   rcases Nat.lt_or_ge q0 g with k1 | k1
   ·omega
   ·have:g=q0:=by omega
    subst this
    omega
  have hgw:g*V=q0*V+V:=by rw [hg1,Nat.succ_mul]
  have ez:(W:Int)-((g*V:Nat):Int)+(V:Int)=(r0:Int):=by omega
  have eg:(g:Int)-1=(q0:Int):=by omega
  rw [rowZ_again (by omega) hok,ez,hrow,eg]
  refine ⟨by omega,⟨rowZ_ok hok,limN_okL n V,by rw [ZfT (by omega)];omega,by rw [Zan],by rw [ZfT (by omega)];omega⟩,by rw [ZfT (by omega)];omega,by omega,by omega,by omega,cont⟩
 ·have hg1:g=q0:=by
   rcases Nat.lt_or_ge q0 g with k1 | k1
   ·exfalso
    have:g=q0+1:=by omega
    have hgw:g*V=q0*V+V:=by rw [this,Nat.succ_mul]
    omega
   ·omega
  subst hg1
  have ez:(W:Int)-((g*V:Nat):Int)=(r0:Int):=by omega
  rw [ez,hrow]
  exact ⟨by omega,by omega,by omega,cont⟩
theorem loopG {q:List Int} {fb:Bool} {v n k L U V:Nat} {s:Int} {dq:AV} (hn:2<=n) (hL:L<=1000000) (hkn:k+n+1<=L) (hq:q.length<=1000000/\k<q.length) (hV:N.fits n V) (hU:N.fits (k+(n+1)) U) (hE:Est (1000000000 ^ (n-2)) (U / 1000000000 ^ k) V)
  (cont:ZaU (N.Zav L (U % 1000000000 ^ k+1000000000 ^ k*(U / 1000000000 ^ k % V))) (N.Zav n V) (q.set k ((U / 1000000000 ^ k / V:Nat):Int)) fb v n s ((k:Int)-1) (Zag dq)) :
  ∀ (g r:Nat),g*(V / 1000000000 ^ (n-2) / 1000000000)+r=U / 1000000000 ^ k / 1000000000 ^ (n-2) / 1000000000->U / 1000000000 ^ k / V<=g->r<1000000000->g<18446744073709551615->ZcQ (N.Zav L U) (N.Zav n V) q fb v n s k g r (Zag dq):=by
 have hV0:=hE.V0
 have more:=fun g r=>hE.more (g:=g) (r:=r)
 have less:=fun g r=>hE.less (g:=g) (r:=r)
 have small:=fun g r=>hE.small (g:=g) (r:=r)
 have b1:(N.Zav n V).getD (n-1) default=((V / 1000000000 ^ (n-2) / 1000000000:Nat):Int):=by
  rw [Zaw V (by omega),Za5,show n-2+1=n-1 by omega]
  have:=ZbM (n:=n-1) (v:=V) (by rw [show n-1+1=n by omega];exact hV)
  rw [Nat.mod_eq_of_lt this]
 have b2:(N.Zav n V).getD (n-2) default=((V / 1000000000 ^ (n-2) % 1000000000:Nat):Int):=Zaw V (by omega)
 have u2:(N.Zav L U).getD (k+n-2) default=((U / 1000000000 ^ k / 1000000000 ^ (n-2) % 1000000000:Nat):Int):=by
  rw [Zaw U (by omega),Nat.div_div_eq_div_mul,<- Nat.pow_add,show k+(n-2)=k+n-2 by omega]
 have hv1:V / 1000000000 ^ (n-2) / 1000000000<1000000000:=by
  rw [Za5,show n-2+1=n-1 by omega]
  exact ZbM (by rw [show n-1+1=n by omega];exact hV)
 have e1:((n:Int)-1).toNat=n-1:=by omega
 have e2:((n:Int)-2).toNat=n-2:=by omega
 have e3:((k:Int)+n-2).toNat=k+n-2:=by omega
 have after:∀ g:Nat,g<1000000000->U / 1000000000 ^ k / V<=g->g<=U / 1000000000 ^ k / V+1->AfterG (N.Zav L U) (N.Zav n V) q fb v n s k g dq:=fun g h0 h1 h2=>afterG hL hkn hq hV0 hV hU h0 h1 h2 cont
 clear cont hE hV0
 generalize V / 1000000000 ^ (n-2)=d at *
 generalize U / 1000000000 ^ k / 1000000000 ^ (n-2)=x at *
 generalize U / 1000000000 ^ k / V=q0 at *
 have htest:∀ g r:Nat,r<1000000000->(((((g:Nat):Int)>=1000000000)\/(IntKind.u64.wrap (((g:Nat):Int)*IntKind.u64.wrap ((N.Zav n V).getD ((n:Int)-2).toNat default))>IntKind.u64.wrap (IntKind.u64.wrap ((r:Int)*1000000000)+IntKind.u64.wrap ((N.Zav L U).getD ((k:Int)+n-2).toNat default)))) ↔
   (g>=1000000000\/g*(d % 1000000000)>r*1000000000+x % 1000000000)):=by
  intro g r hr
  rw [e2,e3,b2,u2]
  have hv2:d % 1000000000<1000000000:=Nat.mod_lt _ (by omega)
  have hu2:x % 1000000000<1000000000:=Nat.mod_lt _ (by omega)
  generalize d % 1000000000=v2 at hv2
  generalize x % 1000000000=x2 at hu2
  rw [wU64 (n:=(v2:Int)) (by omega),wU64 (n:=(x2:Int)) (by omega),wU64 (n:=(r:Int)*1000000000) (by omega),wU64 (n:=(r:Int)*1000000000+(x2:Int)) (by omega)]
  by_cases hbig:g>=1000000000
  ·exact ⟨fun _ => .inl hbig,fun _ => .inl (by omega)⟩
  ·have hm:((g:Nat):Int)*(v2:Int)=((g*v2:Nat):Int):=(Int.natCast_mul _ _).symm
   have hle:g*v2<=1000000000*1000000000:=Nat.mul_le_mul (by omega) (by omega)
   rw [hm,wU64 (by omega)]
   constructor
   ·rintro (h | h)
    ·exact absurd (by omega) hbig
    ·right;omega
   ·rintro (h | h)
    ·exact absurd h hbig
    ·right;omega
 intro g
 induction g with
 | zero =>
  intro r hgr hqg hr hgb
  have hno:¬(0>=1000000000\/0*(d % 1000000000)>r*1000000000+x % 1000000000):=fun h=>by have:=more 0 r hgr h;omega
  exact vDivideG _ _ _ _ _ _ _ _ _ _ _ ⟨by omega,by omega,by omega,fun _=>by omega,fun _=>by rw [Zan];omega,fun _=>by omega,fun _=>by rw [Zan];omega,fun h=>absurd ((htest 0 r hr).1 h) hno,fun _=>after 0 (by omega) hqg (less 0 r hgr (by omega))⟩
 | succ g ih =>
  intro r hgr hqg hr hgb
  refine vDivideG _ _ _ _ _ _ _ _ _ _ _ ⟨by omega,by omega,by omega,fun _=>by omega,fun _=>by rw [Zan];omega,fun _=>by omega,fun _=>by rw [Zan];omega,fun h => ?_,fun h => ?_⟩
  ·have ht:=(htest (g+1) r hr).1 h
   have hlt:=more (g+1) r hgr ht
   have hgr':g*(d / 1000000000)+(r+d / 1000000000)=x / 1000000000:=by rw [<- hgr,Nat.succ_mul];omega
   have eg:((g+1:Nat):Int)-1=(g:Int):=by omega
   rw [e1,b1,eg]
   have er:(r:Int)+((d / 1000000000:Nat):Int)=((r+d / 1000000000:Nat):Int):=by omega
   rw [er]
   refine ⟨by omega,by omega,by omega,by rw [Zan];omega,by omega,by omega,fun hbr => ?_,fun hbr => ?_⟩
   ·have hsm:=small g _ hgr' (by omega)
    refine after g hsm (by omega) (less g _ hgr' ?_)
    have:g*(d % 1000000000)<=1000000000*1000000000:=Nat.mul_le_mul (by omega) (by omega)
    omega
   ·exact ih _ hgr' (by omega) (by omega) (by omega)
  ·have ht:¬(g+1>=1000000000\/(g+1)*(d % 1000000000)>r*1000000000+x % 1000000000):=fun y=>h ((htest (g+1) r hr).2 y)
   exact after (g+1) (by omega) hqg (less (g+1) r hgr (by omega))
end Go.Av

namespace Go.Av
open Go.Proofs
theorem loopK {fb:Bool} {v n L V A kt s:Nat} {dq:AV} (hn:2<=n) (hL:L<=1000000) (hkt:kt+n=L) (hV:N.fits n V) (hV1:1000000000 ^ (n-1)<=V) (hs:0<s/\s<1000000000)
  (hq:AV.tup [usA false (N.Zav kt (A / V)),usA false (N.Zav (N.cnt (A % V)) (A % V / s))]=dq) :
  ∀ (K U Qh:Nat) (q:List Int),K+n<=L->A=Qh*V*1000000000 ^ K+U->U<V*1000000000 ^ K->q.length=kt->q.drop K=N.Zav (kt-K) Qh->K<=kt->ZaU (N.Zav L U) (N.Zav n V) q fb v n s ((K:Int)-1) (Zag dq)
 | 0,U,Qh,q,hK,hA,hU,hql,hqd,hKk=>by
  rw [Nat.pow_zero,Nat.mul_one] at hA hU
  have hd:A / V=Qh/\A % V=U:=by
   have hV0:0<V:=by omega
   rw [hA,Nat.mul_comm Qh V,Nat.mul_add_div hV0,Nat.mul_add_mod,Nat.div_eq_of_lt hU,Nat.mod_eq_of_lt hU]
   exact ⟨by omega,rfl⟩
  rw [hd.1,hd.2] at hq
  have hUf:N.fits n U:=ZcU hV (Nat.le_of_lt hU)
  have htk:List.take ((n:Int).toNat-0) (List.drop 0 (N.Zav L U))=N.Zav n U:=by
   rw [Int.toNat_natCast,Nat.sub_zero,List.drop_zero,<- hkt,Nat.add_comm,Zeg,List.take_append_of_le_length (by rw [Zan];omega),List.take_of_length_le (by rw [Zan];omega)]
  refine vDivideK _ _ _ _ _ _ _ _ _ ⟨fun h=>by omega,fun _ => ?_⟩
  rw [htk,Zan]
  have hc:=Zaz.1 hUf
  refine ⟨_,trimN false n U ⟨by unfold N.Zay;omega,hUf⟩,_,_,byWordN false (N.cnt U) U s ⟨by unfold N.Zay;omega,Zai _,hs.1,hs.2⟩,by omega,by omega,by omega,?_⟩
  have e:q=N.Zav kt Qh:=by simpa using hqd
  rw [e,<- hq];exact .refl _
 | K+1,U,Qh,q,hK,hA,hU,hql,hqd,hKk=>by
  have hPK:0<1000000000 ^ K:=Nat.pow_pos (by omega)
  have hV0:0<V:=Nat.lt_of_lt_of_le (Nat.pow_pos (by omega)) hV1
  have hW:U / 1000000000 ^ K<V*1000000000:=by
   apply Nat.div_lt_of_lt_mul
   rw [Nat.pow_succ] at hU
   have:1000000000 ^ K*(V*1000000000)=V*(1000000000 ^ K*1000000000):=by grind
   omega
  have hUf:N.fits (K+(n+1)) U:=by
   unfold N.fits at hV ⊢
   have h1:V*1000000000 ^ (K+1)<=1000000000 ^ n*1000000000 ^ (K+1):=Nat.mul_le_mul_right _ (Nat.le_of_lt hV)
   rw [<- Nat.pow_add] at h1
   rw [show K+(n+1)=n+(K+1) by omega]
   omega
  have hE:Est (1000000000 ^ (n-2)) (U / 1000000000 ^ K) V:=by
   refine ⟨Nat.pow_pos (by omega),?_,hW⟩
   rw [Nat.le_div_iff_mul_le (Nat.pow_pos (by omega)),Nat.mul_comm,<- Nat.pow_succ,show (n-2).succ=n-1 by omega]
   exact hV1
  have ek:(((K+1:Nat):Int)-1)=(K:Nat):=by omega
  rw [ek]
  have hdm:=Nat.div_add_mod (U / 1000000000 ^ K) V
  have hml:=Nat.mod_lt (U / 1000000000 ^ K) hV0
  have hdmU:=Nat.div_add_mod U (1000000000 ^ K)
  have hmlU:=Nat.mod_lt U hPK
  have hql0:=hE.q_lt
  have cont:ZaU (N.Zav L (U % 1000000000 ^ K+1000000000 ^ K*(U / 1000000000 ^ K % V))) (N.Zav n V) (q.set K ((U / 1000000000 ^ K / V:Nat):Int)) fb v n s ((K:Int)-1) (Zag dq):=by
   refine loopK hn hL hkt hV hV1 hs hq K _ (Qh*1000000000+U / 1000000000 ^ K / V) _ (by omega) ?_ ?_ (by simpa using hql) ?_ (by omega)
   ·rw [hA,Nat.pow_succ]
    generalize U / 1000000000 ^ K=W at hdm hdmU
    generalize W / V=q0 at hdm
    generalize W % V=r0 at hdm
    generalize U % 1000000000 ^ K=l0 at hdmU
    generalize 1000000000 ^ K=p at hdmU
    rw [<- hdmU,<- hdm];grind
   ·generalize U / 1000000000 ^ K % V=r0 at hml
    have h1:1000000000 ^ K*(r0+1)<=1000000000 ^ K*V:=Nat.mul_le_mul_left _ (by omega)
    rw [Nat.mul_succ] at h1
    rw [Nat.mul_comm V]
    omega
   ·rw [ZcE (by omega),hqd,show kt-K=(kt-(K+1))+1 by omega,ZaC]
    generalize U / 1000000000 ^ K / V=q0 at hql0
    have e2:(Qh*1000000000+q0) % 1000000000=q0:=by omega
    have e3:(Qh*1000000000+q0) / 1000000000=Qh:=by omega
    rw [e2,e3]
  have hG:=fun g r=>loopG (fb:=fb) (v:=v) (q:=q) (s:=(s:Int)) (dq:=dq) hn hL (show K+n+1<=L by omega) (show q.length<=1000000/\K<q.length by omega) hV hUf hE cont g r
  have hx:U / 1000000000 ^ (K+n-1)=U / 1000000000 ^ K / 1000000000 ^ (n-2) / 1000000000:=by
   rw [Nat.div_div_eq_div_mul,Nat.div_div_eq_div_mul,<- Nat.pow_succ,<- Nat.pow_add]
   congr 2;omega
  have u1:(N.Zav L U).getD (K+n) default=((U / 1000000000 ^ (K+n-1) / 1000000000:Nat):Int):=by
   rw [Zaw U (by omega),Za5,show K+n-1+1=K+n by omega]
   have:=ZbM (n:=K+n) (v:=U) (by rw [show K+n+1=K+(n+1) by omega];exact hUf)
   rw [Nat.mod_eq_of_lt this]
  have u2:(N.Zav L U).getD (K+n-1) default=((U / 1000000000 ^ (K+n-1) % 1000000000:Nat):Int):=Zaw U (by omega)
  have b1:(N.Zav n V).getD (n-1) default=((V / 1000000000 ^ (n-2) / 1000000000:Nat):Int):=by
   rw [Zaw V (by omega),Za5,show n-2+1=n-1 by omega]
   have:=ZbM (n:=n-1) (v:=V) (by rw [show n-1+1=n by omega];exact hV)
   rw [Nat.mod_eq_of_lt this]
  have hv1:V / 1000000000 ^ (n-2) / 1000000000<1000000000:=by
   rw [Za5,show n-2+1=n-1 by omega]
   exact ZbM (by rw [show n-1+1=n by omega];exact hV)
  have hv0:=hE.v1
  have hst:=hE.start
  have hx1:U / 1000000000 ^ (K+n-1) / 1000000000<1000000000:=by
   rw [Za5,show K+n-1+1=K+n by omega]
   exact ZbM (by rw [show K+n+1=K+(n+1) by omega];exact hUf)
  have e1:((K:Int)+n).toNat=K+n:=by omega
  have e2:((K:Int)+n-1).toNat=K+n-1:=by omega
  have e3:((n:Int)-1).toNat=n-1:=by omega
  refine vDivideK _ _ _ _ _ _ _ _ _ ⟨fun _ => ?_,fun h=>by omega⟩
  rw [e1,e2,e3,u1,u2,b1,Zan,Zan]
  rw [<- hx] at hG hst
  clear hqd cont hdm hdmU hmlU hml hE hUf hW hU hA
  generalize U / 1000000000 ^ (K+n-1)=X at hG hst hx1
  generalize V / 1000000000 ^ (n-2) / 1000000000=d at hG hst hv1 hv0
  have ex:((X / 1000000000:Nat):Int)*1000000000+((X % 1000000000:Nat):Int)=(X:Int):=by omega
  rw [ex]
  have c2:((X:Int)).tdiv (d:Int)=((X / d:Nat):Int):=(Int.ofNat_tdiv _ _).symm
  have c3:((X:Int)).tmod (d:Int)=((X % d:Nat):Int):=(Int.ofNat_tmod _ _).symm
  rw [c2,c3]
  have hXd:X / d<=X:=Nat.div_le_self _ _
  have hmd:=Nat.mod_lt X hv0
  have hdd:X / d*d+X % d=X:=by rw [Nat.mul_comm];exact Nat.div_add_mod X d
  have fin:=hG (X / d) (X % d) hdd hst (by omega) (by omega)
  generalize X / d=g at hXd fin
  generalize X % d=r at hmd fin
  exact ⟨by omega,by omega,by omega,by omega,by omega,by omega,by omega,by omega,by omega,by omega,by omega,by omega,by omega,by omega,by omega,by omega,fin⟩
namespace N
def dqn (A D:Nat):Nat:=if cnt D=1 then cnt A else if A<D then 0 else cnt A+2-cnt D
def scl (D:Nat):Nat:=1000000000 / (D / 1000000000 ^ (cnt D-1)+1)
def drn (A D:Nat):Nat:=if cnt D=1 then 1 else if A<D then cnt A else cnt (A*scl D % (D*scl D))
end N
theorem scl_facts {D:Nat} (h:2<=N.cnt D):0<N.scl D/\N.scl D<1000000000/\N.fits (N.cnt D) (D*N.scl D)/\1000000000 ^ (N.cnt D-1)<=D*N.scl D/\D / 1000000000 ^ (N.cnt D-1)<1000000000:=by
 have hf:=Zai D
 have ht:D / 1000000000 ^ (N.cnt D-1)<1000000000:=ZbM (by rw [show N.cnt D-1+1=N.cnt D by omega];exact hf)
 have hnf:¬N.fits (N.cnt D-1) D:=fun k=>by have:=Zaz.1 k;omega
 have hge:1000000000 ^ (N.cnt D-1)<=D:=by unfold N.fits at hnf;omega
 have ht1:0<D / 1000000000 ^ (N.cnt D-1):=Nat.div_pos hge (Nat.pow_pos (by omega))
 have hlt:D<1000000000 ^ (N.cnt D-1)*(D / 1000000000 ^ (N.cnt D-1)+1):=Nat.lt_mul_div_succ D (Nat.pow_pos (by omega))
 have hp:1000000000 ^ N.cnt D=1000000000 ^ (N.cnt D-1)*1000000000:=by rw [<- Nat.pow_succ];congr 1;omega
 have hs1:0<N.scl D:=Nat.div_pos (by omega) (by omega)
 have hs2:N.scl D*(D / 1000000000 ^ (N.cnt D-1)+1)<=1000000000:=Nat.div_mul_le_self _ _
 unfold N.fits
 rw [hp]
 generalize D / 1000000000 ^ (N.cnt D-1)=t at ht1 ht hlt hs2
 generalize 1000000000 ^ (N.cnt D-1)=P at hge hlt
 have hs3:N.scl D<1000000000:=by
  have:N.scl D*2<=N.scl D*(t+1):=Nat.mul_le_mul_left _ (by omega)
  omega
 generalize N.scl D=s at hs1 hs2 hs3
 refine ⟨hs1,hs3,?_,?_,ht⟩
 ·have h1:D*s<P*(t+1)*s:=Nat.mul_lt_mul_of_pos_right hlt hs1
  have h2:P*(t+1)*s=P*(s*(t+1)):=by grind
  have h3:P*(s*(t+1))<=P*1000000000:=Nat.mul_le_mul_left _ hs2
  omega
 ·have:D*1<=D*s:=Nat.mul_le_mul_left _ hs1
  omega
theorem ZgZ {A D s:Nat} (hs:0<s):A*s / (D*s)=A / D/\A*s % (D*s) / s=A % D:=by
 refine ⟨Nat.mul_div_mul_right _ _ hs,?_⟩
 rw [Nat.mul_mod_mul_right,Nat.mul_div_cancel _ hs]
end Go.Av

namespace Go.Av
open Go.Proofs
theorem weak_two {a a' b b':AV} (h:Weak a a') (k:Weak b b'):Weak (.tup [a,b]) (.tup [a',b']):=by
 refine .tup _ _ rfl fun i x y hx hy => ?_
 match i with
 | 0=>simp at hx hy;subst hx;subst hy;exact h
 | 1=>simp at hx hy;subst hx;subst hy;exact k
 | i+2=>simp at hx
theorem Zeh {x:Nat} (h:x<1000000000):N.Zav 1 x=[(x:Int)]:=by
 simp only [N.Zav]
 rw [Nat.mod_eq_of_lt h]
theorem divideN (fa fb:Bool) (n A m D:Nat) (hn:N.Zay n/\N.Zay m) (hA:N.fits n A) (hD:N.fits m D) (hc:N.cnt A<=400000/\N.cnt D<=400000) (h0:D ≠ 0) :
  Ev M1 (.pure 115 [usA fa (N.Zav n A),usA fb (N.Zav m D)]) (.tup [usA false (N.Zav (N.dqn A D) (A / D)),usA false (N.Zav (N.drn A D) (A % D))]) []:=by
 have tA:=trimN fa n A ⟨hn.1,hA⟩
 have tD:=trimN fb m D ⟨hn.2,hD⟩
 have hD1:1<=N.cnt D:=by have:=ZaE (v:=D);omega
 have hlD:=ZaL D
 have hlA:=ZaL A
 have one:N.cnt D=1->D<1000000000/\(N.lim D).getD 0 default=(D:Int):=by
  intro h
  have hf:=Zai D
  rw [h] at hf
  have hlt:D<1000000000:=by unfold N.fits at hf;simpa using hf
  refine ⟨hlt,?_⟩
  unfold N.lim
  rw [h,Zeh hlt];rfl
 have res1:N.cnt D=1->AV.tup [usA false (N.Zav (N.dqn A D) (A / D)),usA false (N.Zav (N.drn A D) (A % D))] = .tup [usA false (N.Zav (N.cnt A) (A / D)),usA false [((A % D:Nat):Int)]]:=by
  intro h
  have:=Nat.mod_lt A (Nat.pos_of_ne_zero h0)
  rw [N.dqn,N.drn,if_pos h,if_pos h,Zeh (by have:=(one h).1;omega)]
 by_cases hA0:A=0
 ·subst hA0
  rw [ZcD] at tA
  refine call115 (vDivide0 _ _ _ _ _ ⟨tA,_,tD,fun h => ?_,fun h => ?_⟩)
  ·rw [hlD] at h
   obtain ⟨o1,o2⟩:=one (by omega)
   have hb:=byWordN false 0 0 D ⟨by unfold N.Zay;omega,Zbi.2 rfl,by omega,o1⟩
   rw [res1 (by omega),ZbF,o2,hlD]
   exact ⟨_,_,hb,by omega,.refl _⟩
  ·rw [hlD] at h
   have hcmp:=compareN false false 0 0 (N.cnt D) D ⟨by unfold N.Zay;omega,by unfold N.Zay;omega,Zbi.2 rfl,Zai _⟩
   have e:N.sgnI (((0:Nat):Int)-(D:Int)) = -1:=by unfold N.sgnI;rw [if_pos (by omega)]
   rw [e] at hcmp
   refine ⟨hcmp,?_⟩
   have e1:N.dqn 0 D=0:=by unfold N.dqn;rw [if_neg (by omega),if_pos (by omega)]
   have e2:N.drn 0 D=0:=by unfold N.drn;rw [if_neg (by omega),if_pos (by omega),ZbF]
   rw [e1,e2]
   exact weak_two (.vnil 1) (.vnil 1)
 ·have hne:N.lim A ≠ []:=by
   intro e
   rw [e] at hlA
   exact hA0 (ZaE.1 hlA.symm)
  obtain ⟨x,l,hxl⟩:=List.exists_cons_of_ne_nil hne
  rw [hxl] at tA hlA
  simp only [List.length_cons] at hlA
  by_cases h1:N.cnt D=1
  ·obtain ⟨o1,o2⟩:=one h1
   have hb:=byWordN false (N.cnt A) A D ⟨by unfold N.Zay;omega,Zai _,by omega,o1⟩
   refine call115 (vDivideC _ _ _ _ x l [] _ ⟨tA,_,tD,fun h => ?_,fun h=>by rw [hlD] at h;omega⟩)
   rw [res1 h1,o2,hlD]
   have e:(AV.int .u32 x::l.map (.int .u32))=(N.Zav (N.cnt A) A).map (.int .u32):=by
    have:N.Zav (N.cnt A) A=x::l:=hxl
    rw [this];rfl
   rw [e]
   exact ⟨_,_,hb,by omega,.refl _⟩
  ·have hn2:2<=N.cnt D:=by omega
   obtain ⟨s1,s2,s3,s4,s5⟩:=scl_facts hn2
   have hcmp:=compareN false false (N.cnt A) A (N.cnt D) D ⟨by unfold N.Zay;omega,by unfold N.Zay;omega,Zai _,Zai _⟩
   have eA:N.Zav (N.cnt A) A=x::l:=hxl
   rw [eA] at hcmp
   by_cases hlt:A<D
   ·refine call115 (vDivideC _ _ _ _ x l [] _ ⟨tA,_,tD,fun h=>by rw [hlD] at h;omega,fun _=>⟨_,hcmp,fun _=>⟨by omega,?_⟩,fun h => ?_⟩⟩)
    ·have e1:N.dqn A D=0:=by unfold N.dqn;rw [if_neg h1,if_pos hlt]
     have e2:N.drn A D=N.cnt A:=by unfold N.drn;rw [if_neg h1,if_pos hlt]
     rw [e1,e2,Nat.mod_eq_of_lt hlt,eA]
     exact weak_two (.vnil 1) (.refl _)
    ·rw [ZbV] at h;omega
   ·have fits1:N.fits 1 (N.scl D):=by unfold N.fits;simpa using s2
    have hfAs:N.fits (N.cnt A+1) (A*N.scl D):=ZcT (Zai A) fits1
    have hcA:N.cnt D<=N.cnt A:=ZaP (by omega)
    have hs:Int.tdiv 1000000000 ((N.lim D).getD (((N.lim D).length:Int)-1).toNat default+1)=(N.scl D:Int):=by
     have e1:(((N.lim D).length:Int)-1).toNat=N.cnt D-1:=by rw [hlD];omega
     have e2:(N.lim D).getD (N.cnt D-1) default=((D / 1000000000 ^ (N.cnt D-1):Nat):Int):=by
      have:=Zaw (n:=N.cnt D) D (show N.cnt D-1<N.cnt D by omega)
      rw [Nat.mod_eq_of_lt s5] at this
      exact this
     rw [e1,e2]
     unfold N.scl
     generalize D / 1000000000 ^ (N.cnt D-1)=t
     have:((t:Int)+1)=((t+1:Nat):Int):=by omega
     rw [this]
     exact (Int.ofNat_tdiv 1000000000 (t+1)).symm
    have htop:0<=(N.lim D).getD (((N.lim D).length:Int)-1).toNat default/\(N.lim D).getD (((N.lim D).length:Int)-1).toNat default<1000000000:=by
     refine lim_ok D _ (Zfa ?_)
     rw [hlD];omega
    have hu:N.Zav (N.cnt A+1) (A*N.scl D)++[0]=N.Zav (N.cnt A+2) (A*N.scl D):=by
     rw [Ze6 (N.cnt A+1) 1 _ hfAs];rfl
    have hul:=Zan (N.cnt A+2) (A*N.scl D)
    have hvV:N.lim (D*N.scl D)=N.Zav (N.cnt D) (D*N.scl D):=by
     refine (lim_of s3 (.inr ?_)).symm
     unfold N.fits;omega
    have t1:=evf95 false true A (N.scl D:Int) ⟨by unfold N.Zay;omega,by omega,by omega⟩
    have eone:[AV.int .u32 (N.scl D:Int)]=(N.Zav 1 (N.scl D)).map (.int .u32):=by rw [Zeh s2];rfl
    have t2:=timesN false true (N.cnt D) D 1 (N.scl D) ⟨by unfold N.Zay;omega,by unfold N.Zay;omega,Zai _,fits1⟩
    rw [Zeh s2] at t2
    have t3:=trimN false (N.cnt D+1) (D*N.scl D) ⟨by unfold N.Zay;omega,ZaT s3 (by omega)⟩
    rw [Int.toNat_natCast,hxl] at t1
    refine call115 (vDivideC _ _ _ _ x l (N.Zav (N.cnt A+1) (A*N.scl D)) _ ⟨tA,_,tD,fun h=>by rw [hlD] at h;omega,fun _=>⟨_,hcmp,fun h=>by rw [ZbV] at h;omega,fun _ => ?_⟩⟩)
    rw [hs,hu,hul]
    refine ⟨by omega,by omega,by omega,by omega,by omega,by omega,by omega,by omega,t1,by rw [Zan];omega,_,t2,_,t3,by omega,by omega,by omega,by omega,by omega,?_⟩
    rw [hvV,hlD]
    have ekt:((N.cnt A+2:Nat):Int)-(N.cnt D:Int)=((N.cnt A+2-N.cnt D:Nat):Int):=by omega
    rw [ekt,Int.toNat_natCast]
    obtain ⟨d1,d2⟩:=ZgZ (A:=A) (D:=D) s1
    refine loopK (A:=A*N.scl D) (kt:=N.cnt A+2-N.cnt D) hn2 (by omega) (by omega) s3 s4 ⟨s1,s2⟩ ?_ (N.cnt A+2-N.cnt D) (A*N.scl D) 0 _ (by omega) (by rw [Nat.zero_mul,Nat.zero_mul,Nat.zero_add]) ?_ (by simp) (by simp [N.Zav]) (Nat.le_refl _)
    ·have e1:N.dqn A D=N.cnt A+2-N.cnt D:=by unfold N.dqn;rw [if_neg h1,if_neg hlt]
     have e2:N.drn A D=N.cnt (A*N.scl D % (D*N.scl D)):=by unfold N.drn;rw [if_neg h1,if_neg hlt]
     rw [d1,d2,e1,e2]
    ·unfold N.fits at hfAs
     have hp:1000000000 ^ (N.cnt D-1)*1000000000 ^ (N.cnt A+2-N.cnt D)=1000000000 ^ (N.cnt A+1):=by rw [<- Nat.pow_add];congr 1;omega
     have:=Nat.mul_le_mul_right (1000000000 ^ (N.cnt A+2-N.cnt D)) s4
     omega
theorem dqn_fits {A D:Nat} (h0:D ≠ 0) (hc:N.cnt A<=400000/\N.cnt D<=400000):N.fits (N.dqn A D) (A / D)/\N.Zay (N.dqn A D)/\N.fits (N.drn A D) (A % D)/\N.Zay (N.drn A D):=by
 have hD1:1<=N.cnt D:=by have:=ZaE (v:=D);omega
 have hm:=Nat.mod_lt A (Nat.pos_of_ne_zero h0)
 unfold N.dqn N.drn N.Zay
 by_cases h1:N.cnt D=1
 ·rw [if_pos h1,if_pos h1]
  have hf:=Zai D
  rw [h1] at hf
  exact ⟨ZcU (Zai A) (Nat.div_le_self _ _),by omega,ZcU hf (by omega),by omega⟩
 ·rw [if_neg h1,if_neg h1]
  by_cases hlt:A<D
  ·rw [if_pos hlt,if_pos hlt,Nat.div_eq_of_lt hlt,Nat.mod_eq_of_lt hlt]
   exact ⟨Zbi.2 rfl,by omega,Zai A,by omega⟩
  ·rw [if_neg hlt,if_neg hlt]
   obtain ⟨s1,s2,s3,s4,s5⟩:=scl_facts (D:=D) (by omega)
   obtain ⟨d1,d2⟩:=ZgZ (A:=A) (D:=D) s1
   have hcA:N.cnt D<=N.cnt A:=ZaP (by omega)
   refine ⟨?_,by omega,?_,?_⟩
   ·have hnf:¬N.fits (N.cnt D-1) D:=fun k=>by have:=Zaz.1 k;omega
    have hA:=Zai A
    unfold N.fits at hnf hA ⊢
    have hp:1000000000 ^ (N.cnt D-1)*1000000000 ^ (N.cnt A+2-N.cnt D)=1000000000 ^ N.cnt A*1000000000:=by rw [<- Nat.pow_add,<- Nat.pow_succ];congr 1;omega
    have h2:=Nat.mul_le_mul_right (1000000000 ^ (N.cnt A+2-N.cnt D)) (Nat.le_of_not_lt hnf)
    apply Nat.div_lt_of_lt_mul
    omega
   ·rw [<- d2]
    exact ZcU (Zai _) (Nat.div_le_self _ _)
   ·have:N.cnt (A*N.scl D % (D*N.scl D))<=N.cnt (D*N.scl D):=ZaP (Nat.le_of_lt (Nat.mod_lt _ (Nat.mul_pos (by omega) s1)))
    have:=Zaz.1 s3
    omega
theorem ev115 (fa fb:Bool) (v w:Int) (h:N.okB v/\N.okB w/\w ≠ 0):Ev M1 (.pure 115 [usA fa (N.Zad v),usA fb (N.Zad w)]) (.tup [usA false (N.Zav (N.dqn v.natAbs w.natAbs) (v.natAbs / w.natAbs)),usA false (N.Zav (N.drn v.natAbs w.natAbs) (v.natAbs % w.natAbs))]) []:=
 divideN fa fb _ _ _ _ ⟨Zcw h.1,Zcw h.2.1⟩ (Zai _) (Zai _) ⟨h.1,h.2.1⟩ (by have:=h.2.2;omega)
end Go.Av

namespace Go.Av
open Go.Proofs
theorem cnt_small {n:Nat} (h:n<1000000000):N.cnt n<=1:=Zaz.1 (by unfold N.fits;simpa using h)
theorem ZgA {v:Int} (h:v.natAbs<1000000000):N.okB v:=by
 have:=cnt_small h
 unfold N.okB;omega
theorem ev131_a (fa:Bool) (a:Int) (h:N.okB a):Ev M1 (.pure 131 [bigA fa a,.agg [.bool false,.vec false 1 ((N.Zad 1).map (.int .u32))]]) (bigA false (a-1)) []:=
 ev131 fa false a 1 ⟨h,ZgA (by decide)⟩
namespace N
def wrd (v:Int):Int:=if cnt v.natAbs<=2 then (v.natAbs:Int) else 0
def isW (v:Int):Bool:=decide (cnt v.natAbs<=2)
end N
theorem ev114 (fa:Bool) (v:Int):Ev M1 (.pure 114 [bigA fa v]) (.tup [.int .u64 (N.wrd v),.bool (N.isW v)]) []:=by
 have hl:=Zbz v
 have hf:=Zai v.natAbs
 unfold N.wrd N.isW
 generalize hn:v.natAbs=n at *
 have e:N.Zad v=N.Zav (N.cnt n) n:=by unfold N.Zad N.lim;rw [hn]
 refine call114 (vWord fa _ _ _ ⟨fun h => ?_,fun h0=>⟨fun h => ?_,fun h1=>⟨fun h => ?_,fun h2 => ?_⟩⟩⟩)
 ·have h:N.cnt n=0:=by omega
  rw [h,if_pos (by omega),ZaE.1 h];rfl
 ·have h:N.cnt n=1:=by omega
  rw [h] at hf e
  have hlt:n<1000000000:=by unfold N.fits at hf;simpa using hf
  rw [e,Zeh hlt,h,if_pos (by omega)]
  simp only [List.getD_cons_zero]
  exact ⟨by simp,by omega,rfl⟩
 ·have h:N.cnt n=2:=by omega
  rw [h] at hf e
  have hlt:n<1000000000000000000:=by unfold N.fits at hf;simpa using hf
  have e2:N.Zav 2 n=[((n % 1000000000:Nat):Int),((n / 1000000000 % 1000000000:Nat):Int)]:=rfl
  rw [e,e2,h,if_pos (by omega)]
  simp only [List.getD_cons_zero,List.getD_cons_succ]
  refine ⟨by simp,by simp,by omega,by omega,by omega,by omega,?_⟩
  have e3:((n / 1000000000 % 1000000000:Nat):Int)*1000000000+((n % 1000000000:Nat):Int)=(n:Int):=by omega
  rw [e3];rfl
 ·rw [if_neg (by omega),show decide (N.cnt n<=2)=false by simp;omega]
end Go.Av

namespace Go.Av
open Go.Proofs
set_option maxRecDepth 100000
def fi93:Fi:=⟨61,[.cell 4 85]⟩
def kp93:List (Nat × List Nat):=[(0,[2,3,4]),(1,[4,5,6]),(2,[4,5,6,22]),(3,[4,5,6,7,8]),(4,[4,5,6,7,8,9,10]),(5,[4,5,6,7,9,36]),(6,[4,7,9,38]),(7,[4,7,9]),(8,[4]),(9,[4,5,6,12]),(10,[4,5,6]),(11,[4])]
def fi116:Fi:=⟨55,[.cell 4 85,.cell 5 85,.tmp 6]⟩
def kp116:List (Nat × List Nat):=[(0,[2,3,4,5]),(1,[2,3,4,5,14]),(2,[4,5,6]),(3,[2,3,4,5,7,8]),(4,[3,4,5,9,10]),(5,[3,4,5,9,10,46]),(6,[4,5,9,10]),(7,[4,5,6])]
def Zhy (fa fb:Bool) (a b:Int) (Q:AV->Heap->Prop):Prop:=Wp M1 (.run fi116 (atC (cd Tryz.f116) []) [(0,bigA fa a),(1,bigA fb b)] []) Q
def vGCD_at (fa fb:Bool) (a b:Int) (Q:AV->Heap->Prop):Prop:=Wp M1 (.run fi93 (atC (cd Tryz.f93) []) [(0,bigA fa a),(1,bigA fb b)] []) Q
def Zdl (x y:Int) (Q:AV->Heap->Prop):Prop:=Wp M1 (.run fi93 (atC (cd Tryz.f93) [1,1,0,0,0]) [(4,.ptr 0 0 0 0),(5,.ptr 1 0 0 0),(6,.ptr 2 0 0 0)] [⟨[.agg [.bool false,.vnil]],2,0,false,false⟩,⟨[.agg [.bool (N.Zab x),.vec false 1 ((N.Zad x).map (.int .u32))]],2,0,false,false⟩,⟨[.agg [.bool (N.Zab y),.vec false 1 ((N.Zad y).map (.int .u32))]],2,0,false,false⟩]) Q
def ZfQ (s:Bool) (c:Int) (l:List Int) (Q:AV->Heap->Prop):Prop:=Wp M1 (.run fi93 (atC (cd Tryz.f93) [1,1,0,0,0]) [(4,.ptr 0 0 0 0),(5,.ptr 1 0 0 0),(6,.ptr 2 0 0 0)] [⟨[.agg [.bool false,.vnil]],2,0,false,false⟩,⟨[.agg [.bool s,.vec false 1 ((c::l).map (.int .u32))]],2,0,false,false⟩,⟨[.agg [.bool false,.vec false 1 []]],2,0,false,false⟩]) Q
def vGCDZ_at (s:Bool) (Q:AV->Heap->Prop):Prop:=Wp M1 (.run fi93 (atC (cd Tryz.f93) [1,1,0,0,0]) [(4,.ptr 0 0 0 0),(5,.ptr 1 0 0 0),(6,.ptr 2 0 0 0)] [⟨[.agg [.bool false,.vnil]],2,0,false,false⟩,⟨[.agg [.bool s,.vec false 1 []]],2,0,false,false⟩,⟨[.agg [.bool false,.vec false 1 []]],2,0,false,false⟩]) Q
def ZeK (u v:Int) (Q:AV->Heap->Prop):Prop:=Wp M1 (.run fi93 (atC (cd Tryz.f93) [1,1,0,0,0,1,0,1,1,0,1,0,0,0,0]) [(4,.ptr 0 0 0 0),(7,.int .u64 u),(9,.int .u64 v)] [⟨[.agg [.bool false,.vnil]],2,0,false,false⟩]) Q
theorem call93 {args:List AV} {d:AV} (h:wc M1 fi93 Tryz.f93 args d):Ev M1 (.pure 93 args) d []:=pcl _ _ (by kernel_rfl) h
theorem call116 {args:List AV} {d:AV} (h:wc M1 fi116 Tryz.f116 args d):Ev M1 (.pure 116 args) d []:=pcl _ _ (by kernel_rfl) h
noncomputable abbrev zNvG1 (a:Int) (b:Int):=us (N.Zav (N.dqn a.natAbs b.natAbs) (a.natAbs / b.natAbs))
noncomputable abbrev zNvG2 (a:Int) (b:Int):=us (N.Zav (N.drn a.natAbs b.natAbs) (a.natAbs % b.natAbs))
noncomputable abbrev zNvG3 (a:Int) (b:Int):=N.sg (!N.Zab a==N.Zab b) (a.natAbs / b.natAbs)
theorem vDivMod (fa fb:Bool) (a b:Int)  (dq:AV) (H :
  (((↑(N.Zad b).length:Int)=0)->Weak (tu [ag [vb false,AV.vnil],ag [vb false,AV.vnil],vi 6]) dq) /\
  (¬((↑(N.Zad b).length:Int)=0)->(N.okB a/\N.okB b/\b ≠ 0) /\
   (N.Zay (N.dqn a.natAbs b.natAbs)/\N.fits (N.dqn a.natAbs b.natAbs) (a.natAbs / b.natAbs)) /\
   (N.Zay (N.drn a.natAbs b.natAbs)/\N.fits (N.drn a.natAbs b.natAbs) (a.natAbs % b.natAbs)) /\
   ((((↑(N.Zad (N.sg (N.Zab a) (a.natAbs % b.natAbs))).length:Int)>0)/\(¬(N.Zab (N.sg (N.Zab a) (a.natAbs % b.natAbs))=N.Zab b)))->(N.inI 1) /\
    (N.okB (N.sg (!N.Zab a==N.Zab b) (a.natAbs / b.natAbs))) /\
    (N.okB (N.sg (N.Zab a) (a.natAbs % b.natAbs))/\N.okB b) /\
    Weak (tu [bigA false (N.sg (!N.Zab a==N.Zab b) (a.natAbs / b.natAbs)-1),bigA false (N.sg (N.Zab a) (a.natAbs % b.natAbs)+b),vi 0]) dq) /\
   (¬(((↑(N.Zad (N.sg (N.Zab a) (a.natAbs % b.natAbs))).length:Int)>0)/\(¬(N.Zab (N.sg (N.Zab a) (a.natAbs % b.natAbs))=N.Zab b)))->Weak (tu [bigA false (N.sg (!N.Zab a==N.Zab b) (a.natAbs / b.natAbs)),bigA false (N.sg (N.Zab a) (a.natAbs % b.natAbs)),vi 0]) dq))) :
 Zhy fa fb a b (Zag dq):=by
 unfold Zhy
 have w1:(us (N.Zad b)).length=(N.Zad b).length:=List.length_map ..
 have i2:((↑(us (N.Zad b)).length:Int)==0)=true ↔ ((↑(N.Zad b).length:Int)=0):=(by (try rw [w1]);all_goals exact i_eq)
 rcases xq H with ⟨d3,H⟩|⟨d3,H⟩
 ·exact Zaj (G:=Zae kp116 [] []) 1000 [true] (tu [ag [vb false,AV.vnil],ag [vb false,AV.vnil],vi 6]) (by kernel_rfl) (bc rfl (bc (Zam (i2.2 d3)) (bc rfl (bc rfl b0)))) q0 c0 H
 ·obtain ⟨k4,k5,k6,H⟩:=H
  refine Zaf (G:=Zae kp116 [(3,4,.call (tu [vf (zNvG1 a b),vf (zNvG2 a b)]) none),(4,6,.call (bigA false (zNvG3 a b)) none),(4,10,.call (bigA false (N.sg (N.Zab a) (a.natAbs % b.natAbs))) none)] []) 10 [false] ⟨(atC (cd Tryz.f116) [1,1,1,0]),[(2,AV.ptr 0 0 0 0),(3,AV.ptr 1 0 0 0),(4,AV.ptr 2 0 0 0),(5,AV.ptr 3 0 0 0),(7,vf (zNvG1 a b)),(8,vf (zNvG2 a b))],[⟨[bigA fa a],2,0,false,false⟩,⟨[bigA fb b],2,0,false,false⟩,⟨[ag [vb false,AV.vnil]],2,0,false,false⟩,⟨[ag [vb false,AV.vnil]],2,0,false,false⟩],_,[],_⟩ (by kernel_rfl) (bc rfl (bc (Zak (fun h=>d3 (i2.1 h))) (bc rfl (bc rfl b0)))) q0 (ce (@ev115 fa fb a b k4) c0) (Zdk (G:=Zae kp116 [(3,4,.call (tu [vf (zNvG1 a b),vf (zNvG2 a b)]) none),(4,6,.call (bigA false (zNvG3 a b)) none),(4,10,.call (bigA false (N.sg (N.Zab a) (a.natAbs % b.natAbs))) none)] []) [0,1,2,3,5,4] 11 (e1:=[(3,AV.ptr 1 0 0 0),(4,AV.ptr 2 0 0 0),(5,AV.ptr 3 0 0 0),(9,AV.ptr 4 0 0 0),(10,AV.ptr 5 0 0 0)]) (L1:=[⟨[bigA fa a],2,0,false,false⟩,⟨[bigA fb b],2,0,false,false⟩,⟨[ag [vb false,AV.vnil]],2,0,false,false⟩,⟨[ag [vb false,AV.vnil]],2,0,false,false⟩,⟨[bigA false (zNvG3 a b)],2,0,false,false⟩,⟨[bigA false (N.sg (N.Zab a) (a.natAbs % b.natAbs))],2,0,false,false⟩]) (a:=[true,true,true,true,true]) (q:=[]) (cs:=[⟨true,false,89,[vb !N.Zab a==N.Zab b,vf (zNvG1 a b)],[],bigA false (zNvG3 a b),[]⟩,⟨true,false,89,[vb (N.Zab a),vf (zNvG2 a b)],[],bigA false (N.sg (N.Zab a) (a.natAbs % b.natAbs)),[]⟩]) (by kernel_rfl) (by kernel_rfl) (Zaa rfl (Zaa rfl (Zaa rfl (Zaa rfl (Zaa rfl Zal))))) Zao (Zah (fun _=>(@ev89 (!N.Zab a==N.Zab b) false (N.dqn a.natAbs b.natAbs) (a.natAbs / b.natAbs) k5)) (Zah (fun _=>(@ev89 (N.Zab a) false (N.drn a.natAbs b.natAbs) (a.natAbs % b.natAbs) k6)) Zap)) ?_)
  have w7:(us (N.Zad (N.sg (N.Zab a) (a.natAbs % b.natAbs)))).length=(N.Zad (N.sg (N.Zab a) (a.natAbs % b.natAbs))).length:=List.length_map ..
  have i8:(bif decide ((↑(us (N.Zad (N.sg (N.Zab a) (a.natAbs % b.natAbs)))).length:Int)>0) then !N.Zab (N.sg (N.Zab a) (a.natAbs % b.natAbs))==N.Zab b else false)=true ↔ (((↑(N.Zad (N.sg (N.Zab a) (a.natAbs % b.natAbs))).length:Int)>0)/\(¬(N.Zab (N.sg (N.Zab a) (a.natAbs % b.natAbs))=N.Zab b))):=(by (try rw [w7]);all_goals exact (Za1 Zac (Zbq i_eq)))
  rcases xq H with ⟨d9,H⟩|⟨d9,H⟩
  ·obtain ⟨k10,k11,k12,H⟩:=H
   exact Zaj (G:=Zae kp116 [(6,1,.call (ag [vb false,vf (us (N.Zad 1))]) none),(6,2,.call (bigA false (N.sg (!N.Zab a==N.Zab b) (a.natAbs / b.natAbs)-1)) none),(6,5,.call (bigA false (N.sg (N.Zab a) (a.natAbs % b.natAbs)+b)) none)] [(7,[5003,4002,7001,6000])]) 1000 [true] (asm:=[true,!(decide ((↑(us (N.Zad (N.sg (N.Zab a) (a.natAbs % b.natAbs)))).length:Int)>0)==true&&true)||true,!(decide ((↑(us (N.Zad (N.sg (N.Zab a) (a.natAbs % b.natAbs)))).length:Int)>0)==true&&true)||true,(bif decide ((↑(us (N.Zad (N.sg (N.Zab a) (a.natAbs % b.natAbs)))).length:Int)>0) then !N.Zab (N.sg (N.Zab a) (a.natAbs % b.natAbs))==N.Zab b else false)==true,true,true,true,true,true,true,true,true,true]) (tu [bigA false (N.sg (!N.Zab a==N.Zab b) (a.natAbs / b.natAbs)-1),bigA false (N.sg (N.Zab a) (a.natAbs % b.natAbs)+b),vi 0]) (by kernel_rfl) (bc rfl (bc (Bool.or_true _) (bc (Bool.or_true _) (bc (Zam (i8.2 d9)) (bc rfl (bc rfl (bc rfl (bc rfl (bc rfl (bc rfl (bc rfl (bc rfl (bc rfl b0))))))))))))) q0 (ce (@ev73 1 k10) (ce (@ev131_a false (zNvG3 a b) k11) (ce (@ev132 false fb (N.sg (N.Zab a) (a.natAbs % b.natAbs)) b k12) c0))) H
  ·exact Zaj (G:=Zae kp116 [] [(7,[5003,4002,7001,6000])]) 1000 [false] (asm:=[true,!(decide ((↑(us (N.Zad (N.sg (N.Zab a) (a.natAbs % b.natAbs)))).length:Int)>0)==true&&true)||true,!(decide ((↑(us (N.Zad (N.sg (N.Zab a) (a.natAbs % b.natAbs)))).length:Int)>0)==true&&true)||true,(bif decide ((↑(us (N.Zad (N.sg (N.Zab a) (a.natAbs % b.natAbs)))).length:Int)>0) then !N.Zab (N.sg (N.Zab a) (a.natAbs % b.natAbs))==N.Zab b else false)==false,true,true,true,true]) (tu [bigA false (zNvG3 a b),bigA false (N.sg (N.Zab a) (a.natAbs % b.natAbs)),vi 0]) (by kernel_rfl) (bc rfl (bc (Bool.or_true _) (bc (Bool.or_true _) (bc (Zak (fun h=>d9 (i8.1 h))) (bc rfl (bc rfl (bc rfl (bc rfl b0)))))))) q0 c0 H
theorem vGCD (fa fb:Bool) (a b:Int)  (dq:AV) (H :
  (N.ok a) /\
  (N.ok b) /\
  Zdl (N.sg false a.natAbs) (N.sg false b.natAbs) (Zag dq)) :
 vGCD_at fa fb a b (Zag dq):=by
 unfold vGCD_at
 obtain ⟨k1,k2,H⟩:=H
 refine Zaf (G:=Zae kp93 [(1,2,.call (bigA false (N.sg false a.natAbs)) none),(1,5,.call (bigA false (N.sg false b.natAbs)) none)] []) 3 [] ⟨(atC (cd Tryz.f93) [1,0]),[(2,AV.ptr 0 0 0 0),(3,AV.ptr 1 0 0 0),(4,AV.ptr 2 0 0 0)],[⟨[bigA fa a],2,0,false,false⟩,⟨[bigA fb b],2,0,false,false⟩,⟨[ag [vb false,AV.vnil]],2,0,false,false⟩],_,[],_⟩ (by kernel_rfl) b0 q0 c0 (Zdk (G:=Zae kp93 [(1,2,.call (bigA false (N.sg false a.natAbs)) none),(1,5,.call (bigA false (N.sg false b.natAbs)) none)] []) [0,1,2,4,3] 6 (e1:=[(4,AV.ptr 2 0 0 0),(5,AV.ptr 3 0 0 0),(6,AV.ptr 4 0 0 0)]) (L1:=[⟨[bigA fa a],2,0,false,false⟩,⟨[bigA fb b],2,0,false,false⟩,⟨[ag [vb false,AV.vnil]],2,0,false,false⟩,⟨[bigA false (N.sg false a.natAbs)],2,0,false,false⟩,⟨[bigA false (N.sg false b.natAbs)],2,0,false,false⟩]) (a:=[true,true,true,true]) (q:=[]) (cs:=[⟨true,false,89,[vb false,AV.vec fa 1 (us (N.Zad a))],[],bigA false (N.sg false a.natAbs),[]⟩,⟨true,false,89,[vb false,AV.vec fb 1 (us (N.Zad b))],[],bigA false (N.sg false b.natAbs),[]⟩]) (by kernel_rfl) (by kernel_rfl) (Zaa rfl (Zaa rfl (Zaa rfl (Zaa rfl Zal)))) Zao (Zah (fun _=>(@ev89_a false fa a k1)) (Zah (fun _=>(@ev89_a false fb b k2)) Zap)) ?_)
 exact Zaf (G:=Zae kp93 [] []) 1000 [] ⟨(atC (cd Tryz.f93) [1,1,0,0,0]),[(4,AV.ptr 2 0 0 0),(5,AV.ptr 3 0 0 0),(6,AV.ptr 4 0 0 0)],[⟨[bigA fa a],2,0,false,false⟩,⟨[bigA fb b],2,0,false,false⟩,⟨[ag [vb false,AV.vnil]],2,0,false,false⟩,⟨[bigA false (N.sg false a.natAbs)],2,0,false,false⟩,⟨[bigA false (N.sg false b.natAbs)],2,0,false,false⟩],_,[],_⟩ (by kernel_rfl) b0 q0 c0 (ZaA [2,3,4] (by kernel_rfl) H)
theorem vGCDH (x y:Int)  (dq:AV) (H :
  (((↑(N.Zad y).length:Int)>0)->(((N.isW x=true)/\(N.isW y=true))->ZeK (N.wrd x) (N.wrd y) (Zag dq)) /\
   (¬((N.isW x=true)/\(N.isW y=true))->(N.okB x/\N.okB y/\y ≠ 0) /\
    (N.Zay (N.drn x.natAbs y.natAbs)/\N.fits (N.drn x.natAbs y.natAbs) (x.natAbs % y.natAbs)) /\
    Zdl y (N.sg false (x.natAbs % y.natAbs)) (Zag dq))) /\
  (¬((↑(N.Zad y).length:Int)>0)->False)) :
 Zdl x y (Zag dq):=by
 unfold Zdl
 have w1:(us (N.Zad y)).length=(N.Zad y).length:=List.length_map ..
 have i2:(decide ((↑(us (N.Zad y)).length:Int)>0))=true ↔ ((↑(N.Zad y).length:Int)>0):=(by (try rw [w1]);all_goals exact Zac)
 rcases xq H with ⟨d3,H⟩|⟨d3,H⟩
 ·refine Zaf (G:=Zae kp93 [(3,1,.call (tu [vw (N.wrd x),vb (N.isW x)]) none),(4,1,.call (tu [vw (N.wrd y),vb (N.isW y)]) none)] []) 13 [true] ⟨(atC (cd Tryz.f93) [1,1,0,0,0,1,0,1,1,0,1]),[(4,AV.ptr 0 0 0 0),(5,AV.ptr 1 0 0 0),(6,AV.ptr 2 0 0 0),(7,vw (N.wrd x)),(9,vw (N.wrd y)),(36,vb (bif N.isW x then N.isW y else false))],[⟨[ag [vb false,AV.vnil]],2,0,false,false⟩,⟨[bigA false x],2,0,false,false⟩,⟨[bigA false y],2,0,false,false⟩],_,[],_⟩ (by kernel_rfl) (bc rfl (bc (Zam (i2.2 d3)) (bc rfl (bc rfl b0)))) q0 (ce (@ev114 false x) (ce (@ev114 false y) c0)) ?_
  rcases xq H with ⟨d5,H⟩|⟨d5,H⟩
  ·exact Zaf (G:=Zae kp93 [] []) 1000 [true] ⟨(atC (cd Tryz.f93) [1,1,0,0,0,1,0,1,1,0,1,0,0,0,0]),[(4,AV.ptr 0 0 0 0),(5,AV.ptr 1 0 0 0),(6,AV.ptr 2 0 0 0),(7,vw (N.wrd x)),(9,vw (N.wrd y)),(36,vb (bif N.isW x then N.isW y else false))],[⟨[ag [vb false,AV.vnil]],2,0,false,false⟩,⟨[bigA false x],2,0,false,false⟩,⟨[bigA false y],2,0,false,false⟩],[(bif N.isW x then N.isW y else false)==true],[],_⟩ (by kernel_rfl) (bc (Zam ((Za1 (Zbu _) (Zbu _)).2 d5)) b0) q0 c0 (Wp.less [4,7,9] (ZaA [0] (by kernel_rfl) H))
  ·obtain ⟨k6,k7,H⟩:=H
   exact Zaf (G:=Zae kp93 [(9,4,.call (tu [vf (us (N.Zav (N.dqn x.natAbs y.natAbs) (x.natAbs / y.natAbs))),vf (us (N.Zav (N.drn x.natAbs y.natAbs) (x.natAbs % y.natAbs)))]) none),(10,2,.call (bigA false (N.sg false (x.natAbs % y.natAbs))) none)] []) 1000 [false] ⟨(atC (cd Tryz.f93) [1,1,0,0,0]),[(4,AV.ptr 0 0 0 0),(5,AV.ptr 1 0 0 0),(6,AV.ptr 2 0 0 0)],[⟨[ag [vb false,AV.vnil]],2,0,false,false⟩,⟨[bigA false y],2,0,false,false⟩,⟨[bigA false (N.sg false (x.natAbs % y.natAbs))],2,0,false,false⟩],[(bif N.isW x then N.isW y else false)==false,true,true,true,true,true],[],_⟩ (by kernel_rfl) (bc (Zak (fun h=>d5 ((Za1 (Zbu _) (Zbu _)).1 h))) (bc rfl (bc rfl (bc rfl (bc rfl (bc rfl b0)))))) q0 (ce (@ev115 false false x y k6) (ce (@ev89 false false (N.drn x.natAbs y.natAbs) (x.natAbs % y.natAbs) k7) c0)) H
 ·exact False.elim H
theorem vGCDE (s:Bool) (c:Int) (l:List Int)  (dq:AV) (H :
  ∃ (b1:Bool) (l1:List Int),
  (Ev M1 (Conf.pure 89 [vb false,vf (vu c::us l)]) (ag [vb b1,vf (us l1)]) []) /\
  ((l.length+1)*4<=1099511627776) /\
  Weak (ag [vb b1,vf (us l1)]) dq) :
 ZfQ s c l (Zag dq):=by
 unfold ZfQ
 obtain ⟨b1,l1,k1,H⟩:=H
 have w2:(us l).length=l.length:=List.length_map ..
 have i3:(decide (((us l).length+1)*4<=1099511627776))=true ↔ ((l.length+1)*4<=1099511627776):=(by (try rw [w2]);all_goals exact Zac)
 obtain ⟨k4,H⟩:=H
 exact Zaj (G:=Zae kp93 [(11,3,.call (ag [vb b1,vf (us l1)]) none)] []) 1000 [false] (ag [vb b1,vf (us l1)]) (by kernel_rfl) (bc rfl (bc rfl (bc rfl (bc (i3.2 k4) (bc rfl (bc rfl b0)))))) q0 (ce k1 c0) H
theorem vGCDZ (s:Bool)  (dq:AV) (H :
  ∃ (b1:Bool) (l1:List Int),
  (Ev M1 (Conf.pure 89 [vb false,AV.vnil]) (ag [vb b1,vf (us l1)]) []) /\
  Weak (ag [vb b1,vf (us l1)]) dq) :
 vGCDZ_at s (Zag dq):=by
 unfold vGCDZ_at
 obtain ⟨b1,l1,k1,H⟩:=H
 exact Zaj (G:=Zae kp93 [(11,3,.call (ag [vb b1,vf (us l1)]) none)] []) 1000 [false] (ag [vb b1,vf (us l1)]) (by kernel_rfl) (bc rfl (bc rfl (bc rfl (bc rfl b0)))) q0 (ce k1 c0) H
theorem vGCDW (u v:Int)  (dq:AV) (H :
  ((v>0)->(¬v=0) /\
   ZeK v (u.tmod v) (Zag dq)) /\
  (¬(v>0)->(0<=u/\u<=18446744073709551615) /\
   (N.Zay 3/\N.fits 3 u.toNat) /\
   Weak (bigA false (N.sg false u.toNat)) dq)) :
 ZeK u v (Zag dq):=by
 unfold ZeK
 rcases xq H with ⟨d2,H⟩|⟨d2,H⟩
 ·obtain ⟨k4,H⟩:=H
  exact Zaf (G:=Zae kp93 [] []) 1000 [true] ⟨(atC (cd Tryz.f93) [1,1,0,0,0,1,0,1,1,0,1,0,0,0,0]),[(4,AV.ptr 0 0 0 0),(7,vw v),(9,vw (u.tmod v))],[⟨[ag [vb false,AV.vnil]],2,0,false,false⟩],_,[],_⟩ (by kernel_rfl) (bc (Zam (Zac.2 d2)) (bc (ZdC.2 k4) b0)) q0 c0 H
 ·obtain ⟨k5,k6,H⟩:=H
  exact Zaj (G:=Zae kp93 [(8,1,.call (vf (us (N.Zav 3 u.toNat))) none),(8,2,.call (bigA false (N.sg false u.toNat)) none)] []) 1000 [false] (bigA false (N.sg false u.toNat)) (by kernel_rfl) (bc (Zak (fun h=>d2 (Zac.1 h))) (bc rfl b0)) q0 (ce (@ev90 u k5) (ce (@ev89 false false 3 (u.toNat) k6) c0)) H
end Go.Av

namespace Go.Av
open Go.Proofs
theorem Zcb (v:Nat):N.sg false v=(v:Int):=by simp [N.sg]
theorem Zda (s:Bool) (v:Nat):(N.sg s v).natAbs=v:=by
 unfold N.sg
 split <;> omega
theorem Zbp {v:Int} (h:¬v<0):N.Zab v=false:=Bool.eq_false_iff.2 (fun x=>h (Zar.1 x))
theorem sg_div {a b:Int} (_hb:b ≠ 0):a=b*N.sg (!(N.Zab a==N.Zab b)) (a.natAbs / b.natAbs)+N.sg (N.Zab a) (a.natAbs % b.natAbs):=by
 have h:=Nat.div_add_mod a.natAbs b.natAbs
 generalize a.natAbs / b.natAbs=q at *
 generalize a.natAbs % b.natAbs=r at *
 have hz:(b.natAbs:Int)*(q:Int)+(r:Int)=(a.natAbs:Int):=by exact_mod_cast h
 by_cases ka:a<0 <;> by_cases kb:b<0
 ·rw [Zar.2 ka,Zar.2 kb]
  have e1:(a.natAbs:Int) = -a:=by omega
  have e2:(b.natAbs:Int) = -b:=by omega
  rw [e1,e2] at hz
  simp [N.sg];grind
 ·rw [Zar.2 ka,Zbp kb]
  have e1:(a.natAbs:Int) = -a:=by omega
  have e2:(b.natAbs:Int)=b:=by omega
  rw [e1,e2] at hz
  simp [N.sg];grind
 ·rw [Zbp ka,Zar.2 kb]
  have e1:(a.natAbs:Int)=a:=by omega
  have e2:(b.natAbs:Int) = -b:=by omega
  rw [e1,e2] at hz
  simp [N.sg];grind
 ·rw [Zbp ka,Zbp kb]
  have e1:(a.natAbs:Int)=a:=by omega
  have e2:(b.natAbs:Int)=b:=by omega
  rw [e1,e2] at hz
  simp [N.sg];grind
theorem ev116 (fa fb:Bool) (a b:Int) (h:N.okB a/\N.okB b/\b ≠ 0):Ev M1 (.pure 116 [bigA fa a,bigA fb b]) (.tup [bigA false (N.flo a b),bigA false (N.flr a b),.int .i64 0]) []:=by
 obtain ⟨ha,hb,h0⟩:=h
 have hl:=Zbz b
 have hd0:b.natAbs ≠ 0:=by omega
 obtain ⟨d1,d2,d3,d4⟩:=dqn_fits hd0 ⟨ha,hb⟩
 have hm:=Nat.mod_lt a.natAbs (Nat.pos_of_ne_zero hd0)
 have heq:=sg_div (a:=a) h0
 have okr:N.okB (N.sg (N.Zab a) (a.natAbs % b.natAbs)):=by
  unfold N.okB
  rw [Zda]
  have:=ZaP (Nat.le_of_lt hm)
  unfold N.okB at hb;omega
 have okq:N.okB (N.sg (!(N.Zab a==N.Zab b)) (a.natAbs / b.natAbs)):=by
  unfold N.okB
  rw [Zda]
  have:=ZaP (Nat.div_le_self a.natAbs b.natAbs)
  unfold N.okB at ha;omega
 have hra:(N.sg (N.Zab a) (a.natAbs % b.natAbs)).natAbs=a.natAbs % b.natAbs:=Zda _ _
 have hlr:=Zbz (N.sg (N.Zab a) (a.natAbs % b.natAbs))
 refine call116 (vDivMod _ _ _ _ _ ⟨fun h => ?_,fun _=>⟨⟨ha,hb,h0⟩,⟨d2,d1⟩,⟨d4,d3⟩,fun k=>⟨by unfold N.inI;omega,okq,⟨okr,hb⟩,?_⟩,fun k => ?_⟩⟩)
 ·have:=ZaE (v:=b.natAbs)
  omega
 ·obtain ⟨k1,k2⟩:=k
  have hne:N.sg (N.Zab a) (a.natAbs % b.natAbs) ≠ 0:=by
   intro e
   rw [e] at hlr
   have:N.cnt (Int.natAbs 0)=0:=ZbF
   rw [e] at k1
   omega
  generalize N.sg (N.Zab a) (a.natAbs % b.natAbs)=r at *
  generalize N.sg (!(N.Zab a==N.Zab b)) (a.natAbs / b.natAbs)=q at *
  have hs:(r<0/\0<b)\/(0<r/\b<0):=by
   by_cases kr:r<0
   ·by_cases kb:b<0
    ·exact absurd (by rw [Zar.2 kr,Zar.2 kb]) k2
    ·exact .inl ⟨kr,by omega⟩
   ·by_cases kb:b<0
    ·exact .inr ⟨by omega,kb⟩
    ·exact absurd (by rw [Zbp kr,Zbp kb]) k2
  obtain ⟨e1,e2⟩:=Zek (a:=a) (b:=b) (q:=q-1) (r:=r+b) (by grind) (by omega)
  rw [e1,e2]
  exact .refl _
 ·generalize hr:N.sg (N.Zab a) (a.natAbs % b.natAbs)=r at *
  generalize N.sg (!(N.Zab a==N.Zab b)) (a.natAbs / b.natAbs)=q at *
  have hs:r=0\/(r<0/\b<0)\/(0<r/\0<b):=by
   by_cases hz:r=0
   ·exact .inl hz
   ·right
    have hc:N.cnt r.natAbs ≠ 0:=fun e=>hz (by have:=ZaE.1 e;omega)
    have k:N.Zab r=N.Zab b:=Classical.byContradiction fun k2=>k ⟨by omega,k2⟩
    by_cases kr:r<0
    ·exact .inl ⟨kr,Zar.1 (k ▸ Zar.2 kr)⟩
    ·have:¬b<0:=fun x=>kr (Zar.1 (by rw [k];exact Zar.2 x))
     exact .inr ⟨by omega,by omega⟩
  obtain ⟨e1,e2⟩:=Zek (a:=a) (b:=b) (q:=q) (r:=r) heq (by omega)
  rw [e1,e2]
  exact .refl _
theorem gcdW (n:Nat):∀ u v:Nat,v<=n->u<=18446744073709551615->v<=18446744073709551615->ZeK u v (Zag (bigA false (Nat.gcd u v:Nat))):=by
 induction n with
 | zero =>
  intro u v hv hu hv2
  have:v=0:=by omega
  subst this
  refine vGCDW _ _ _ ⟨fun h=>by omega,fun _=>⟨by omega,⟨by unfold N.Zay;omega,fits3 (by omega)⟩,?_⟩⟩
  rw [Int.toNat_natCast,Zcb,Nat.gcd_zero_right];exact .refl _
 | succ n ih =>
  intro u v hv hu hv2
  refine vGCDW _ _ _ ⟨fun h=>⟨by omega,?_⟩,fun h=>⟨by omega,⟨by unfold N.Zay;omega,fits3 (by omega)⟩,?_⟩⟩
  ·rw [<- Int.ofNat_tmod]
   have hlt:=Nat.mod_lt u (show 0<v by omega)
   have:=ih v (u % v) (by omega) hv2 (by omega)
   rwa [show Nat.gcd v (u % v)=Nat.gcd u v by rw [Nat.gcd_comm u v,Nat.gcd_rec v u,Nat.gcd_comm]] at this
  ·have:v=0:=by omega
   subst this
   rw [Int.toNat_natCast,Zcb,Nat.gcd_zero_right];exact .refl _
theorem gcdH (n:Nat):∀ x y:Nat,y<=n->N.cnt x<=400000->N.cnt y<=400000->Zdl x y (Zag (bigA false (Nat.gcd x y:Nat))):=by
 have base:∀ x:Nat,N.cnt x<=400000->Zdl x (0:Nat) (Zag (bigA false (Nat.gcd x 0:Nat))):=by
  intro x hx
  rw [Nat.gcd_zero_right]
  have e1:N.Zad ((0:Nat):Int)=[]:=ZcD
  have e2:N.Zab ((0:Nat):Int)=false:=rfl
  unfold Zdl
  rw [e1,e2]
  by_cases h0:x=0
  ·subst h0
   rw [e1,e2]
   refine vGCDZ false _ ⟨false,[],?_,by show Weak _ (AV.agg [.bool (N.Zab ((0:Nat):Int)),.vec false 1 ((N.Zad ((0:Nat):Int)).map (.int .u32))]);rw [e1,e2];exact .refl _⟩
   exact call89 (vSigned0 false _ (vSigned0A false _ (weak_bnil false)))
  ·have hll:=Zbz (x:Int)
   have hne:N.Zad (x:Int) ≠ []:=by
    intro e
    rw [e] at hll
    exact h0 (ZaE.1 hll.symm)
   obtain ⟨c,l,hl⟩:=List.exists_cons_of_ne_nil hne
   have es:=ev89_a false false (x:Int) (by unfold N.ok;rw [Int.natAbs_natCast];omega)
   rw [Int.natAbs_natCast,Zcb] at es
   have es2:Ev M1 (.pure 89 [.bool false,.vec false 1 ((N.Zad (x:Int)).map (.int .u32))]) (.agg [.bool (N.Zab (x:Int)),.vec false 1 ((N.Zad (x:Int)).map (.int .u32))]) []:=es
   rw [hl] at es2 hll
   rw [Int.natAbs_natCast] at hll
   simp only [List.length_cons] at hll
   have key:∀ d,bigA false (x:Int)=d->ZfQ (N.Zab (x:Int)) c l (Zag d):=by
    intro d hd
    refine vGCDE _ c l _ ⟨N.Zab (x:Int),c::l,es2,by omega,?_⟩
    rw [<- hd]
    show Weak _ (AV.agg [.bool (N.Zab (x:Int)),.vec false 1 ((N.Zad (x:Int)).map (.int .u32))])
    rw [hl];exact .refl _
   have k:=key _ rfl
   unfold ZfQ at k
   rw [<- hl] at k
   exact k
 induction n with
 | zero =>
  intro x y hy hx hcy
  have:y=0:=by omega
  subst this
  exact base x hx
 | succ n ih =>
  intro x y hy hx hcy
  by_cases h0:y=0
  ·subst h0;exact base x hx
  ·have hyl:=Zbz (y:Int)
   have hc:=ZaE (v:=y)
   rw [Int.natAbs_natCast] at hyl
   refine vGCDH _ _ _ ⟨fun _=>⟨fun h => ?_,fun h=>⟨⟨by unfold N.okB;rw [Int.natAbs_natCast];exact hx,by unfold N.okB;rw [Int.natAbs_natCast];exact hcy,by omega⟩,?_,?_⟩⟩,fun h => ?_⟩
   ·obtain ⟨k1,k2⟩:=h
    unfold N.isW at k1 k2
    rw [Int.natAbs_natCast,decide_eq_true_eq] at k1 k2
    have w1:N.wrd (x:Int)=(x:Int):=by unfold N.wrd;rw [Int.natAbs_natCast,if_pos k1]
    have w2:N.wrd (y:Int)=(y:Int):=by unfold N.wrd;rw [Int.natAbs_natCast,if_pos k2]
    rw [w1,w2]
    have f:=ZaT (Zai x) k1
    have:x<1000000000000000000:=by unfold N.fits at f;simpa using f
    have f':=ZaT (Zai y) k2
    have:y<1000000000000000000:=by unfold N.fits at f';simpa using f'
    exact gcdW y x y (Nat.le_refl _) (by omega) (by omega)
   ·rw [Int.natAbs_natCast,Int.natAbs_natCast]
    obtain ⟨d1,d2,d3,d4⟩:=dqn_fits h0 ⟨hx,hcy⟩
    exact ⟨d4,d3⟩
   ·rw [Int.natAbs_natCast,Int.natAbs_natCast,Zcb]
    have hlt:=Nat.mod_lt x (show 0<y by omega)
    have hm:=ZaP (Nat.le_of_lt hlt)
    have:=ih y (x % y) (by omega) hcy (by omega)
    rwa [show Nat.gcd y (x % y)=Nat.gcd x y by rw [Nat.gcd_comm x y,Nat.gcd_rec y x,Nat.gcd_comm]] at this
   ·omega
theorem ev93 (fa fb:Bool) (a b:Int) (h:N.okB a/\N.okB b):Ev M1 (.pure 93 [bigA fa a,bigA fb b]) (bigA false (Int.gcd a b:Nat)) []:=by
 refine call93 (vGCD _ _ _ _ _ ⟨Zcw h.1,Zcw h.2,?_⟩)
 rw [Zcb,Zcb]
 exact gcdH b.natAbs a.natAbs b.natAbs (Nat.le_refl _) h.1 h.2
end Go.Av

namespace Go.Av
open Go.Proofs
end Go.Av

namespace Go.Av
open Go.Proofs
set_option maxRecDepth 100000
end Go.Av

namespace Go.Av
open Go.Proofs
namespace N
end N
end Go.Av

namespace Go.Av
open Go.Proofs
set_option maxRecDepth 100000
def fi81:Fi:=⟨41,[.tmp 4]⟩
def kp81:List (Nat × List Nat):=[(0,[0,1]),(1,[0,1,10]),(2,[15]),(3,[4]),(4,[4]),(5,[0,1,5]),(6,[0,1,5,20]),(7,[0,1,5]),(8,[0,1,5,31]),(9,[4]),(10,[0,1,5,40]),(11,[4]),(12,[4])]
def fi87:Fi:=⟨15,[.tmp 2]⟩
def kp87:List (Nat × List Nat):=[(0,[0]),(1,[0,3]),(2,[0,3,5]),(3,[0,3]),(4,[0,3]),(5,[2])]
def fi103:Fi:=⟨21,[.tmp 2]⟩
def kp103:List (Nat × List Nat):=[(0,[0]),(1,[0,14]),(2,[0]),(3,[2])]
def fi110:Fi:=⟨9,[.tmp 2]⟩
def kp110:List (Nat × List Nat):=[(0,[1]),(1,[1,6]),(2,[2]),(3,[8]),(4,[2]),(5,[2])]
def fi125:Fi:=⟨21,[.tmp 2]⟩
def kp125:List (Nat × List Nat):=[(0,[0]),(1,[0,3]),(2,[0,3,4]),(3,[0,3,4,9]),(4,[0,3,4]),(5,[0,3,4]),(6,[2])]
def rTrim_at (fa:Bool) (a:List Int) (Q:AV->Heap->Prop):Prop:=Wp M1 (.run fi103 (atC (cd Tryz.f103) []) [(0,.vec fa 1 (a.map (.int .u32)))] []) Q
def ZdP (fa:Bool) (a:List Int) (Q:AV->Heap->Prop):Prop:=Wp M1 (.run fi103 (atC (cd Tryz.f103) [1,0,0,0]) [(0,.vec fa 1 (a.map (.int .u32)))] []) Q
def rLimbs_at (u:Int) (Q:AV->Heap->Prop):Prop:=Wp M1 (.run fi87 (atC (cd Tryz.f87) []) [(0,.int .u64 u)] []) Q
def Zfo (u:Int) (Q:AV->Heap->Prop):Prop:=Wp M1 (.run fi87 (atC (cd Tryz.f87) [1,1,0,0,0]) [(0,.int .u64 u),(3,.vnil)] []) Q
def Zdf (u:Int) (o:List Int) (v:Nat) (Q:AV->Heap->Prop):Prop:=Wp M1 (.run fi87 (atC (cd Tryz.f87) [1,1,0,0,0]) [(0,.int .u64 u),(3,.row 0 v)] [⟨o.map (.int .u32),1,v,false,true⟩]) Q
def rShort_at (fa:Bool) (a:List Int) (Q:AV->Heap->Prop):Prop:=Wp M1 (.run fi125 (atC (cd Tryz.f125) []) [(0,.vec fa 1 (a.map (.int .u32)))] []) Q
def Zdd (fa:Bool) (a:List Int) (n i:Int) (Q:AV->Heap->Prop):Prop:=Wp M1 (.run fi125 (atC (cd Tryz.f125) [1,1,0,1,0,0]) [(0,.vec fa 1 (a.map (.int .u32))),(3,.int .u64 n),(4,.int .i64 i)] []) Q
def Zgu (fa fb:Bool) (a b:List Int) (Q:AV->Heap->Prop):Prop:=Wp M1 (.run fi81 (atC (cd Tryz.f81) []) [(0,.vec fa 1 (a.map (.int .u32))),(1,.vec fb 1 (b.map (.int .u32)))] []) Q
def Zcm (fa fb:Bool) (a b:List Int) (i:Int) (Q:AV->Heap->Prop):Prop:=Wp M1 (.run fi81 (atC (cd Tryz.f81) [1,1,0,1,0,0]) [(0,.vec fa 1 (a.map (.int .u32))),(1,.vec fb 1 (b.map (.int .u32))),(5,.int .i64 i)] []) Q
def rSign_at (fa:Bool) (v:Int) (Q:AV->Heap->Prop):Prop:=Wp M1 (.run fi110 (atC (cd Tryz.f110) []) [(0,bigA fa v)] []) Q
theorem call81 {args:List AV} {d:AV} (h:wc M1 fi81 Tryz.f81 args d):Ev M1 (.pure 81 args) d []:=pcl _ _ (by kernel_rfl) h
theorem call87 {args:List AV} {d:AV} (h:wc M1 fi87 Tryz.f87 args d):Ev M1 (.pure 87 args) d []:=pcl _ _ (by kernel_rfl) h
theorem call103 {args:List AV} {d:AV} (h:wc M1 fi103 Tryz.f103 args d):Ev M1 (.pure 103 args) d []:=pcl _ _ (by kernel_rfl) h
theorem call110 {args:List AV} {d:AV} (h:wc M1 fi110 Tryz.f110 args d):Ev M1 (.pure 110 args) d []:=pcl _ _ (by kernel_rfl) h
theorem call125 {args:List AV} {d:AV} (h:wc M1 fi125 Tryz.f125 args d):Ev M1 (.pure 125 args) d []:=pcl _ _ (by kernel_rfl) h
theorem rTrim (fa:Bool) (a:List Int)  (dq:AV) (H :
  ZdP fa a (Zag dq)) :
 rTrim_at fa a (Zag dq):=by
 unfold rTrim_at
 exact Zaf (G:=Zae kp103 [] []) 1000 [] ⟨(atC (cd Tryz.f103) [1,0,0,0]),[(0,AV.vec fa 1 (us a))],[],_,[],_⟩ (by kernel_rfl) b0 q0 c0 H
theorem rTrimA (fa:Bool) (a:List Int)  (dq:AV) (H :
  (-9223372036854775808<=(↑a.length:Int)-1/\(↑a.length:Int)-1<=9223372036854775807) /\
  (((↑a.length:Int)>0)->(0<=(↑a.length:Int)-1)) /\
  (((↑a.length:Int)>0)->(((↑a.length:Int)-1).toNat<a.length)) /\
  ((((↑a.length:Int)>0)/\(a.getD ((↑a.length:Int)-1).toNat default=0))->(0<=(↑a.length:Int)-1) /\
   (0<=((↑a.length:Int)-1).toNat) /\
   (((↑a.length:Int)-1).toNat<=a.length) /\
   ZdP (fa&&false) (List.drop 0 (List.take ((↑a.length:Int)-1).toNat a)) (Zag dq)) /\
  (¬(((↑a.length:Int)>0)/\(a.getD ((↑a.length:Int)-1).toNat default=0))->Weak (AV.vec fa 1 (us a)) dq)) :
 ZdP fa a (Zag dq):=by
 unfold ZdP
 have w1:(us a).length=a.length:=List.length_map ..
 obtain ⟨k2,H⟩:=H
 have w3:wi ((↑a.length:Int)-1)=(↑a.length:Int)-1:=wI64 k2
 have i4:(!(decide ((↑(us a).length:Int)>0)==true&&true)||decide (0<=wi ((↑(us a).length:Int)-1)))=true ↔ (((↑a.length:Int)>0)->(0<=(↑a.length:Int)-1)):=(by (try rw [w1]);(try rw [w3]);all_goals exact (ZfO (i_at (i_bt Zac)) Zac))
 obtain ⟨k5,H⟩:=H
 have i6:(!(decide ((↑(us a).length:Int)>0)==true&&true)||decide ((wi ((↑(us a).length:Int)-1)).toNat<(us a).length))=true ↔ (((↑a.length:Int)>0)->(((↑a.length:Int)-1).toNat<a.length)):=(by (try rw [w1]);(try rw [w3]);all_goals exact (ZfO (i_at (i_bt Zac)) Zac))
 obtain ⟨k7,H⟩:=H
 have i9:(bif decide ((↑(us a).length:Int)>0) then a.getD ((↑a.length:Int)-1).toNat default==0 else false)=true ↔ (((↑a.length:Int)>0)/\(a.getD ((↑a.length:Int)-1).toNat default=0)):=(by (try rw [w1]);all_goals exact (Za1 Zac i_eq))
 refine Zaf (G:=Zae kp103 [(1,9,.elem (vu (a.getD ((↑a.length:Int)-1).toNat default)))] []) 3 [] ⟨(atC (cd Tryz.f103) [1,0,0,0,0,1]),[(0,AV.vec fa 1 (us a)),(14,vb (bif decide ((↑(us a).length:Int)>0) then a.getD ((↑a.length:Int)-1).toNat default==0 else false))],[],_,[((decide ((↑(us a).length:Int)>0)==true&&true)=true->(us a).get?Internal (wi ((↑(us a).length:Int)-1)).toNat=some (vu (a.getD ((↑a.length:Int)-1).toNat default)))],_⟩ (by kernel_rfl) (bc (i4.2 k5) (bc (i6.2 k7) b0)) (qc (by (try rw [w1]);(try rw [w3]);all_goals exact (fun h=>Zat (k7 ((i_at (i_bt Zac)).1 h)))) q0) c0 ?_
 rcases xq H with ⟨d10,H⟩|⟨d10,H⟩
 ·have i11:(decide (0<=wi ((↑(us a).length:Int)-1)))=true ↔ (0<=(↑a.length:Int)-1):=(by (try rw [w1]);(try rw [w3]);all_goals exact Zac)
  obtain ⟨k12,H⟩:=H
  have i13:(decide (0<=(wi ((↑(us a).length:Int)-1)).toNat))=true ↔ (0<=((↑a.length:Int)-1).toNat):=(by (try rw [w1]);(try rw [w3]);all_goals exact Zac)
  obtain ⟨k14,H⟩:=H
  have i15:(decide ((wi ((↑(us a).length:Int)-1)).toNat<=(us a).length))=true ↔ (((↑a.length:Int)-1).toNat<=a.length):=(by (try rw [w1]);(try rw [w3]);all_goals exact Zac)
  obtain ⟨k16,H⟩:=H
  have w17:List.take ((↑a.length:Int)-1).toNat (us a)=us (List.take ((↑a.length:Int)-1).toNat a):=(Zfs rfl)
  have w18:List.drop 0 (us (List.take ((↑a.length:Int)-1).toNat a))=us (List.drop 0 (List.take ((↑a.length:Int)-1).toNat a)):=(Zft rfl)
  exact Zaf (G:=Zae kp103 [] []) 1000 [true] ⟨(atC (cd Tryz.f103) [1,0,0,0]),[(0,AV.vec (fa&&false) 1 (List.drop 0 (List.take (wi ((↑(us a).length:Int)-1)).toNat (us a))))],[],_,[],_⟩ (by kernel_rfl) (bc (Zam (i9.2 d10)) (bc (i11.2 k12) (bc (i13.2 k14) (bc (i15.2 k16) b0)))) q0 c0 (by (try rw [w1]);(try rw [w3]);(try rw [w17]);(try rw [w18]);all_goals exact H)
 ·exact Zaj (G:=Zae kp103 [] []) 1000 [false] (AV.vec fa 1 (us a)) (by kernel_rfl) (bc (Zak (fun h=>d10 (i9.1 h))) b0) q0 c0 H
theorem rLimbs (u:Int)  (dq:AV) (H :
  Zfo u (Zag dq)) :
 rLimbs_at u (Zag dq):=by
 unfold rLimbs_at
 exact Zaf (G:=Zae kp87 [] []) 1000 [] ⟨(atC (cd Tryz.f87) [1,1,0,0,0]),[(0,vw u),(3,AV.vnil)],[],_,[],_⟩ (by kernel_rfl) b0 q0 c0 H
theorem rLimbs0 (u:Int)  (dq:AV) (H :
  ((u>0)->(0<=u.tmod 1000000000/\u.tmod 1000000000<=4294967295) /\
   (0<=u.tdiv 1000000000/\u.tdiv 1000000000<=18446744073709551615) /\
   Zdf (u.tdiv 1000000000) ([u.tmod 1000000000]) 0 (Zag dq)) /\
  (¬(u>0)->Weak (AV.vnil) dq)) :
 Zfo u (Zag dq):=by
 unfold Zfo
 rcases xq H with ⟨d2,H⟩|⟨d2,H⟩
 ·obtain ⟨k3,H⟩:=H
  have w4:wv (u.tmod 1000000000)=u.tmod 1000000000:=wU32 k3
  obtain ⟨k5,H⟩:=H
  have w6:wu (u.tdiv 1000000000)=u.tdiv 1000000000:=wU64 k5
  have w7:[vu (u.tmod 1000000000)]=us [u.tmod 1000000000]:=rfl
  exact Zaf (G:=Zae kp87 [] []) 1000 [true] ⟨(atC (cd Tryz.f87) [1,1,0,0,0]),[(0,vw (wu (u.tdiv 1000000000))),(3,AV.row 0 0)],[⟨[vu (wv (u.tmod 1000000000))],1,0,false,true⟩],_,[],_⟩ (by kernel_rfl) (bc (Zam (Zac.2 d2)) (bc rfl (bc rfl (bc rfl b0)))) q0 c0 (by (try rw [w4]);(try rw [w6]);(try rw [w7]);all_goals exact H)
 ·exact Zaj (G:=Zae kp87 [] []) 1000 [false] (AV.vnil) (by kernel_rfl) (bc (Zak (fun h=>d2 (Zac.1 h))) b0) q0 c0 H
theorem rLimbsA (u:Int) (o:List Int) (v:Nat)  (dq:AV) (H :
  ((u>0)->(0<=u.tmod 1000000000/\u.tmod 1000000000<=4294967295) /\
   ((o.length+1)*4<=1099511627776) /\
   (0<=u.tdiv 1000000000/\u.tdiv 1000000000<=18446744073709551615) /\
   Zdf (u.tdiv 1000000000) (o++[u.tmod 1000000000]) (v+1) (Zag dq)) /\
  (¬(u>0)->Weak (vf (us o)) dq)) :
 Zdf u o v (Zag dq):=by
 unfold Zdf
 rcases xq H with ⟨d2,H⟩|⟨d2,H⟩
 ·have w3:(us o).length=o.length:=List.length_map ..
  obtain ⟨k4,H⟩:=H
  have w5:wv (u.tmod 1000000000)=u.tmod 1000000000:=wU32 k4
  have i6:(decide (((us o).length+1)*4<=1099511627776))=true ↔ ((o.length+1)*4<=1099511627776):=(by (try rw [w3]);(try rw [w5]);all_goals exact Zac)
  obtain ⟨k7,H⟩:=H
  have w8:us o++[vu (u.tmod 1000000000)]=us (o++[u.tmod 1000000000]):=(ZdZ rfl rfl)
  obtain ⟨k9,H⟩:=H
  have w10:wu (u.tdiv 1000000000)=u.tdiv 1000000000:=wU64 k9
  exact Zaf (G:=Zae kp87 [] []) 1000 [true] ⟨(atC (cd Tryz.f87) [1,1,0,0,0]),[(0,vw (wu (u.tdiv 1000000000))),(3,AV.row 0 (v+1))],[⟨us o++[vu (wv (u.tmod 1000000000))],1,v+1,false,true⟩],[(decide (u>0))==true,true,v==v,decide (((us o).length+1)*4<=1099511627776),true],[],_⟩ (by kernel_rfl) (bc (Zam (Zac.2 d2)) (bc rfl (bc (beq_self_eq_true _) (bc (i6.2 k7) (bc rfl b0))))) q0 c0 (by (try rw [w5]);(try rw [w8]);(try rw [w10]);all_goals exact H)
 ·exact ZaB (G:=Zae kp87 [] []) 1000 [false] (k:=((atC (cd Tryz.f87) [1,1,1,1])).tail) (env':=[(2,AV.row 0 v)]) (L':=[⟨us o,1,v,false,true⟩]) (asm:=[(decide (u>0))==false]) (eqs:=[]) (calls:=[]) (AV.row 0 v) (by kernel_rfl) (by kernel_rfl) (Zaa (Zak (fun h=>d2 (Zac.1 h))) Zal) Zao Zap (ZbI (d:=(vf (us o))) (bs:=[v==v]) (by kernel_rfl) (by kernel_rfl) (Zaa (beq_self_eq_true _) Zal) (by kernel_rfl) H)
theorem rShort (fa:Bool) (a:List Int)  (dq:AV) (H :
  (-9223372036854775808<=(↑a.length:Int)-1/\(↑a.length:Int)-1<=9223372036854775807) /\
  Zdd fa a 0 ((↑a.length:Int)-1) (Zag dq)) :
 rShort_at fa a (Zag dq):=by
 unfold rShort_at
 have w1:(us a).length=a.length:=List.length_map ..
 obtain ⟨k2,H⟩:=H
 have w3:wi ((↑a.length:Int)-1)=(↑a.length:Int)-1:=wI64 k2
 exact Zaf (G:=Zae kp125 [] []) 1000 [] ⟨(atC (cd Tryz.f125) [1,1,0,1,0,0]),[(0,AV.vec fa 1 (us a)),(3,vw 0),(4,vi (wi ((↑(us a).length:Int)-1)))],[],_,[],_⟩ (by kernel_rfl) b0 q0 c0 (by (try rw [w1]);(try rw [w3]);all_goals exact H)
theorem rShortA (fa:Bool) (a:List Int) (n i:Int)  (dq:AV) (H :
  ((i>=0)->(0<=i) /\
   (i.toNat<a.length) /\
   (0<=n*1000000000/\n*1000000000<=18446744073709551615) /\
   (0<=a.getD i.toNat default/\a.getD i.toNat default<=18446744073709551615) /\
   (0<=n*1000000000+a.getD i.toNat default/\n*1000000000+a.getD i.toNat default<=18446744073709551615) /\
   (-9223372036854775808<=i-1/\i-1<=9223372036854775807) /\
   Zdd fa a (n*1000000000+a.getD i.toNat default) (i-1) (Zag dq)) /\
  (¬(i>=0)->vw n=dq)) :
 Zdd fa a n i (Zag dq):=by
 unfold Zdd
 rcases xq H with ⟨d2,H⟩|⟨d2,H⟩
 ·obtain ⟨k4,H⟩:=H
  have w5:(us a).length=a.length:=List.length_map ..
  have i6:(decide (i.toNat<(us a).length))=true ↔ (i.toNat<a.length):=(by (try rw [w5]);all_goals exact Zac)
  obtain ⟨k7,k8,H⟩:=H
  have w9:wu (n*1000000000)=n*1000000000:=wU64 k8
  obtain ⟨k10,H⟩:=H
  have w11:wu (a.getD i.toNat default)=a.getD i.toNat default:=wU64 k10
  obtain ⟨k12,H⟩:=H
  have w13:wu (n*1000000000+a.getD i.toNat default)=n*1000000000+a.getD i.toNat default:=wU64 k12
  obtain ⟨k14,H⟩:=H
  have w15:wi (i-1)=i-1:=wI64 k14
  exact Zaf (G:=Zae kp125 [(5,5,.elem (vu (a.getD i.toNat default)))] []) 1000 [true] ⟨(atC (cd Tryz.f125) [1,1,0,1,0,0]),[(0,AV.vec fa 1 (us a)),(3,vw (wu (wu (n*1000000000)+wu (a.getD i.toNat default)))),(4,vi (wi (i-1)))],[],_,[((us a).get?Internal i.toNat=some (vu (a.getD i.toNat default)))],_⟩ (by kernel_rfl) (bc (Zam (Zac.2 d2)) (bc (Zac.2 k4) (bc (i6.2 k7) b0))) (qc (Zat k7) q0) c0 (by (try rw [w9]);(try rw [w11]);(try rw [w13]);(try rw [w15]);all_goals exact H)
 ·exact Zas (G:=Zae kp125 [] []) 1000 [false] (vw n) (by kernel_rfl) (bc (Zak (fun h=>d2 (Zac.1 h))) b0) q0 c0 H
theorem rCompare (fa fb:Bool) (a b:List Int)  (dq:AV) (H :
  ((¬(↑a.length:Int)=(↑b.length:Int))->(((↑a.length:Int)<(↑b.length:Int))->vi (-1)=dq) /\
   (¬((↑a.length:Int)<(↑b.length:Int))->vi 1=dq)) /\
  (¬(¬(↑a.length:Int)=(↑b.length:Int))->(-9223372036854775808<=(↑a.length:Int)-1/\(↑a.length:Int)-1<=9223372036854775807) /\
   Zcm fa fb a b ((↑a.length:Int)-1) (Zag dq))) :
 Zgu fa fb a b (Zag dq):=by
 unfold Zgu
 have w1:(us a).length=a.length:=List.length_map ..
 have w2:(us b).length=b.length:=List.length_map ..
 have i3:((↑(us a).length:Int) != (↑(us b).length:Int))=true ↔ (¬(↑a.length:Int)=(↑b.length:Int)):=(by (try rw [w1]);(try rw [w2]);all_goals exact i_ne)
 rcases xq H with ⟨d4,H⟩|⟨d4,H⟩
 ·have i5:(decide ((↑(us a).length:Int)<(↑(us b).length:Int)))=true ↔ ((↑a.length:Int)<(↑b.length:Int)):=(by (try rw [w1]);(try rw [w2]);all_goals exact Zac)
  rcases xq H with ⟨d6,H⟩|⟨d6,H⟩
  ·exact Zas (G:=Zae kp81 [] []) 1000 [true,true] (vi (-1)) (by kernel_rfl) (bc (Zam (i3.2 d4)) (bc (Zam (i5.2 d6)) b0)) q0 c0 H
  ·exact Zas (G:=Zae kp81 [] []) 1000 [true,false] (vi 1) (by kernel_rfl) (bc (Zam (i3.2 d4)) (bc (Zak (fun h=>d6 (i5.1 h))) b0)) q0 c0 H
 ·obtain ⟨k7,H⟩:=H
  have w8:wi ((↑a.length:Int)-1)=(↑a.length:Int)-1:=wI64 k7
  exact Zaf (G:=Zae kp81 [] []) 1000 [false] ⟨(atC (cd Tryz.f81) [1,1,0,1,0,0]),[(0,AV.vec fa 1 (us a)),(1,AV.vec fb 1 (us b)),(5,vi (wi ((↑(us a).length:Int)-1)))],[],_,[],_⟩ (by kernel_rfl) (bc (Zak (fun h=>d4 (i3.1 h))) b0) q0 c0 (by (try rw [w1]);(try rw [w8]);all_goals exact H)
theorem rCompareA (fa fb:Bool) (a b:List Int) (i:Int)  (dq:AV) (H :
  ((i>=0)->(0<=i) /\
   (i.toNat<a.length) /\
   (i.toNat<b.length) /\
   ((a.getD i.toNat default<b.getD i.toNat default)->vi (-1)=dq) /\
   (¬(a.getD i.toNat default<b.getD i.toNat default)->((a.getD i.toNat default>b.getD i.toNat default)->vi 1=dq) /\
    (¬(a.getD i.toNat default>b.getD i.toNat default)->(-9223372036854775808<=i-1/\i-1<=9223372036854775807) /\
     Zcm fa fb a b (i-1) (Zag dq)))) /\
  (¬(i>=0)->vi 0=dq)) :
 Zcm fa fb a b i (Zag dq):=by
 unfold Zcm
 rcases xq H with ⟨d2,H⟩|⟨d2,H⟩
 ·obtain ⟨k4,H⟩:=H
  have w5:(us a).length=a.length:=List.length_map ..
  have i6:(decide (i.toNat<(us a).length))=true ↔ (i.toNat<a.length):=(by (try rw [w5]);all_goals exact Zac)
  obtain ⟨k7,H⟩:=H
  have w9:(us b).length=b.length:=List.length_map ..
  have i10:(decide (i.toNat<(us b).length))=true ↔ (i.toNat<b.length):=(by (try rw [w9]);all_goals exact Zac)
  obtain ⟨k11,H⟩:=H
  refine Zaf (G:=Zae kp81 [(8,3,.elem (vu (a.getD i.toNat default))),(8,7,.elem (vu (b.getD i.toNat default)))] []) 10 [true] ⟨(atC (cd Tryz.f81) [1,1,0,1,0,0,1,0,0,0,1]),[(0,AV.vec fa 1 (us a)),(1,AV.vec fb 1 (us b)),(5,vi i),(31,vb (decide (a.getD i.toNat default<b.getD i.toNat default)))],[],_,[((us a).get?Internal i.toNat=some (vu (a.getD i.toNat default))),((us b).get?Internal i.toNat=some (vu (b.getD i.toNat default)))],_⟩ (by kernel_rfl) (bc (Zam (Zac.2 d2)) (bc (Zac.2 k4) (bc (i6.2 k7) (bc (Zac.2 k4) (bc (i10.2 k11) b0))))) (qc (Zat k7) (qc (Zat k11) q0)) c0 ?_
  rcases xq H with ⟨d13,H⟩|⟨d13,H⟩
  ·exact Zas (G:=Zae kp81 [] []) 1000 [true] (vi (-1)) (by kernel_rfl) (bc (Zam (Zac.2 d13)) b0) q0 c0 H
  ·have i15:(decide (i.toNat<(us a).length))=true ↔ (i.toNat<a.length):=(by (try rw [w5]);all_goals exact Zac)
   have i17:(decide (i.toNat<(us b).length))=true ↔ (i.toNat<b.length):=(by (try rw [w9]);all_goals exact Zac)
   refine Zaf (G:=Zae kp81 [(10,3,.elem (vu (a.getD i.toNat default))),(10,7,.elem (vu (b.getD i.toNat default)))] []) 4 [false] ⟨(atC (cd Tryz.f81) [1,1,0,1,0,0,1,0,0,1,1]),[(0,AV.vec fa 1 (us a)),(1,AV.vec fb 1 (us b)),(5,vi i),(40,vb (decide (a.getD i.toNat default>b.getD i.toNat default)))],[],_,[((us a).get?Internal i.toNat=some (vu (a.getD i.toNat default))),((us b).get?Internal i.toNat=some (vu (b.getD i.toNat default)))],_⟩ (by kernel_rfl) (bc (Zak (fun h=>d13 (Zac.1 h))) (bc (Zac.2 k4) (bc (i15.2 k7) (bc (Zac.2 k4) (bc (i17.2 k11) b0))))) (qc (Zat k7) (qc (Zat k11) q0)) c0 ?_
   rcases xq H with ⟨d19,H⟩|⟨d19,H⟩
   ·exact Zas (G:=Zae kp81 [] []) 1000 [true] (vi 1) (by kernel_rfl) (bc (Zam (Zac.2 d19)) b0) q0 c0 H
   ·obtain ⟨k20,H⟩:=H
    have w21:wi (i-1)=i-1:=wI64 k20
    exact Zaf (G:=Zae kp81 [] []) 1000 [false] ⟨(atC (cd Tryz.f81) [1,1,0,1,0,0]),[(0,AV.vec fa 1 (us a)),(1,AV.vec fb 1 (us b)),(5,vi (wi (i-1)))],[],_,[],_⟩ (by kernel_rfl) (bc (Zak (fun h=>d19 (Zac.1 h))) b0) q0 c0 (by (try rw [w21]);all_goals exact H)
 ·exact Zas (G:=Zae kp81 [] []) 1000 [false] (vi 0) (by kernel_rfl) (bc (Zak (fun h=>d2 (Zac.1 h))) b0) q0 c0 H
theorem rSign (fa:Bool) (v:Int)  (dq:AV) (H :
  (((↑(N.Zad v).length:Int)=0)->vi 0=dq) /\
  (¬((↑(N.Zad v).length:Int)=0)->((N.Zab v=true)->vi (-1)=dq) /\
   (¬(N.Zab v=true)->vi 1=dq))) :
 rSign_at fa v (Zag dq):=by
 unfold rSign_at
 have w1:(us (N.Zad v)).length=(N.Zad v).length:=List.length_map ..
 have i2:((↑(us (N.Zad v)).length:Int)==0)=true ↔ ((↑(N.Zad v).length:Int)=0):=(by (try rw [w1]);all_goals exact i_eq)
 rcases xq H with ⟨d3,H⟩|⟨d3,H⟩
 ·exact Zas (G:=Zae kp110 [] []) 1000 [true] (vi 0) (by kernel_rfl) (bc rfl (bc (Zam (i2.2 d3)) b0)) q0 c0 H
 ·rcases xq H with ⟨d5,H⟩|⟨d5,H⟩
  ·exact Zas (G:=Zae kp110 [] []) 1000 [false,true] (asm:=[true,((↑(us (N.Zad v)).length:Int)==0)==false,0==0,(N.Zab v)==true]) (vi (-1)) (by kernel_rfl) (bc rfl (bc (Zak (fun h=>d3 (i2.1 h))) (bc (beq_self_eq_true _) (bc (Zam ((Zbu _).2 d5)) b0)))) q0 c0 H
  ·exact Zas (G:=Zae kp110 [] []) 1000 [false,false] (asm:=[true,((↑(us (N.Zad v)).length:Int)==0)==false,0==0,(N.Zab v)==false]) (vi 1) (by kernel_rfl) (bc rfl (bc (Zak (fun h=>d3 (i2.1 h))) (bc (beq_self_eq_true _) (bc (Zak (fun h=>d5 ((Zbu _).1 h))) b0)))) q0 c0 H
end Go.Av

namespace Go.Av
open Go.Proofs
namespace N
def trimF:Nat->List Int->List Int
 | 0,a=>a
 | n+1,a=>if a.getD n default=0 then trimF n (a.take n) else a
def Zck (a:List Int):List Int:=trimF a.length a
end N
theorem ZgC:∀ (n:Nat) (fa:Bool) (a:List Int),a.length=n->n<=1000000->ZdP fa a (Zag (usA false (N.trimF n a)))
 | 0,fa,a,hl,hk=>rTrimA _ _ _ ⟨by omega,fun h=>by omega,fun h=>by omega,fun h=>by omega,fun _=>ZcB _ _ _⟩
 | n+1,fa,a,hl,hk=>by
  have e1:((a.length:Int)-1).toNat=n:=by omega
  refine rTrimA _ _ _ ⟨by omega,fun _=>by omega,fun _=>by omega,fun h => ?_,fun h => ?_⟩
  ·rw [e1] at h ⊢
   refine ⟨by omega,by omega,by omega,?_⟩
   rw [List.drop_zero]
   have:=ZgC n (fa&&false) (a.take n) (by simp;omega) (by omega)
   rw [N.trimF,if_pos h.2];exact this
  ·rw [e1] at h
   rw [N.trimF,if_neg (fun x=>h ⟨by omega,x⟩)]
   exact ZcB _ _ _
theorem Zfl:∀ (k v:Nat),N.fits k v->N.trimF k (N.Zav k v)=N.lim v
 | 0,v,hf=>by
  have h0:=Zbi.1 hf
  subst h0
  rw [ZcD];rfl
 | k+1,v,hf=>by
  rw [N.trimF]
  by_cases h:N.fits k v
  ·rw [if_pos ((Zf6 hf).2 h),limN_take]
   exact Zfl k v h
  ·rw [if_neg (fun x=>h ((Zf6 hf).1 x)),lim_of hf (.inr (by simpa using h))]
theorem rtrimN (fa:Bool) (k v:Nat) (h:N.Zay k/\N.fits k v):Ev M1 (.pure 103 [usA fa (N.Zav k v)]) (usA false (N.lim v)) []:=by
 have:=ZgC k fa (N.Zav k v) (Zan k v) h.1
 rw [Zfl k v h.2] at this
 exact call103 (rTrim _ _ _ this)
theorem ev103 (fa:Bool) (k v:Nat) (h:N.Zay k/\N.fits k v):Ev M1 (.pure 103 [usA fa (N.Zav k v)]) (usA false (N.lim v)) []:=rtrimN fa k v h
theorem ZeC (fa:Bool) (a:List Int) (h:N.Zay a.length):Ev M1 (.pure 103 [usA fa a]) (usA false (N.Zck a)) []:=
 call103 (rTrim _ _ _ (ZgC a.length fa a rfl h))
theorem tdivB (x:Nat):(x:Int).tdiv 1000000000=((x / 1000000000:Nat):Int):=by
 rw [Int.tdiv_eq_ediv_of_nonneg (by omega)];omega
theorem tmodB (x:Nat):(x:Int).tmod 1000000000=((x % 1000000000:Nat):Int):=by
 rw [Int.tmod_eq_emod_of_nonneg (by omega)];omega
theorem le4 {x:Nat} (h:x<1000000000):0<=(x:Int)/\(x:Int)<=4294967295:=by omega
theorem le8 {x:Nat} (h:x<=18446744073709551615):0<=(x:Int)/\(x:Int)<=18446744073709551615:=by omega
theorem limN_step (n u:Nat):N.Zav n u++[((u / 1000000000 ^ n % 1000000000:Nat):Int)]=N.Zav (n+1) u:=(Zd0 n u).symm
theorem loopLimbs {u0:Nat}:∀ (m n v:Nat),m+n=100->u0 / 1000000000 ^ n<1000000000 ^ m->n<=100->(u0 / 1000000000 ^ n ≠ 0\/n=N.cnt u0)->u0<=18446744073709551615 ->
  Zdf (u0 / 1000000000 ^ n:Nat) (N.Zav n u0) v (Zag (usA false (N.lim u0)))
 | 0,n,v,hmn,hlt,hn,hne,hu=>by
  have h0:u0 / 1000000000 ^ n=0:=by simpa using hlt
  rcases hne with h | h
  ·exact absurd h0 h
  ·subst h
   exact rLimbsA _ _ _ _ ⟨fun h=>by omega,fun _ => .refl _⟩
 | m+1,n,v,hmn,hlt,hn,hne,hu=>by
  by_cases h0:u0 / 1000000000 ^ n=0
  ·rcases hne with h | h
   ·exact absurd h0 h
   ·subst h
    exact rLimbsA _ _ _ _ ⟨fun h=>by omega,fun _ => .refl _⟩
  ·have hb:u0 / 1000000000 ^ n<=18446744073709551615:=Nat.le_trans (Nat.div_le_self _ _) hu
   have c3:((u0 / 1000000000 ^ n:Nat):Int).tdiv 1000000000=((u0 / 1000000000 ^ (n+1):Nat):Int):=by
    rw [tdivB,Za5]
   have c4:((u0 / 1000000000 ^ n:Nat):Int).tmod 1000000000=((u0 / 1000000000 ^ n % 1000000000:Nat):Int):=tmodB _
   have hpos:((u0 / 1000000000 ^ n:Nat):Int)>0:=by exact_mod_cast Nat.pos_of_ne_zero h0
   have hb2:u0 / 1000000000 ^ (n+1)<=18446744073709551615:=Nat.le_trans (Nat.div_le_self _ _) hu
   have hm:u0 / 1000000000 ^ n % 1000000000<1000000000:=Nat.mod_lt _ (by omega)
   refine rLimbsA _ _ _ _ ⟨fun _ => ?_,fun h=>absurd hpos h⟩
   have hl:=Zan n u0
   rw [c3,c4,limN_step]
   have hd:=Za5 u0 n
   refine ⟨le4 hm,by omega,le8 hb2,loopLimbs m (n+1) (v+1) (by omega) ?_ (by omega) ?_ hu⟩
   ·rw [<- hd]
    rw [Nat.pow_succ] at hlt
    exact Nat.div_lt_of_lt_mul (by rwa [Nat.mul_comm])
   ·by_cases hz:u0 / 1000000000 ^ (n+1)=0
    ·right
     have f1:N.fits (n+1) u0:=Zdi.2 hz
     have f2:¬N.fits n u0:=fun f=>h0 (Zdi.1 f)
     have:=Zaz.1 f1
     have:¬N.cnt u0<=n:=fun x=>f2 (Zaz.2 x)
     omega
    ·exact .inl hz
theorem ev87 (u:Int) (h:0<=u/\u<=18446744073709551615):Ev M1 (.pure 87 [.int .u64 u]) (usA false (N.lim u.toNat)) []:=by
 obtain ⟨n,rfl⟩:=Int.eq_ofNat_of_zero_le h.1
 rw [Int.toNat_natCast]
 refine call87 (rLimbs _ _ (rLimbs0 _ _ ⟨fun h0 => ?_,fun h0 => ?_⟩))
 ·have hlt:n / 1000000000<1000000000 ^ 99:=by omega
  have hr:=loopLimbs (u0:=n) 99 1 0 (by omega) (by simpa using hlt) (by omega) (by
   by_cases hz:n / 1000000000=0
   ·right
    have f1:N.fits 1 n:=by unfold N.fits;omega
    have:=Zaz.1 f1
    have:N.cnt n ≠ 0:=fun e=>by have:=ZaE.1 e;omega
    omega
   ·left;simpa using hz) (by omega)
  have c3:(n:Int).tdiv 1000000000=((n / 1000000000:Nat):Int):=by
   rw [Int.tdiv_eq_ediv_of_nonneg (by omega)];omega
  have c4:(n:Int).tmod 1000000000=((n % 1000000000:Nat):Int):=by
   rw [Int.tmod_eq_emod_of_nonneg (by omega)];omega
  have e:N.Zav 1 n=[((n % 1000000000:Nat):Int)]:=rfl
  rw [e,Nat.pow_one] at hr
  rw [c3,c4]
  exact ⟨by omega,by omega,hr⟩
 ·have:n=0:=by omega
  subst this
  rw [ZcD];exact .vnil 1
theorem ev125 (fa:Bool) (v:Nat) (h:N.cnt v<=2):Ev M1 (.pure 125 [usA fa (N.lim v)]) (.int .u64 (v:Nat)) []:=by
 have f:=ZaT (Zai v) h
 have hv:v<1000000000000000000:=by unfold N.fits at f;simpa using f
 have loop:∀ k,k<=N.cnt v->Zdd fa (N.lim v) ((v / 1000000000 ^ k:Nat):Int) ((k:Int)-1) (Zag (.int .u64 (v:Nat))):=by
  intro k
  induction k with
  | zero=>intro _;exact rShortA _ _ _ _ _ ⟨fun h=>by omega,fun _=>by simp⟩
  | succ k ih =>
   intro hk
   have e1:(((k+1:Nat):Int)-1)=(k:Nat):=by omega
   have g:(N.lim v).getD k default=((v / 1000000000 ^ k % 1000000000:Nat):Int):=Zaw v (show k<N.cnt v by omega)
   have hs:=ZaY v k
   have hb:v / 1000000000 ^ k<=v:=Nat.div_le_self _ _
   refine rShortA _ _ _ _ _ ⟨fun _ => ?_,fun h=>by omega⟩
   rw [e1,Int.toNat_natCast,g,ZaL]
   have e2:((v / 1000000000 ^ (k+1):Nat):Int)*1000000000+((v / 1000000000 ^ k % 1000000000:Nat):Int)=((v / 1000000000 ^ k:Nat):Int):=by omega
   rw [e2]
   exact ⟨by omega,by omega,by omega,by omega,by omega,by omega,ih (by omega)⟩
 refine call125 (rShort _ _ _ ?_)
 rw [ZaL]
 have:=loop (N.cnt v) (Nat.le_refl _)
 rw [ZaH (Zai v) (Nat.le_refl _)] at this
 exact ⟨by omega,this⟩
theorem ZfC {fa fb:Bool} {n v w:Nat} {dq:AV} (hn:n<=1000000) (hq:AV.int .i64 (N.sgnI ((v:Int)-w))=dq):∀ (k:Nat),k<=n->v / 1000000000 ^ k=w / 1000000000 ^ k->Zcm fa fb (N.Zav n v) (N.Zav n w) ((k:Int)-1) (Zag dq)
 | 0,hk,he=>by
  have e:v=w:=by simpa using he
  refine rCompareA _ _ _ _ _ _ ⟨fun h=>by omega,fun _ => ?_⟩
  rw [<- hq,e]
  congr 1
  unfold N.sgnI
  rw [if_neg (by omega),if_neg (by omega)]
 | k+1,hk,he=>by
  have e1:(((k+1:Nat):Int)-1)=(k:Nat):=by omega
  rw [e1]
  refine rCompareA _ _ _ _ _ _ ⟨fun _ => ?_,fun h=>by omega⟩
  rw [Int.toNat_natCast,Zaw v (show k<n by omega),Zaw w (show k<n by omega),Zan,Zan]
  have s1:=ZaY v k
  have s2:=ZaY w k
  rw [<- he] at s2
  refine ⟨by omega,by omega,by omega,fun h => ?_,fun h=>⟨fun h2 => ?_,fun h2=>⟨by omega,?_⟩⟩⟩
  ·have:=Zf8 (v:=v) (w:=w) (i:=k) (by omega)
   rw [<- hq];congr 1
   unfold N.sgnI
   rw [if_pos (by omega)]
  ·have:=Zf8 (v:=w) (w:=v) (i:=k) (by omega)
   rw [<- hq];congr 1
   unfold N.sgnI
   rw [if_neg (by omega),if_pos (by omega)]
  ·exact ZfC hn hq k (by omega) (by omega)
theorem rcompareN (fa fb:Bool) (v w:Nat) (h:N.Zay (N.cnt v)/\N.Zay (N.cnt w)):Ev M1 (.pure 81 [usA fa (N.lim v),usA fb (N.lim w)]) (.int .i64 (N.sgnI ((v:Int)-w))) []:=by
 obtain ⟨h1,h2⟩:=h
 have h1':N.cnt v<=1000000:=h1
 have h2':N.cnt w<=1000000:=h2
 refine call81 (rCompare _ _ _ _ _ ?_)
 rw [ZaL,ZaL]
 refine ⟨fun h=>⟨fun k => ?_,fun k => ?_⟩,fun h=>⟨by omega,?_⟩⟩
 ·have:=cmp_len (v:=v) (w:=w) (by omega)
  congr 1
  unfold N.sgnI
  rw [if_pos (by omega)]
 ·have:=cmp_len (v:=w) (w:=v) (by omega)
  congr 1
  unfold N.sgnI
  rw [if_neg (by omega),if_pos (by omega)]
 ·have e:N.cnt w=N.cnt v:=by omega
  have hw:N.lim w=N.Zav (N.cnt v) w:=by unfold N.lim;rw [e]
  rw [hw]
  refine ZfC (by omega) rfl (N.cnt v) (Nat.le_refl _) ?_
  rw [ZaH (Zai v) (Nat.le_refl _),ZaH (Zai w) (by omega)]
theorem ev81 (fa fb:Bool) (v w:Int) (h:N.ok v/\N.ok w):Ev M1 (.pure 81 [usA fa (N.Zad v),usA fb (N.Zad w)]) (.int .i64 (N.sgnI ((v.natAbs:Int)-w.natAbs))) []:=rcompareN fa fb _ _ h
theorem ev81_a (fa fb:Bool) (v w:Nat) (h:N.Zay (N.cnt v)/\N.Zay (N.cnt w)):Ev M1 (.pure 81 [usA fa (N.lim v),usA fb (N.lim w)]) (.int .i64 (N.sgnI ((v:Int)-w))) []:=rcompareN fa fb _ _ h
theorem ev110 (fa:Bool) (v:Int):Ev M1 (.pure 110 [bigA fa v]) (.int .i64 (N.sgnI v)) []:=by
 have hl:=Zbz v
 have hc:=ZaE (v:=v.natAbs)
 refine call110 (rSign fa v _ ⟨fun h => ?_,fun h=>⟨fun k => ?_,fun k => ?_⟩⟩)
 ·rw [N.sgnI,if_neg (by omega),if_neg (by omega)]
 ·rw [Zar] at k
  rw [N.sgnI,if_pos k]
 ·rw [Zar] at k
  rw [N.sgnI,if_neg k,if_pos (by omega)]
end Go.Av
