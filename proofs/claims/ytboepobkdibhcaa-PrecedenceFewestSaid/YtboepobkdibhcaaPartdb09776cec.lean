/- PART 5 of the texts of a claim, joined by a program: what each part shows stands at its head. -/
import Derived.Test.YtboepobkdibhcaaPart2bd649b257

namespace Go.Av
open Go.Proofs
theorem ndL_get {n:Nat} {ps:List Pr} {k:Nat} (h:k < n):(Sp.ndL n ps).getD k default = (Sp.nds ps k:Int):=by
 unfold Sp.ndL
 rw [List.getD_eq_getElem?_getD,List.getElem?_map,List.getElem?_range h];rfl
theorem ndL_len (n:Nat) (ps:List Pr):(Sp.ndL n ps).length=n:=by unfold Sp.ndL;simp
abbrev oNo:Nat->Option Ans:=fun _=>none
abbrev rP:AV:=.ptr 0 0 0 0
theorem pow16 {n:Nat} (hn:n <= 16):2 ^ n <= 65536:=by
 have:=Nat.pow_le_pow_right (show 2 > 0 by omega) hn
 omega
section
variable {n:Nat} {ps:List Pr} {tl:List Int} {f:Bool} {w:Int}
theorem open_own (hv:Sp.okV n ps) (hn:n <= 16) {s k:Nat} (hs:s < 2 ^ n) (hk:k < n) (C:List AV) (R:Heap):Wp M1 (.own 42 [rP,.int .i64 s,.int .i64 k] (sH f tl (Sp.ndL n ps) w C R)) (isR (.bool (Sp.opM ps s k)) (sH f tl (Sp.ndL n ps) w C R)):=by
 have hp:=pow16 hn
 have e1:((BitVec.ofInt IntKind.i64.bits ((s:Int).fdiv (2 ^ min ((k:Nat):Int).toNat IntKind.i64.bits)) &&& BitVec.ofInt IntKind.i64.bits 1).toNat:Int) = if s.testBit k = true then 1 else 0:=by
  rw [Int.toNat_natCast,show min k IntKind.i64.bits = k by show min k 64 = k;omega,fdiv_shr]
  have hb:(BitVec.ofInt 64 ((s / 2 ^ k:Nat):Int) &&& BitVec.ofInt 64 1).toNat = s / 2 ^ k % 2:=bv_and1 (by have:=Nat.div_le_self s (2 ^ k);omega)
  have hb':(BitVec.ofInt IntKind.i64.bits ((s / 2 ^ k:Nat):Int) &&& BitVec.ofInt IntKind.i64.bits 1).toNat = s / 2 ^ k % 2:=hb
  rw [hb',shr_bit]
  split <;> rfl
 have hnd:=nds_lt hv (k:Int)
 refine owncall42 (sOp f tl (Sp.ndL n ps) w C R s k _ ⟨by omega,?_,fun _ => ?_,?_,rfl⟩)
 ·rw [e1];split <;> omega
 ·rw [ndL_len,Int.toNat_natCast];exact hk
 ·rw [e1,Int.toNat_natCast,ndL_get hk]
  congr 1
  have e2:(BitVec.ofInt IntKind.i64.bits ((Sp.nds ps k:Nat):Int) &&& ~~~BitVec.ofInt IntKind.i64.bits ((s:Nat):Int)).toNat = 0 ↔ ∀ i,(Sp.nds ps k).testBit i = true -> s.testBit i = true:=bv_andnot (by omega) (by omega)
  have e3:(BitVec.ofInt IntKind.i64.bits ((Sp.nds ps k:Nat):Int) &&& ~~~BitVec.ofInt IntKind.i64.bits ((s:Nat):Int)).toNat <= Sp.nds ps k:=bv_le (by omega)
  rw [w64 _ (by omega)]
  have hop:=opM_bits (ps:=ps) (s:=s) (k:=k)
  cases ht:s.testBit k with
  | true =>
   rw [ht] at hop
   have:Sp.opM ps s k = false:=Bool.eq_false_iff.2 fun h => by have:=(hop.1 h).1;cases this
   rw [this];rfl
  | false =>
   rw [ht] at hop
   rw [if_neg (by simp)]
   show (bif true then _ else false) = _
   rw [cond_true,Bool.eq_iff_iff,hop,beq_iff_eq]
   constructor
   ·intro h
    exact ⟨rfl,e2.1 (by omega)⟩
   ·rintro ⟨_,h⟩
    have:=e2.2 h
    omega
noncomputable def stO1:Array Oper:=match atC (cd Try.f43) [1,0] with
 | .code (.region _ ops _) :: _ => ops
 | _ => #[]
theorem stC1:atC (cd Try.f43) [1,0] = .code (.region 1 stO1 false)::atC (cd Try.f43) [1,1]:=by kernel_rfl
def stX (s k:Int):Int:=IntKind.i64.wrap ((BitVec.ofInt IntKind.i64.bits s ||| BitVec.ofInt IntKind.i64.bits (IntKind.i64.wrap (1*2 ^ (min k.toNat IntKind.i64.bits)))).toNat:Int)
def stE (s t k:Int):Vars:=[(0,rP),(2,.int .i64 t),(3,.int .i64 k),(10,rP),(14,.int .i64 (stX s k)),(15,.int .i64 k)]
theorem stV (s t k:Int) (L:Heap):runV M1 fi43.n stO1 oNo [0,1,2,3,4,5] [0,2,3,10,14,15] [(0,rP),(1,.int .i64 s),(2,.int .i64 t),(3,.int .i64 k)] L=some (stE s t k,L,[decide (0<=k)],[]):=by kernel_rfl
theorem stK (s t k:Int):ZeF stO1 6 (stE s t k)=some (16,52,[rP,.int .i64 (stX s k),.int .i64 k]):=by kernel_rfl
theorem stR:List.range stO1.size=[0,1,2,3,4,5]++6::[7]:=by kernel_rfl
theorem stV2 (s t k o:Int) (L:Heap):runV M1 fi43.n stO1 oNo [7] [0,2,3,9] ((16,.int .i64 o)::stE s t k) L=some ([(0,rP),(2,.int .i64 t),(3,.int .i64 k),(9,.int .i64 o)],L,[],[]):=by kernel_rfl
theorem stX_eq {s k:Nat} (hn:n <= 16) (hs:s < 2 ^ n) (hk:k < n):stX s k = ((s ||| 2 ^ k:Nat):Int):=by
 have hp:=pow16 hn
 have hkp:=Zea hk hn
 unfold stX
 rw [Int.toNat_natCast,show min k IntKind.i64.bits = k by show min k 64 = k;omega,Int.one_mul]
 have hpw:((2:Int) ^ k) = ((2 ^ k:Nat):Int):=by simp
 rw [hpw]
 clear hpw
 revert hkp
 generalize hq:2 ^ k = q
 intro hkp
 have hsq:s ||| q < 2 ^ 17:=Nat.or_lt_two_pow (by omega) (by omega)
 rw [w64 ((q:Nat):Int) (by omega)]
 have e:(BitVec.ofInt IntKind.i64.bits ((s:Nat):Int) ||| BitVec.ofInt IntKind.i64.bits ((q:Nat):Int)).toNat = s ||| q:=bv_or (by omega) (by omega)
 rw [e,w64]
 omega
def HB (n:Nat) (ps:List Pr) (tl:List Int) (f:Bool) (w:Int) (C:List AV) (R:Heap):Prop:=∃ M ρ,MX3 (sH f tl (Sp.ndL n ps) w C R) C M ρ/\MemoM n ps tl M
def RestOk (n:Nat) (ps:List Pr) (tl:List Int) (f:Bool) (w:Int) (c:Nat):Prop:=∀ (s t:Nat) (C:List AV) (R:Heap),Sp.ZeM n ps c s -> t < n -> HB n ps tl f w C R ->
 Wp M1 (.own 52 [rP,.int .i64 s,.int .i64 t] (sH f tl (Sp.ndL n ps) w C R)) (fun x L1 => x = .int .i64 (Sp.rv n ps tl c s (some (t:Int)):Nat) /\ BW (Memo n ps tl) (sH f tl (Sp.ndL n ps) w C R) L1)
def tOk (n:Nat) (x:Int) (t:Option Int):Prop:=(x = -1/\t=none) \/ ∃ y:Nat,y<n/\x=y/\t=some (y:Int)
theorem step_of (hv:Sp.okV n ps) (hc:¬Sp.cyc n ps) (hn:n <= 16) (htl:tl.length = n) {c:Nat} (hR:RestOk n ps tl f w c) {s k:Nat} {x:Int} {t:Option Int} {C:List AV} {R:Heap} (hg:Sp.ZeM n ps (c + 1) s) (hk:k < n) (ho:Sp.opM ps s k = true) (ht:tOk n x t) (hB:HB n ps tl f w C R) :
  Wp M1 (.own 43 [rP,.int .i64 s,.int .i64 x,.int .i64 k] (sH f tl (Sp.ndL n ps) w C R)) (fun v L1 => v = .int .i64 (Sp.rv n ps tl c (s ||| 2 ^ k) (some (k:Int)) + Sp.cg1 tl t k:Nat) /\ BW (Memo n ps tl) (sH f tl (Sp.ndL n ps) w C R) L1):=by
 have hgo:=Zcq hv hg hk ho
 have hrv:=Zc9 (tl:=tl) hv hc c _ (some (k:Int)) hgo
 have hcn:c <= n:=by obtain ⟨O,_,e,_⟩:=hg;omega
 refine owncall43 (sS0 f tl (Sp.ndL n ps) w C R s x k _ ?_)
 rw [stC1]
 refine Zcv (Qc:=fun v L1 => v = .int .i64 (Sp.rv n ps tl c (s ||| 2 ^ k) (some (k:Int)):Nat) /\ BW (Memo n ps tl) (sH f tl (Sp.ndL n ps) w C R) L1) hm1 [0,1,2,3,4,5] [7] [0,2,3,10,14,15] [0,2,3,9] 6 stR (stV _ _ _ _) (Zaf (decide_eq_true (by omega)) Zak) Zal (stK _ _ _) (by decide) (by rw [stX_eq hn (Zci hg) hk];exact hR _ k C R hgo hk hB) fun v L2 ⟨e,hb⟩ => ?_
 subst e
 obtain ⟨M,ρ,hx,hM⟩:=hB
 obtain ⟨R2,rfl⟩:=hb.shape hx
 refine ⟨_,_,_,_,stV2 _ _ _ _ _,Zak,Zal,?_⟩
 refine sS1 f tl (Sp.ndL n ps) w C R2 x k _ _ ⟨fun h => h,fun h => ?_,fun _ => by omega,fun _ => by rw [Int.toNat_natCast];omega,fun h => ⟨by omega,?_,hb⟩,fun h => ⟨?_,hb⟩⟩
 ·rcases ht with ⟨rfl,_⟩ | ⟨y,hy,rfl,_⟩
  ·omega
  ·rw [Int.toNat_natCast];omega
 ·rcases ht with ⟨rfl,_⟩ | ⟨y,hy,rfl,rfl⟩
  ·omega
  ·unfold Sp.cg1
   simp only
   rw [if_neg h.2];rfl
 ·rcases ht with ⟨rfl,rfl⟩ | ⟨y,hy,rfl,rfl⟩
  ·rfl
  ·unfold Sp.cg1
   simp only
   rw [if_pos (Classical.byContradiction fun z => h ⟨by omega,z⟩)];rfl
noncomputable def reO10:Array Oper:=match atC (cd Try.f52) [1,1,1,1,0,1,0,0,1,1,0,0,1,0] with
 | .code (.region _ ops _) :: _ => ops
 | _ => #[]
noncomputable def reO11:Array Oper:=match atC (cd Try.f52) [1,1,1,1,0,1,0,0,1,1,0,0,1,1,0] with
 | .code (.region _ ops _) :: _ => ops
 | _ => #[]
theorem reC10:atC (cd Try.f52) [1,1,1,1,0,1,0,0,1,1,0,0,1,0] = .code (.region 10 reO10 false)::atC (cd Try.f52) [1,1,1,1,0,1,0,0,1,1,0,0,1,1]:=by kernel_rfl
theorem reC11:atC (cd Try.f52) [1,1,1,1,0,1,0,0,1,1,0,0,1,1,0] = .code (.region 11 reO11 false) :: .inBlock 1::atC (cd Try.f52) [1,1,1,1,0,1,0,0,1,1,1]:=by kernel_rfl
def reE (s t b m i:Int):Vars:=[(0,rP),(1,.int .i64 s),(2,.int .i64 t),(8,.int .i64 b),(9,.int .i64 i),(39,.int .i64 m),(40,.int .i64 i)]
def reE1 (s t b m i:Int):Vars:=[(0,rP),(1,.int .i64 s),(2,.int .i64 t),(8,.int .i64 b),(9,.int .i64 i),(39,.int .i64 m),(40,.int .i64 i),(43,rP),(44,.int .i64 s),(45,.int .i64 i)]
theorem reV10 (s t b m i:Int) (L:Heap):runV M1 fi52.n reO10 oNo [0,1,2] [0,1,2,8,9,39,40,43,44,45] (reE s t b m i) L=some (reE1 s t b m i,L,[],[]):=by kernel_rfl
theorem reK10 (s t b m i:Int):ZeF reO10 3 (reE1 s t b m i)=some (46,42,[rP,.int .i64 s,.int .i64 i]):=by kernel_rfl
theorem reR10:List.range reO10.size=[0,1,2]++3::[]:=by kernel_rfl
theorem reW10 (s t b m i:Int) (o:Bool) (L:Heap):runV M1 fi52.n reO10 oNo [] [0,1,2,8,9,39,40,46] ((46,.bool o)::reE1 s t b m i) L=some (reE s t b m i++[(46,.bool o)],L,[],[]):=by kernel_rfl
def reE2 (s t b m i:Int):Vars:=[(0,rP),(1,.int .i64 s),(2,.int .i64 t),(39,.int .i64 m),(40,.int .i64 i),(47,.int .i64 b),(48,rP),(49,.int .i64 s),(50,.int .i64 t),(51,.int .i64 i)]
theorem reV11 (s t b m i:Int) (o:Bool) (L:Heap):runV M1 fi52.n reO11 oNo [0,1,2,3,4] [0,1,2,39,40,47,48,49,50,51] (reE s t b m i++[(46,.bool o)]) L=some (reE2 s t b m i,L,[],[]):=by kernel_rfl
theorem reK11 (s t b m i:Int):ZeF reO11 5 (reE2 s t b m i)=some (52,43,[rP,.int .i64 s,.int .i64 t,.int .i64 i]):=by kernel_rfl
theorem reR11:List.range reO11.size=[0,1,2,3,4]++5::[6,7]:=by kernel_rfl
theorem reW11 (s t b m i o:Int) (L:Heap):runV M1 fi52.n reO11 oNo [6,7] [0,1,2,8,39,40] ((52,.int .i64 o)::reE2 s t b m i) L=some ([(0,rP),(1,.int .i64 s),(2,.int .i64 t),(8,.int .i64 (if o<b then o else b)),(39,.int .i64 m),(40,.int .i64 i)],L,[],[]):=by kernel_rfl
end
end Go.Av

namespace Go.Av
open Go.Proofs
abbrev sW (n:Nat):Int:=((2 ^ n-1:Nat):Int)
section
variable {n:Nat} {ps:List Pr} {tl:List Int} {f:Bool} {w:Int}
theorem HB.of {C:List AV} {R:Heap} (h:Memo n ps tl (sH f tl (Sp.ndL n ps) w C R)):HB n ps tl f w C R:=by
 obtain ⟨C',M,ρ,hx,hM⟩:=h
 have e:=mx_out hx rfl
 subst e
 exact ⟨M,ρ,hx,hM⟩
theorem HB.memo {C:List AV} {R:Heap} (h:HB n ps tl f w C R):Memo n ps tl (sH f tl (Sp.ndL n ps) w C R):=by
 obtain ⟨M,ρ,hx,hM⟩:=h
 exact ⟨C,M,ρ,hx,hM⟩
theorem Zd1 {C C':List AV} {R L':Heap} {M:List (Option Row)} {ρ:Nat -> Nat} {nd:List Int} {z:Row} (h:MX3 L' C' M ρ) (hf:∀ r,r < 3 -> r ∉ [2] -> L'[r]? = (sH f tl nd w C R)[r]?) (h3:L'[3]? = some z):∃ R',L' = sH f tl nd w C' (z :: R'):=by
 obtain ⟨R',rfl⟩:=sH_shape h hf
 match R',h3 with
 | y :: R',h3 =>
  have:y = z:=Option.some.inj h3
  exact ⟨R',by rw [this]⟩
def bvF (n:Nat) (ps:List Pr) (tl:List Int) (c s t:Nat) (b k:Nat):Nat:=if Sp.opM ps s k=true then min b (Sp.rv n ps tl c (s ||| 2 ^ k) (some (k:Int))+Sp.cg1 tl (some (t:Int)) k) else b
def bv (n:Nat) (ps:List Pr) (tl:List Int) (c s t i:Nat):Nat:=(List.range i).foldl (bvF n ps tl c s t) n
theorem bv_succ (c s t i:Nat):bv n ps tl c s t (i + 1) = bvF n ps tl c s t (bv n ps tl c s t i) i:=by
 unfold bv
 rw [List.range_succ,List.foldl_append];rfl
theorem bv_end (c s t:Nat):bv n ps tl c s t n=Sp.rv n ps tl (c+1) s (some (t:Int)):=rfl
theorem bvm_le (c s t:Nat):∀ i,bv n ps tl c s t i <= n
 | 0 => Nat.le_refl _
 | i + 1 => by
  rw [bv_succ]
  have:=bvm_le c s t i
  unfold bvF
  split
  ·omega
  ·exact this
theorem memoV_set {c s t b:Nat} {v:List Int} (hg:Sp.ZeM n ps c s) (h:MemoV n ps tl t v) (hb:b = Sp.rv n ps tl c s (some (t:Int))):MemoV n ps tl t (v.set s ((b:Int) + 1)):=by
 refine ⟨by rw [List.length_set];exact h.1,fun c' s' hg' => ?_⟩
 rw [List.getD_eq_getElem?_getD,List.getElem?_set]
 by_cases e:s = s'
 ·subst e
  rw [if_pos rfl,if_pos (by rw [h.1];exact Zci hg),Option.getD_some,good_c hg' hg,hb]
  exact .inr rfl
 ·rw [if_neg e,<- List.getD_eq_getElem?_getD]
  exact h.2 c' s' hg'
theorem memoM_set {t:Nat} {v:List Int} {M:List (Option Row)} (h:MemoM n ps tl M) (ht:t < n) (hv:MemoV n ps tl t v):MemoM n ps tl (M.set t (some (iR v))):=by
 refine ⟨by rw [List.length_set];exact h.1,fun u hu => ?_⟩
 rw [List.getElem?_set]
 by_cases e:t = u
 ·subst e
  rw [if_pos rfl,if_pos (by rw [h.1];exact hu)]
  exact ⟨v,rfl,hv⟩
 ·rw [if_neg e]
  exact h.2 u hu
theorem rest_end {c s t:Nat} (hn:n <= 16) (hg:Sp.ZeM n ps (c + 1) s) (ht:t < n) {C:List AV} {R:Heap} (hB:HB n ps tl f w C R) {b:Nat} (hb:b = Sp.rv n ps tl (c + 1) s (some (t:Int))) (hbn:b <= n) :
  Wp M1 (.run fi52 (atC (cd Try.f52) [1,1,1,1,1,0]) [(0,rP),(1,.int .i64 s),(2,.int .i64 t),(8,.int .i64 b)] (sH f tl (Sp.ndL n ps) w C R)) (fun x L1 => x = .int .i64 b /\ BW (Memo n ps tl) (sH f tl (Sp.ndL n ps) w C R) L1):=by
 obtain ⟨M,ρ,hx,hM⟩:=hB
 obtain ⟨v,hv1,hv2⟩:=hM.2 t ht
 refine wp_focB (fun p q L1 => memo_swap p q L1) hx rfl hv1 rfl fun L' C' ρ' hx' h3 hρ hf => ?_
 obtain ⟨R',rfl⟩:=Zd1 hx' hf h3
 have hC:=(hx'.hit 2 (by simp) t _ hv1).1
 rw [hρ] at hC
 have hCl:C'.length = n:=by rw [(hx'.out 2 (by simp)).2];exact hM.1
 have hsl:=Zci hg
 have hup:=Zdp (Mx.upd hx' (u:=2) (a:=t) (by simp) hv1 (rb:=iR (v.set s ((b:Int) + 1))) rfl rfl)
 rw [if_pos rfl,hρ] at hup
 refine sRE f tl (Sp.ndL n ps) w C' R' s t b v _ ⟨by omega,by rw [Int.toNat_natCast];omega,by omega,by rw [Int.toNat_natCast,hv2.1];exact hsl,by rw [Int.toNat_natCast];exact hC,by omega,rfl,rfl,fun r hr => ?_,?_⟩
 ·have h3r:r ≠ 3:=fun e => hr (by rw [e];have:=refs2_hit hx' hv1;rw [hρ] at this;exact this)
  rw [Int.toNat_natCast]
  show ((sH f tl (Sp.ndL n ps) w C' (iR v :: R')).set 3 (iR (v.set s ((b:Int) + 1))))[r]? = _
  rw [List.getElem?_set,if_neg fun e => h3r e.symm]
 ·rw [Int.toNat_natCast]
  exact ⟨C',_,_,hup,memoM_set hM ht (memoV_set hg hv2 hb)⟩
theorem rest_loop (hv:Sp.okV n ps) (hc:¬Sp.cyc n ps) (hn:n <= 16) (htl:tl.length = n) {c:Nat} (hR:RestOk n ps tl f w c) {s t:Nat} (hg:Sp.ZeM n ps (c + 1) s) (ht:t < n) {C:List AV} {R0:Heap} {M0:List (Option Row)} {ρ0:Nat -> Nat} (hx0:MX3 (sH f tl (Sp.ndL n ps) w C R0) C M0 ρ0) :
  ∀ (d i:Nat) (R:Heap),i + d = n -> HB n ps tl f w C R -> BW (Memo n ps tl) (sH f tl (Sp.ndL n ps) w C R0) (sH f tl (Sp.ndL n ps) w C R) ->
   Zge f tl (Sp.ndL n ps) w C R s t (bv n ps tl c s t i:Nat) n i (fun x L1 => x = .int .i64 (Sp.rv n ps tl (c + 1) s (some (t:Int)):Nat) /\ BW (Memo n ps tl) (sH f tl (Sp.ndL n ps) w C R0) L1):=by
 intro d
 induction d with
 | zero =>
  intro i R hi hB hb
  have hi:i = n:=by omega
  subst hi
  have hbl:=bvm_le (n:=i) (ps:=ps) (tl:=tl) c s t i
  refine sRL _ _ _ _ _ _ _ _ _ _ _ _ ⟨fun z => absurd z (by omega),fun _ => ?_⟩
  rw [bv_end] at hbl ⊢
  exact .mono (rest_end hn hg ht hB rfl hbl) fun x L1 h => ⟨h.1,hb.trans hx0 h.2⟩
 | succ d ih =>
  intro i R hi hB hb
  have hil:i < n:=by omega
  have hbl:=bvm_le (n:=n) (ps:=ps) (tl:=tl) c s t i
  refine sRL _ _ _ _ _ _ _ _ _ _ _ _ ⟨fun _ => ?_,fun z => absurd (by omega) z⟩
  rw [reC10]
  refine Zcv (Qc:=isR (.bool (Sp.opM ps s i)) (sH f tl (Sp.ndL n ps) w C R)) hm1 [0,1,2] [] [0,1,2,8,9,39,40,43,44,45] [0,1,2,8,9,39,40,46] 3 reR10 (reV10 _ _ _ _ _ _) Zak Zal (reK10 _ _ _ _ _) (by decide) (open_own hv hn (Zci hg) hil C R) fun v L2 ⟨e1,e2⟩ => ?_
  subst e1;subst e2
  refine ⟨_,_,_,_,reW10 _ _ _ _ _ _ _,Zak,Zal,?_⟩
  refine sRC f tl (Sp.ndL n ps) w C R s t (bv n ps tl c s t i:Nat) n i i (Sp.opM ps s i) _ ⟨fun ho => ?_,fun ho => ⟨by omega,?_⟩⟩
  ·rw [reC11]
   have hrv:=Zc9 (tl:=tl) hv hc c _ (some (i:Int)) (Zcq hv hg hil ho)
   have hcg:=cg1_le (tl:=tl) (some (t:Int)) (i:Int)
   refine Zcv (Qc:=fun v L1 => v = .int .i64 (Sp.rv n ps tl c (s ||| 2 ^ i) (some (i:Int)) + Sp.cg1 tl (some (t:Int)) i:Nat) /\ BW (Memo n ps tl) (sH f tl (Sp.ndL n ps) w C R) L1) hm1 [0,1,2,3,4] [6,7] [0,1,2,39,40,47,48,49,50,51] [0,1,2,8,39,40] 5 reR11 (reV11 _ _ _ _ _ _ _) Zak Zal (reK11 _ _ _ _ _) (by decide)
    (step_of hv hc hn htl hR hg hil ho (.inr ⟨t,ht,rfl,rfl⟩) hB) fun v L2 ⟨e,h2⟩ => ?_
   subst e
   obtain ⟨M,ρ,hx,hM⟩:=hB
   obtain ⟨R2,rfl⟩:=h2.shape hx
   refine ⟨_,_,_,_,reW11 _ _ _ _ _ _ _,Zak,Zal,.inBlock ?_⟩
   refine sRN f tl (Sp.ndL n ps) w C R2 s t _ n i _ ⟨by omega,?_⟩
   have hn2:=ih (i + 1) R2 (by omega) (HB.of h2.2.2) (hb.trans hx0 h2)
   rw [bv_succ] at hn2
   unfold bvF at hn2
   rw [if_pos ho] at hn2
   have e:(if ((Sp.rv n ps tl c (s ||| 2 ^ i) (some (i:Int)) + Sp.cg1 tl (some (t:Int)) i:Nat):Int) < (bv n ps tl c s t i:Nat) then ((Sp.rv n ps tl c (s ||| 2 ^ i) (some (i:Int)) + Sp.cg1 tl (some (t:Int)) i:Nat):Int) else (bv n ps tl c s t i:Nat)) = ((min (bv n ps tl c s t i) (Sp.rv n ps tl c (s ||| 2 ^ i) (some (i:Int)) + Sp.cg1 tl (some (t:Int)) i):Nat):Int):=by
    split <;> omega
   rw [e]
   exact hn2
  ·have hn2:=ih (i + 1) R (by omega) hB hb
   rw [bv_succ] at hn2
   unfold bvF at hn2
   rw [if_neg ho] at hn2
   exact hn2
theorem rest_ok (hv:Sp.okV n ps) (hc:¬Sp.cyc n ps) (hn:n <= 16) (htl:tl.length = n):∀ c,RestOk n ps tl f (sW n) c
 | 0,s,t,C,R,hg,ht,hB => by
  have:=good_full hg
  refine owncall52 (sR0 f tl (Sp.ndL n ps) (sW n) C R s t _ ⟨fun _ => ⟨rfl,BW.refl hB.memo⟩,fun h => absurd (by rw [this]) h⟩)
 | c + 1,s,t,C,R,hg,ht,hB => by
  have hnf:=Zc2 hv hc hg
  have hsl:=Zci hg
  have hm:=hB
  obtain ⟨M,ρ,hx,hM⟩:=hB
  obtain ⟨v,hv1,hv2⟩:=hM.2 t ht
  refine owncall52 (sR0 f tl (Sp.ndL n ps) (sW n) C R s t _ ⟨fun h => absurd (Int.ofNat.inj h) hnf,fun _ => ?_⟩)
  refine wp_focB (fun p q L1 => memo_swap p q L1) hx rfl hv1 rfl fun L' C' ρ' hx' h3 hρ hf => ?_
  obtain ⟨R',rfl⟩:=Zd1 hx' hf h3
  have hC:=(hx'.hit 2 (by simp) t _ hv1).1
  rw [hρ] at hC
  have hCl:C'.length = n:=by rw [(hx'.out 2 (by simp)).2];exact hM.1
  have hm':Memo n ps tl (sH f tl (Sp.ndL n ps) (sW n) C' (iR v :: R')):=⟨C',M,ρ',hx',hM⟩
  have hrv:=Zc9 (tl:=tl) hv hc (c + 1) s (some (t:Int)) hg
  have hcn:c + 1 <= n:=by obtain ⟨O,_,e,_⟩:=hg;omega
  refine sR3 f tl (Sp.ndL n ps) (sW n) C' R' s t v _ ⟨by omega,by rw [Int.toNat_natCast];omega,by omega,by rw [Int.toNat_natCast,hv2.1];exact hsl,by rw [Int.toNat_natCast];exact hC,fun hp => ?_,fun hp => ?_⟩
  ·rw [Int.toNat_natCast] at hp ⊢
   rcases hv2.2 _ _ hg with h0 | h0
   ·omega
   ·rw [h0]
    exact ⟨by omega,by congr 1;omega,BW.refl hm'⟩
  ·have:=rest_loop (f:=f) (w:=sW n) hv hc hn htl (rest_ok hv hc hn htl c) hg ht hx' n 0 (iR v :: R') (by omega) (HB.of hm') (BW.refl hm')
   rw [htl]
   exact this
end
end Go.Av

namespace Go.Av
open Go.Proofs
set_option maxRecDepth 100000
def fi24:Fi:=⟨126,[.tmp 6,.tmp 7,.tmp 8]⟩
def kp24:List (Nat × List Nat):=[(0,[0,1,2]),(1,[0,1,2,9]),(2,[0,1,2,9,28]),(3,[6,7,8]),(4,[0,1,2,33]),(5,[6,7,8]),(6,[0,1,2,35]),(7,[6,7,8]),(8,[0,1,2,11]),(9,[0,1,2,11,43]),(10,[6,7,8]),(11,[0,1,12]),(12,[0,1,12,56,57]),(13,[0,1,12,56,57,58]),(14,[0,1,12,13,56,57]),(15,[0,1,12,56,57]),(16,[0,1,12,56,57]),(17,[0,12,68,69,70]),(18,[0,12,68,69,70,71]),(19,[0,12,15,68,69,70]),(20,[0,12,68,69,70]),(21,[0,12,68,69,70]),(22,[0,12,16]),(23,[0,12,16,17]),(24,[0,12,16,17,18,19]),(25,[0,12,16,17,18,19,89]),(26,[0,12,16,17,18,19,20,21]),(27,[0,12,16,17,18,19,20,21,90,91]),(28,[0,12,16,17,18,19,20,21,90,91,92]),(29,[0,12,16,17,18,19,20,21,22,90,91]),(30,[0,12,16,17,18,19,20,21,22,90,91,97]),(31,[0,12,16,17,18,19,20,21,22,23,90,91]),(32,[0,12,16,17,18,19,20,21,22,23,90,91,108]),(33,[0,12,16,17,18,19,20,21,90,91]),(34,[0,12,16,17,18,19,20,21,90,91]),(35,[0,12,16,17,18,20,21,113]),(36,[0,12,16,17,18,20]),(37,[0,12,16,17,18,20]),(38,[0,12,16,17,18,19]),(39,[6,7,8])]
def zB_at (n:Int) (f g:Bool) (ps:List Pr) (tl:List Int) (Q:AV->Heap->Prop):Prop:=Wp M1 (.run fi24 (atC (cd Try.f24) []) [(0,.int .i64 n),(1,.vec g 2 (ps.map Pr.v)),(2,.vec f 1 (tl.map (.int .i64)))] []) Q
def zB0_at (f g:Bool) (Q:AV->Heap->Prop):Prop:=Wp M1 (.run fi24 (atC (cd Try.f24) [1,1,1,1,1,1]) [(0,.int .i64 0),(1,.vec g 2 (([]:List Pr).map Pr.v)),(12,.ptr 0 0 0 0)] [⟨[.agg [.row 1 0,.vec f 1 (([]:List Int).map (.int .i64)),.int .i64 0,.row 2 0]],4,0,false,false⟩,⟨([]:List Int).map (.int .i64),1,0,false,true⟩,⟨[],1,0,false,true⟩]) Q
def zB0a_at (f g:Bool) (Q:AV->Heap->Prop):Prop:=Wp M1 (.run fi24 (atC (cd Try.f24) [1,1,1,1,1,1,0,1,0,0]) [(0,.int .i64 0),(1,.vec g 2 (([]:List Pr).map Pr.v)),(12,.ptr 0 0 0 0),(56,.int .i64 0),(57,.int .i64 0)] [⟨[.agg [.row 1 0,.vec f 1 (([]:List Int).map (.int .i64)),.int .i64 0,.row 2 0]],4,0,false,false⟩,⟨([]:List Int).map (.int .i64),1,0,false,true⟩,⟨[],1,0,false,true⟩]) Q
def zB0b_at (f g:Bool) (Q:AV->Heap->Prop):Prop:=Wp M1 (.run fi24 (atC (cd Try.f24) [1,1,1,1,1,1,1,0,1,0,0]) [(0,.int .i64 0),(12,.ptr 0 0 0 0),(68,.vec g 2 (([]:List Pr).map Pr.v)),(69,.int .i64 0),(70,.int .i64 0)] [⟨[.agg [.row 1 0,.vec f 1 (([]:List Int).map (.int .i64)),.int .i64 0,.row 2 0]],4,0,false,false⟩,⟨([]:List Int).map (.int .i64),1,0,false,true⟩,⟨[],1,0,false,true⟩]) Q
def zB0c_at (f:Bool) (Q:AV->Heap->Prop):Prop:=Wp M1 (.run fi24 (atC (cd Try.f24) [1,1,1,1,1,1,1,1,1,1,0,1,0,0]) [(0,.int .i64 0),(12,.ptr 0 0 0 0),(16,.vnil),(17,.int .i64 0),(18,.int .i64 0),(19,.int .i64 (-1))] [⟨[.agg [.row 1 0,.vec f 1 (([]:List Int).map (.int .i64)),.int .i64 0,.row 2 0]],4,0,false,false⟩,⟨([]:List Int).map (.int .i64),1,0,false,true⟩,⟨[],1,0,false,true⟩]) Q
def zBi_at (f g:Bool) (ps:List Pr) (tl nd:List Int) (n w:Int) (C:List AV) (R:Heap) (Q:AV->Heap->Prop):Prop:=Wp M1 (.run fi24 (atC (cd Try.f24) [1,1,1,1,1,1]) [(0,.int .i64 n),(1,.vec g 2 (ps.map Pr.v)),(12,.ptr 0 0 0 0)] (⟨[.agg [.row 1 0,.vec f 1 (tl.map (.int .i64)),.int .i64 w,.row 2 0]],4,0,false,false⟩::⟨nd.map (.int .i64),1,0,false,true⟩::⟨C,1,0,false,true⟩::R)) Q
def zBA0_at (f g:Bool) (ps:List Pr) (tl nd:List Int) (n w:Int) (C:List AV) (R:Heap) (m i:Int) (Q:AV->Heap->Prop):Prop:=Wp M1 (.run fi24 (atC (cd Try.f24) [1,1,1,1,1,1,0,1,0,0]) [(0,.int .i64 n),(1,.vec g 2 (ps.map Pr.v)),(12,.ptr 0 0 0 0),(56,.int .i64 m),(57,.int .i64 i)] (⟨[.agg [.row 1 0,.vec f 1 (tl.map (.int .i64)),.int .i64 w,.row 2 0]],4,0,false,false⟩::⟨nd.map (.int .i64),1,0,false,true⟩::⟨C,1,0,false,true⟩::R)) Q
def zBA_at (f g:Bool) (ps:List Pr) (tl nd:List Int) (n w:Int) (C:List AV) (R:Heap) (m i:Int) (Q:AV->Heap->Prop):Prop:=Wp M1 (.run fi24 (atC (cd Try.f24) [1,1,1,1,1,1,0,1,0,0]) [(0,.int .i64 n),(1,.vec g 2 (ps.map Pr.v)),(12,.ptr 0 0 0 0),(56,.int .i64 m),(57,.int .i64 i)] (⟨[.agg [.row 1 0,.vec f 1 (tl.map (.int .i64)),.int .i64 w,.row 2 0]],4,0,false,false⟩::⟨nd.map (.int .i64),1,0,false,true⟩::⟨C,1,0,false,false⟩::R)) Q
def Ze1 (f g:Bool) (ps:List Pr) (tl nd:List Int) (n w:Int) (C:List AV) (R:Heap) (m i:Int) (Q:AV->Heap->Prop):Prop:=Wp M1 (.run fi24 (atC (cd Try.f24) [1,1,1,1,1,1,1,0,1,0,0]) [(0,.int .i64 n),(12,.ptr 0 0 0 0),(68,.vec g 2 (ps.map Pr.v)),(69,.int .i64 m),(70,.int .i64 i)] (⟨[.agg [.row 1 0,.vec f 1 (tl.map (.int .i64)),.int .i64 w,.row 2 0]],4,0,false,false⟩::⟨nd.map (.int .i64),1,0,false,true⟩::⟨C,1,0,false,false⟩::R)) Q
def zBP_at (f g:Bool) (ps:List Pr) (tl nd:List Int) (n w:Int) (C:List AV) (R:Heap) (m i:Int) (p:Pr) (Q:AV->Heap->Prop):Prop:=Wp M1 (.run fi24 (atC (cd Try.f24) [1,1,1,1,1,1,1,0,1,0,0,1,1,0,0,1]) [(0,.int .i64 n),(12,.ptr 0 0 0 0),(15,.ptr 3 0 0 0),(68,.vec g 2 (ps.map Pr.v)),(69,.int .i64 m),(70,.int .i64 i)] (⟨[.agg [.row 1 0,.vec f 1 (tl.map (.int .i64)),.int .i64 w,.row 2 0]],4,0,false,false⟩::⟨nd.map (.int .i64),1,0,false,true⟩::⟨C,1,0,false,false⟩::⟨[.agg [.int .i64 p.a,.int .i64 p.b]],2,0,false,false⟩::R)) Q
def zCN_at (f:Bool) (tl nd:List Int) (w n:Int) (C:List AV) (R:Heap) (ch s t:Int) (Q:AV->Heap->Prop):Prop:=Wp M1 (.run fi24 (atC (cd Try.f24) [1,1,1,1,1,1,1,1,1,1,0,1,0,0]) [(0,.int .i64 n),(12,.ptr 0 0 0 0),(16,.vnil),(17,.int .i64 ch),(18,.int .i64 s),(19,.int .i64 t)] (⟨[.agg [.row 1 0,.vec f 1 (tl.map (.int .i64)),.int .i64 w,.row 2 0]],4,0,false,false⟩::⟨nd.map (.int .i64),1,0,false,true⟩::⟨C,1,0,false,false⟩::R)) Q
def Zez (f:Bool) (tl nd:List Int) (w n:Int) (C:List AV) (R:Heap) (ch s t:Int) (b l m i:Int) (Q:AV->Heap->Prop):Prop:=Wp M1 (.run fi24 (atC (cd Try.f24) [1,1,1,1,1,1,1,1,1,1,0,1,0,0,1,0,1,0,1,0,0]) [(0,.int .i64 n),(12,.ptr 0 0 0 0),(16,.vnil),(17,.int .i64 ch),(18,.int .i64 s),(19,.int .i64 t),(20,.int .i64 b),(21,.int .i64 l),(90,.int .i64 m),(91,.int .i64 i)] (⟨[.agg [.row 1 0,.vec f 1 (tl.map (.int .i64)),.int .i64 w,.row 2 0]],4,0,false,false⟩::⟨nd.map (.int .i64),1,0,false,true⟩::⟨C,1,0,false,false⟩::R)) Q
def zDoN_at (f:Bool) (tl nd:List Int) (w n:Int) (C:List AV) (R:Heap) (ch s t:Int) (b l m i:Int) (k:Int) (o:Bool) (Q:AV->Heap->Prop):Prop:=Wp M1 (.run fi24 (atC (cd Try.f24) [1,1,1,1,1,1,1,1,1,1,0,1,0,0,1,0,1,0,1,0,0,1,1,0,0,1,0,1]) [(0,.int .i64 n),(12,.ptr 0 0 0 0),(16,.vnil),(17,.int .i64 ch),(18,.int .i64 s),(19,.int .i64 t),(20,.int .i64 b),(21,.int .i64 l),(22,.int .i64 k),(90,.int .i64 m),(91,.int .i64 i),(97,.bool o)] (⟨[.agg [.row 1 0,.vec f 1 (tl.map (.int .i64)),.int .i64 w,.row 2 0]],4,0,false,false⟩::⟨nd.map (.int .i64),1,0,false,true⟩::⟨C,1,0,false,false⟩::R)) Q
def zDvN_at (f:Bool) (tl nd:List Int) (w n:Int) (C:List AV) (R:Heap) (ch s t:Int) (b l m i:Int) (k c:Int) (Q:AV->Heap->Prop):Prop:=Wp M1 (.run fi24 (atC (cd Try.f24) [1,1,1,1,1,1,1,1,1,1,0,1,0,0,1,0,1,0,1,0,0,1,1,0,0,1,1,1]) [(0,.int .i64 n),(12,.ptr 0 0 0 0),(16,.vnil),(17,.int .i64 ch),(18,.int .i64 s),(19,.int .i64 t),(20,.int .i64 b),(21,.int .i64 l),(22,.int .i64 k),(23,.int .i64 c),(90,.int .i64 m),(91,.int .i64 i)] (⟨[.agg [.row 1 0,.vec f 1 (tl.map (.int .i64)),.int .i64 w,.row 2 0]],4,0,false,false⟩::⟨nd.map (.int .i64),1,0,false,true⟩::⟨C,1,0,false,false⟩::R)) Q
def zCR_at (f:Bool) (tl nd:List Int) (w n:Int) (C:List AV) (R:Heap) (O:List Int) (v:Nat) (ch s t:Int) (Q:AV->Heap->Prop):Prop:=Wp M1 (.run fi24 (atC (cd Try.f24) [1,1,1,1,1,1,1,1,1,1,0,1,0,0]) [(0,.int .i64 n),(12,.ptr 0 0 0 0),(16,.row 3 v),(17,.int .i64 ch),(18,.int .i64 s),(19,.int .i64 t)] (⟨[.agg [.row 1 0,.vec f 1 (tl.map (.int .i64)),.int .i64 w,.row 2 0]],4,0,false,false⟩::⟨nd.map (.int .i64),1,0,false,true⟩::⟨C,1,0,false,false⟩::⟨O.map (.int .i64),1,v,false,true⟩::R)) Q
def Zey (f:Bool) (tl nd:List Int) (w n:Int) (C:List AV) (R:Heap) (O:List Int) (v:Nat) (ch s t:Int) (b l m i:Int) (Q:AV->Heap->Prop):Prop:=Wp M1 (.run fi24 (atC (cd Try.f24) [1,1,1,1,1,1,1,1,1,1,0,1,0,0,1,0,1,0,1,0,0]) [(0,.int .i64 n),(12,.ptr 0 0 0 0),(16,.row 3 v),(17,.int .i64 ch),(18,.int .i64 s),(19,.int .i64 t),(20,.int .i64 b),(21,.int .i64 l),(90,.int .i64 m),(91,.int .i64 i)] (⟨[.agg [.row 1 0,.vec f 1 (tl.map (.int .i64)),.int .i64 w,.row 2 0]],4,0,false,false⟩::⟨nd.map (.int .i64),1,0,false,true⟩::⟨C,1,0,false,false⟩::⟨O.map (.int .i64),1,v,false,true⟩::R)) Q
def zDoR_at (f:Bool) (tl nd:List Int) (w n:Int) (C:List AV) (R:Heap) (O:List Int) (v:Nat) (ch s t:Int) (b l m i:Int) (k:Int) (o:Bool) (Q:AV->Heap->Prop):Prop:=Wp M1 (.run fi24 (atC (cd Try.f24) [1,1,1,1,1,1,1,1,1,1,0,1,0,0,1,0,1,0,1,0,0,1,1,0,0,1,0,1]) [(0,.int .i64 n),(12,.ptr 0 0 0 0),(16,.row 3 v),(17,.int .i64 ch),(18,.int .i64 s),(19,.int .i64 t),(20,.int .i64 b),(21,.int .i64 l),(22,.int .i64 k),(90,.int .i64 m),(91,.int .i64 i),(97,.bool o)] (⟨[.agg [.row 1 0,.vec f 1 (tl.map (.int .i64)),.int .i64 w,.row 2 0]],4,0,false,false⟩::⟨nd.map (.int .i64),1,0,false,true⟩::⟨C,1,0,false,false⟩::⟨O.map (.int .i64),1,v,false,true⟩::R)) Q
def zDvR_at (f:Bool) (tl nd:List Int) (w n:Int) (C:List AV) (R:Heap) (O:List Int) (v:Nat) (ch s t:Int) (b l m i:Int) (k c:Int) (Q:AV->Heap->Prop):Prop:=Wp M1 (.run fi24 (atC (cd Try.f24) [1,1,1,1,1,1,1,1,1,1,0,1,0,0,1,0,1,0,1,0,0,1,1,0,0,1,1,1]) [(0,.int .i64 n),(12,.ptr 0 0 0 0),(16,.row 3 v),(17,.int .i64 ch),(18,.int .i64 s),(19,.int .i64 t),(20,.int .i64 b),(21,.int .i64 l),(22,.int .i64 k),(23,.int .i64 c),(90,.int .i64 m),(91,.int .i64 i)] (⟨[.agg [.row 1 0,.vec f 1 (tl.map (.int .i64)),.int .i64 w,.row 2 0]],4,0,false,false⟩::⟨nd.map (.int .i64),1,0,false,true⟩::⟨C,1,0,false,false⟩::⟨O.map (.int .i64),1,v,false,true⟩::R)) Q
theorem zB (n:Int) (f g:Bool) (ps:List Pr) (tl:List Int)  (Q:AV -> Heap -> Prop) (H :
  ((¬Sp.vd n ps = 0) -> Q (tu [AV.vnil,vi 0,vi (Sp.vd n ps)]) []) /\
  (¬(¬Sp.vd n ps = 0) -> ((¬(↑tl.length:Int) = n) -> Q (tu [AV.vnil,vi 0,vi 1]) []) /\
   (¬(¬(↑tl.length:Int) = n) -> ((n > 16) -> Q (tu [AV.vnil,vi 0,vi 3]) []) /\
    (¬(n > 16) -> ((¬Sp.ZeJ n ps = 0) -> Q (tu [AV.vnil,vi 0,vi (Sp.ZeJ n ps)]) []) /\
     (¬(¬Sp.ZeJ n ps = 0) -> Wp M1 (.run fi24 (atC (cd Try.f24) [1,1,1,1,1,0]) [(0,vi n),(1,AV.vec g 2 (List.map Pr.v ps)),(2,AV.vec f 1 (List.map (vi) tl)),(11,vi (Sp.ZeJ n ps)),(43,vb (Sp.ZeJ n ps != 0))] []) Q))))) :
 zB_at n f g ps tl Q:=by
 unfold zB_at
 refine Zab (G:=Zae kp24 [(1,2,.call (vi (Sp.vd n ps)) none)] []) 7 [] ⟨(atC (cd Try.f24) [1,0,1,1]),[(0,vi n),(1,AV.vec g 2 (List.map Pr.v ps)),(2,AV.vec f 1 (List.map (vi) tl)),(9,vi (Sp.vd n ps)),(28,vb (Sp.vd n ps != 0))],[],_,[],_⟩ (by kernel_rfl) b0 q0 (ce (@ev14 (n) (g) (ps)) c0) ?_
 rcases xq H with ⟨d2,H⟩|⟨d2,H⟩
 ·exact ZaG (G:=Zae kp24 [] []) 1000 [true] (k:=((atC (cd Try.f24) [1,0,1,1,0,1])).tail) (env':=[(6,AV.vnil),(7,vi 0),(8,vi (Sp.vd n ps))]) (L':=[]) (asm:=[(Sp.vd n ps != 0) == true]) (eqs:=[]) (calls:=[]) (tu [AV.vnil,vi 0,vi (Sp.vd n ps)]) (by kernel_rfl) (by kernel_rfl) (Zaf (Zas (i_ne.2 d2)) Zak) Zal ZaJ H
 ·have w3:(List.map (vi) tl).length = tl.length:=List.length_map ..
  have i4:((↑(List.map (vi) tl).length:Int) != n) = true ↔ (¬(↑tl.length:Int) = n):=(by (try rw [w3]);all_goals exact i_ne)
  rcases xq H with ⟨d5,H⟩|⟨d5,H⟩
  ·exact ZaG (G:=Zae kp24 [] []) 1000 [false,true] (k:=((atC (cd Try.f24) [1,1,0,1,0,1])).tail) (env':=[(6,AV.vnil),(7,vi 0),(8,vi 1)]) (L':=[]) (asm:=[(Sp.vd n ps != 0) == false,((↑(List.map (vi) tl).length:Int) != n) == true]) (eqs:=[]) (calls:=[]) (tu [AV.vnil,vi 0,vi 1]) (by kernel_rfl) (by kernel_rfl) (Zaf (Zap (fun h => d2 (i_ne.1 h))) (Zaf (Zas (i4.2 d5)) Zak)) Zal ZaJ H
  ·rcases xq H with ⟨d7,H⟩|⟨d7,H⟩
   ·exact ZaG (G:=Zae kp24 [] []) 1000 [false,false,true] (k:=((atC (cd Try.f24) [1,1,1,0,1,0,1])).tail) (env':=[(6,AV.vnil),(7,vi 0),(8,vi 3)]) (L':=[]) (asm:=[(Sp.vd n ps != 0) == false,((↑(List.map (vi) tl).length:Int) != n) == false,(decide (n > 16)) == true]) (eqs:=[]) (calls:=[]) (tu [AV.vnil,vi 0,vi 3]) (by kernel_rfl) (by kernel_rfl) (Zaf (Zap (fun h => d2 (i_ne.1 h))) (Zaf (Zap (fun h => d5 (i4.1 h))) (Zaf (Zas (Zaa.2 d7)) Zak))) Zal ZaJ H
   ·refine Zab (G:=Zae kp24 [(8,2,.call (tu [vf (List.map (vi) (Sp.ordL n ps)),vi (Sp.ZeJ n ps)]) none)] []) 17 [false,false,false] ⟨(atC (cd Try.f24) [1,1,1,1,0,1,1]),[(0,vi n),(1,AV.vec g 2 (List.map Pr.v ps)),(2,AV.vec f 1 (List.map (vi) tl)),(11,vi (Sp.ZeJ n ps)),(43,vb (Sp.ZeJ n ps != 0))],[],_,[],_⟩ (by kernel_rfl) (bc (Zap (fun h => d2 (i_ne.1 h))) (bc (Zap (fun h => d5 (i4.1 h))) (bc (Zap (fun h => d7 (Zaa.1 h))) b0))) q0 (ce (@ev20 (n) (g) (ps)) c0) ?_
    rcases xq H with ⟨d9,H⟩|⟨d9,H⟩
    ·exact ZaG (G:=Zae kp24 [] []) 1000 [true] (k:=((atC (cd Try.f24) [1,1,1,1,0,1,1,0,1])).tail) (env':=[(6,AV.vnil),(7,vi 0),(8,vi (Sp.ZeJ n ps))]) (L':=[]) (asm:=[(Sp.ZeJ n ps != 0) == true]) (eqs:=[]) (calls:=[]) (tu [AV.vnil,vi 0,vi (Sp.ZeJ n ps)]) (by kernel_rfl) (by kernel_rfl) (Zaf (Zas (i_ne.2 d9)) Zak) Zal ZaJ H
    ·exact Zab (G:=Zae kp24 [] []) 3 [false] ⟨(atC (cd Try.f24) [1,1,1,1,1,0]),[(0,vi n),(1,AV.vec g 2 (List.map Pr.v ps)),(2,AV.vec f 1 (List.map (vi) tl)),(11,vi (Sp.ZeJ n ps)),(43,vb (Sp.ZeJ n ps != 0))],[],_,[],_⟩ (by kernel_rfl) (bc (Zap (fun h => d9 (i_ne.1 h))) b0) q0 c0 (H)
theorem zB0 (f g:Bool)  (Q:AV -> Heap -> Prop) (H :
  zB0a_at (f) (g) Q) :
 zB0_at f g Q:=by
 unfold zB0_at
 have w1:[] = List.map (vi) []:=rfl
 have w2:[] = List.map (vi) []:=rfl
 have w3:[] = List.map (vi) []:=rfl
 exact Zab (G:=Zae kp24 [] []) 1000 [] ⟨(atC (cd Try.f24) [1,1,1,1,1,1,0,1,0,0]),[(0,vi 0),(1,AV.vec g 2 []),(12,AV.ptr 0 0 0 0),(56,vi 0),(57,vi 0)],[⟨[ag [AV.row 1 0,AV.vec f 1 [],vi 0,AV.row 2 0]],4,0,false,false⟩,⟨[],1,0,false,true⟩,⟨[],1,0,false,true⟩],_,[],_⟩ (by kernel_rfl) (bc rfl (bc rfl b0)) q0 c0 (by (try rw [w1]);all_goals exact H)
theorem zB0a (f g:Bool)  (Q:AV -> Heap -> Prop) (H :
  zB0b_at (f) (g) Q) :
 zB0a_at f g Q:=by
 unfold zB0a_at
 have w1:[] = List.map (vi) []:=rfl
 have w2:[] = List.map (vi) []:=rfl
 exact Zab (G:=Zae kp24 [] []) 1000 [false] ⟨(atC (cd Try.f24) [1,1,1,1,1,1,1,0,1,0,0]),[(0,vi 0),(12,AV.ptr 0 0 0 0),(68,AV.vec g 2 []),(69,vi 0),(70,vi 0)],[⟨[ag [AV.row 1 0,AV.vec f 1 [],vi 0,AV.row 2 0]],4,0,false,false⟩,⟨[],1,0,false,true⟩,⟨[],1,0,false,true⟩],_,[],_⟩ (by kernel_rfl) (bc rfl b0) q0 c0 (by (try rw [w1]);all_goals exact H)
theorem zB0b (f g:Bool)  (Q:AV -> Heap -> Prop) (H :
  zB0c_at (f) Q) :
 zB0b_at f g Q:=by
 unfold zB0b_at
 have w1:[] = List.map (vi) []:=rfl
 have w2:[] = List.map (vi) []:=rfl
 exact Zab (G:=Zae kp24 [] []) 1000 [false] ⟨(atC (cd Try.f24) [1,1,1,1,1,1,1,1,1,1,0,1,0,0]),[(0,vi 0),(12,AV.ptr 0 0 0 0),(16,AV.vnil),(17,vi 0),(18,vi 0),(19,vi (-1))],[⟨[ag [AV.row 1 0,AV.vec f 1 [],vi 0,AV.row 2 0]],4,0,false,false⟩,⟨[],1,0,false,true⟩,⟨[],1,0,false,true⟩],_,[],_⟩ (by kernel_rfl) (bc rfl b0) q0 c0 (by (try rw [w1]);all_goals exact H)
theorem zB0c (f:Bool)  (Q:AV -> Heap -> Prop) (H :
  Q (tu [AV.vnil,vi 0,vi 0]) [{ elems:=[ag [AV.row 1 0,AV.vec f 1 [],vi 0,AV.row 2 0]],es:=4,ver:=0,frozen:=false,clean:=false },{ elems:=[],es:=1,ver:=0,frozen:=false,clean:=true },{ elems:=[],es:=1,ver:=0,frozen:=false,clean:=true }]) :
 zB0c_at f Q:=by
 unfold zB0c_at
 exact ZaG (G:=Zae kp24 [] []) 1000 [false] (k:=((atC (cd Try.f24) [1,1,1,1,1,1,1,1,1,1,1,1])).tail) (env':=[(6,AV.vnil),(7,vi 0),(8,vi 0)]) (L':=[⟨[ag [AV.row 1 0,AV.vec f 1 [],vi 0,AV.row 2 0]],4,0,false,false⟩,⟨[],1,0,false,true⟩,⟨[],1,0,false,true⟩]) (asm:=[true,false == false]) (eqs:=[]) (calls:=[]) (tu [AV.vnil,vi 0,vi 0]) (by kernel_rfl) (by kernel_rfl) (Zaf rfl (Zaf rfl Zak)) Zal ZaJ H
theorem zBi (f g:Bool) (ps:List Pr) (tl nd:List Int) (n w:Int) (C:List AV) (R:Heap)  (Q:AV -> Heap -> Prop) (H :
  zBA0_at (f) (g) (ps) (tl) (nd) (n) (w) (C) (R) ((↑C.length:Int)) (0) Q) :
 zBi_at f g ps tl nd n w C R Q:=by
 unfold zBi_at
 exact Zab (G:=Zae kp24 [] []) 1000 [] ⟨(atC (cd Try.f24) [1,1,1,1,1,1,0,1,0,0]),[(0,vi n),(1,AV.vec g 2 (List.map Pr.v ps)),(12,AV.ptr 0 0 0 0),(56,vi (↑C.length:Int)),(57,vi 0)],⟨[ag [AV.row 1 0,AV.vec f 1 (List.map (vi) tl),vi w,AV.row 2 0]],4,0,false,false⟩ :: ⟨List.map (vi) nd,1,0,false,true⟩ :: ⟨C,1,0,false,true⟩ :: R,_,[],_⟩ (by kernel_rfl) (bc rfl (bc rfl b0)) q0 c0 (H)
theorem zBA0 (f g:Bool) (ps:List Pr) (tl nd:List Int) (n w:Int) (C:List AV) (R:Heap) (m i:Int)  (Q:AV -> Heap -> Prop) (H :
  ((i < m) -> (0 <= n) /\
   (-9223372036854775808 <= (1:Int) * 2 ^ min n.toNat IntKind.i64.bits /\ (1:Int) * 2 ^ min n.toNat IntKind.i64.bits <= 9223372036854775807) /\
   (0 <= (1:Int) * 2 ^ min n.toNat IntKind.i64.bits) /\
   ((1:Int) * 2 ^ min n.toNat IntKind.i64.bits * 8 <= 1099511627776) /\
   ((1:Int) * 2 ^ min n.toNat IntKind.i64.bits <= 1099511627776) /\
   (0 <= i) /\
   (i.toNat < C.length) /\
   (C.get?Internal i.toNat = some AV.vnil) /\
   (-9223372036854775808 <= i + 1 /\ i + 1 <= 9223372036854775807) /\
   zBA_at (f) (g) (ps) (tl) (nd) (n) (w) (C.set i.toNat (AV.row (List.length R + 1 + 1 + 1) 0)) (List.append R [{ elems:=List.replicate ((1:Int) * 2 ^ min n.toNat IntKind.i64.bits).toNat (ofC (Value.int IntKind.i64 0)),es:=((fun x => Try.prog) ()).types[3].size,ver:=0,frozen:=false,clean:=true }]) (m) (i + 1) Q) /\
  (¬(i < m) -> Wp M1 (.run fi24 (atC (cd Try.f24) [1,1,1,1,1,1,1,0,1,0,0]) [(0,vi n),(12,AV.ptr 0 0 0 0),(68,AV.vec g 2 (List.map Pr.v ps)),(69,vi (↑ps.length:Int)),(70,vi 0)] ({ elems:=[ag [AV.row 1 0,AV.vec f 1 (List.map (vi) tl),vi w,AV.row 2 0]],es:=4,ver:=0,frozen:=false,clean:=false } :: { elems:=List.map (vi) nd,es:=1,ver:=0,frozen:=false,clean:=true } :: { elems:=C,es:=1,ver:=0,frozen:=false,clean:=true } :: R)) Q)) :
 zBA0_at f g ps tl nd n w C R m i Q:=by
 unfold zBA0_at
 rcases xq H with ⟨d2,H⟩|⟨d2,H⟩
 ·obtain ⟨k4,k5,H⟩:=H
  have w6:wi ((1:Int) * 2 ^ min n.toNat IntKind.i64.bits) = (1:Int) * 2 ^ min n.toNat IntKind.i64.bits:=wI64 k5
  have i7:(decide (0 <= wi ((1:Int) * 2 ^ min n.toNat IntKind.i64.bits))) = true ↔ (0 <= (1:Int) * 2 ^ min n.toNat IntKind.i64.bits):=(by (try rw [w6]);all_goals exact Zaa)
  obtain ⟨k8,H⟩:=H
  have i9:(decide (wi ((1:Int) * 2 ^ min n.toNat IntKind.i64.bits) <= wi ((1:Int) * 2 ^ min n.toNat IntKind.i64.bits))) = true ↔ ((1:Int) * 2 ^ min n.toNat IntKind.i64.bits <= (1:Int) * 2 ^ min n.toNat IntKind.i64.bits):=(by (try rw [w6]);all_goals exact Zaa)
  have i10:(decide (wi ((1:Int) * 2 ^ min n.toNat IntKind.i64.bits) * 8 <= 1099511627776)) = true ↔ ((1:Int) * 2 ^ min n.toNat IntKind.i64.bits * 8 <= 1099511627776):=(by (try rw [w6]);all_goals exact Zaa)
  obtain ⟨k11,H⟩:=H
  have i12:(decide (wi ((1:Int) * 2 ^ min n.toNat IntKind.i64.bits) <= 1099511627776)) = true ↔ ((1:Int) * 2 ^ min n.toNat IntKind.i64.bits <= 1099511627776):=(by (try rw [w6]);all_goals exact Zaa)
  obtain ⟨k13,k15,k17,k18,k19,H⟩:=H
  have w20:wi (i + 1) = i + 1:=wI64 k19
  exact Zab (G:=Zae kp24 [(15,7,(.elem .vnil:Ans))] [(15,[4007,4006,500004005,2001])]) 1000 [true] ⟨(atC (cd Try.f24) [1,1,1,1,1,1,0,1,0,0]),[(0,vi n),(1,AV.vec g 2 (List.map Pr.v ps)),(12,AV.ptr 0 0 0 0),(56,vi m),(57,vi (wi (i + 1)))],⟨[ag [AV.row 1 0,AV.vec f 1 (List.map (vi) tl),vi w,AV.row 2 0]],4,0,false,false⟩ :: ⟨List.map (vi) nd,1,0,false,true⟩ :: ⟨C.set i.toNat (AV.row (List.length R + 1 + 1 + 1) 0),1,0,false,false⟩ :: List.append R [⟨List.replicate (wi ((1:Int) * 2 ^ min n.toNat IntKind.i64.bits)).toNat (ofC (Value.int IntKind.i64 0)),((fun x => Try.prog) ()).types[3].size,0,false,true⟩],[(decide (i < m)) == true,true,decide (0 <= n),decide (0 <= wi ((1:Int) * 2 ^ min n.toNat IntKind.i64.bits)),decide (wi ((1:Int) * 2 ^ min n.toNat IntKind.i64.bits) <= wi ((1:Int) * 2 ^ min n.toNat IntKind.i64.bits)),decide (wi ((1:Int) * 2 ^ min n.toNat IntKind.i64.bits) * 8 <= 1099511627776),decide (wi ((1:Int) * 2 ^ min n.toNat IntKind.i64.bits) <= 1099511627776),true,decide (0 <= i),decide (i.toNat < C.length),true],[(C.get?Internal i.toNat = some AV.vnil)],_⟩ (by kernel_rfl) (bc (Zas (Zaa.2 d2)) (bc rfl (bc (Zaa.2 k4) (bc (i7.2 k8) (bc (i9.2 (by omega)) (bc (i10.2 k11) (bc (i12.2 k13) (bc rfl (bc (Zaa.2 k15) (bc (Zaa.2 k17) (bc rfl b0))))))))))) (qc k18 q0) c0 (by (try rw [w6]);(try rw [w20]);all_goals exact H)
 ·have w21:(List.map Pr.v ps).length = ps.length:=List.length_map ..
  exact Zab (G:=Zae kp24 [] []) 1000 [false] ⟨(atC (cd Try.f24) [1,1,1,1,1,1,1,0,1,0,0]),[(0,vi n),(12,AV.ptr 0 0 0 0),(68,AV.vec g 2 (List.map Pr.v ps)),(69,vi (↑(List.map Pr.v ps).length:Int)),(70,vi 0)],⟨[ag [AV.row 1 0,AV.vec f 1 (List.map (vi) tl),vi w,AV.row 2 0]],4,0,false,false⟩ :: ⟨List.map (vi) nd,1,0,false,true⟩ :: ⟨C,1,0,false,true⟩ :: R,_,[],_⟩ (by kernel_rfl) (bc (Zap (fun h => d2 (Zaa.1 h))) b0) q0 c0 (by (try rw [w21]);all_goals exact H)
theorem zBA (f g:Bool) (ps:List Pr) (tl nd:List Int) (n w:Int) (C:List AV) (R:Heap) (m i:Int)  (Q:AV -> Heap -> Prop) (H :
  ((i < m) -> (0 <= n) /\
   (-9223372036854775808 <= (1:Int) * 2 ^ min n.toNat IntKind.i64.bits /\ (1:Int) * 2 ^ min n.toNat IntKind.i64.bits <= 9223372036854775807) /\
   (0 <= (1:Int) * 2 ^ min n.toNat IntKind.i64.bits) /\
   ((1:Int) * 2 ^ min n.toNat IntKind.i64.bits * 8 <= 1099511627776) /\
   ((1:Int) * 2 ^ min n.toNat IntKind.i64.bits <= 1099511627776) /\
   (0 <= i) /\
   (i.toNat < C.length) /\
   (C.get?Internal i.toNat = some AV.vnil) /\
   (-9223372036854775808 <= i + 1 /\ i + 1 <= 9223372036854775807) /\
   zBA_at (f) (g) (ps) (tl) (nd) (n) (w) (C.set i.toNat (AV.row (List.length R + 1 + 1 + 1) 0)) (List.append R [{ elems:=List.replicate ((1:Int) * 2 ^ min n.toNat IntKind.i64.bits).toNat (ofC (Value.int IntKind.i64 0)),es:=((fun x => Try.prog) ()).types[3].size,ver:=0,frozen:=false,clean:=true }]) (m) (i + 1) Q) /\
  (¬(i < m) -> Ze1 (f) (g) (ps) (tl) (nd) (n) (w) (C) (R) ((↑ps.length:Int)) (0) Q)) :
 zBA_at f g ps tl nd n w C R m i Q:=by
 unfold zBA_at
 rcases xq H with ⟨d2,H⟩|⟨d2,H⟩
 ·obtain ⟨k4,k5,H⟩:=H
  have w6:wi ((1:Int) * 2 ^ min n.toNat IntKind.i64.bits) = (1:Int) * 2 ^ min n.toNat IntKind.i64.bits:=wI64 k5
  have i7:(decide (0 <= wi ((1:Int) * 2 ^ min n.toNat IntKind.i64.bits))) = true ↔ (0 <= (1:Int) * 2 ^ min n.toNat IntKind.i64.bits):=(by (try rw [w6]);all_goals exact Zaa)
  obtain ⟨k8,H⟩:=H
  have i9:(decide (wi ((1:Int) * 2 ^ min n.toNat IntKind.i64.bits) <= wi ((1:Int) * 2 ^ min n.toNat IntKind.i64.bits))) = true ↔ ((1:Int) * 2 ^ min n.toNat IntKind.i64.bits <= (1:Int) * 2 ^ min n.toNat IntKind.i64.bits):=(by (try rw [w6]);all_goals exact Zaa)
  have i10:(decide (wi ((1:Int) * 2 ^ min n.toNat IntKind.i64.bits) * 8 <= 1099511627776)) = true ↔ ((1:Int) * 2 ^ min n.toNat IntKind.i64.bits * 8 <= 1099511627776):=(by (try rw [w6]);all_goals exact Zaa)
  obtain ⟨k11,H⟩:=H
  have i12:(decide (wi ((1:Int) * 2 ^ min n.toNat IntKind.i64.bits) <= 1099511627776)) = true ↔ ((1:Int) * 2 ^ min n.toNat IntKind.i64.bits <= 1099511627776):=(by (try rw [w6]);all_goals exact Zaa)
  obtain ⟨k13,k15,k17,k18,k19,H⟩:=H
  have w20:wi (i + 1) = i + 1:=wI64 k19
  exact Zab (G:=Zae kp24 [(15,7,(.elem .vnil:Ans))] [(15,[4007,4006,500004005,2001])]) 1000 [true] ⟨(atC (cd Try.f24) [1,1,1,1,1,1,0,1,0,0]),[(0,vi n),(1,AV.vec g 2 (List.map Pr.v ps)),(12,AV.ptr 0 0 0 0),(56,vi m),(57,vi (wi (i + 1)))],⟨[ag [AV.row 1 0,AV.vec f 1 (List.map (vi) tl),vi w,AV.row 2 0]],4,0,false,false⟩ :: ⟨List.map (vi) nd,1,0,false,true⟩ :: ⟨C.set i.toNat (AV.row (List.length R + 1 + 1 + 1) 0),1,0,false,false⟩ :: List.append R [⟨List.replicate (wi ((1:Int) * 2 ^ min n.toNat IntKind.i64.bits)).toNat (ofC (Value.int IntKind.i64 0)),((fun x => Try.prog) ()).types[3].size,0,false,true⟩],[(decide (i < m)) == true,true,decide (0 <= n),decide (0 <= wi ((1:Int) * 2 ^ min n.toNat IntKind.i64.bits)),decide (wi ((1:Int) * 2 ^ min n.toNat IntKind.i64.bits) <= wi ((1:Int) * 2 ^ min n.toNat IntKind.i64.bits)),decide (wi ((1:Int) * 2 ^ min n.toNat IntKind.i64.bits) * 8 <= 1099511627776),decide (wi ((1:Int) * 2 ^ min n.toNat IntKind.i64.bits) <= 1099511627776),true,decide (0 <= i),decide (i.toNat < C.length),true],[(C.get?Internal i.toNat = some AV.vnil)],_⟩ (by kernel_rfl) (bc (Zas (Zaa.2 d2)) (bc rfl (bc (Zaa.2 k4) (bc (i7.2 k8) (bc (i9.2 (by omega)) (bc (i10.2 k11) (bc (i12.2 k13) (bc rfl (bc (Zaa.2 k15) (bc (Zaa.2 k17) (bc rfl b0))))))))))) (qc k18 q0) c0 (by (try rw [w6]);(try rw [w20]);all_goals exact H)
 ·have w21:(List.map Pr.v ps).length = ps.length:=List.length_map ..
  exact Zab (G:=Zae kp24 [] []) 1000 [false] ⟨(atC (cd Try.f24) [1,1,1,1,1,1,1,0,1,0,0]),[(0,vi n),(12,AV.ptr 0 0 0 0),(68,AV.vec g 2 (List.map Pr.v ps)),(69,vi (↑(List.map Pr.v ps).length:Int)),(70,vi 0)],⟨[ag [AV.row 1 0,AV.vec f 1 (List.map (vi) tl),vi w,AV.row 2 0]],4,0,false,false⟩ :: ⟨List.map (vi) nd,1,0,false,true⟩ :: ⟨C,1,0,false,false⟩ :: R,_,[],_⟩ (by kernel_rfl) (bc (Zap (fun h => d2 (Zaa.1 h))) b0) q0 c0 (by (try rw [w21]);all_goals exact H)
theorem zBB (f g:Bool) (ps:List Pr) (tl nd:List Int) (n w:Int) (C:List AV) (R:Heap) (m i:Int)  (Q:AV -> Heap -> Prop) (H :
  ((i < m) -> Wp M1 (.run fi24 (atC (cd Try.f24) [1,1,1,1,1,1,1,0,1,0,0,1,1,0,0,0]) [(0,vi n),(12,AV.ptr 0 0 0 0),(68,AV.vec g 2 (List.map Pr.v ps)),(69,vi m),(70,vi i),(71,vb (decide (i < m)))] ({ elems:=[ag [AV.row 1 0,AV.vec f 1 (List.map (vi) tl),vi w,AV.row 2 0]],es:=4,ver:=0,frozen:=false,clean:=false } :: { elems:=List.map (vi) nd,es:=1,ver:=0,frozen:=false,clean:=true } :: { elems:=C,es:=1,ver:=0,frozen:=false,clean:=false } :: R)) Q) /\
  (¬(i < m) -> zCN_at (f) (tl) (nd) (w) (n) (C) (R) (0) (0) (-1) Q)) :
 Ze1 f g ps tl nd n w C R m i Q:=by
 unfold Ze1
 rcases xq H with ⟨d2,H⟩|⟨d2,H⟩
 ·exact Zab (G:=Zae kp24 [] []) 8 [true] ⟨(atC (cd Try.f24) [1,1,1,1,1,1,1,0,1,0,0,1,1,0,0,0]),[(0,vi n),(12,AV.ptr 0 0 0 0),(68,AV.vec g 2 (List.map Pr.v ps)),(69,vi m),(70,vi i),(71,vb (decide (i < m)))],⟨[ag [AV.row 1 0,AV.vec f 1 (List.map (vi) tl),vi w,AV.row 2 0]],4,0,false,false⟩ :: ⟨List.map (vi) nd,1,0,false,true⟩ :: ⟨C,1,0,false,false⟩ :: R,_,[],_⟩ (by kernel_rfl) (bc (Zas (Zaa.2 d2)) b0) q0 c0 (H)
 ·exact Zab (G:=Zae kp24 [] []) 1000 [false] ⟨(atC (cd Try.f24) [1,1,1,1,1,1,1,1,1,1,0,1,0,0]),[(0,vi n),(12,AV.ptr 0 0 0 0),(16,AV.vnil),(17,vi 0),(18,vi 0),(19,vi (-1))],⟨[ag [AV.row 1 0,AV.vec f 1 (List.map (vi) tl),vi w,AV.row 2 0]],4,0,false,false⟩ :: ⟨List.map (vi) nd,1,0,false,true⟩ :: ⟨C,1,0,false,false⟩ :: R,_,[],_⟩ (by kernel_rfl) (bc (Zap (fun h => d2 (Zaa.1 h))) b0) q0 c0 (H)
theorem zBP (f g:Bool) (ps:List Pr) (tl nd:List Int) (n w:Int) (C:List AV) (R:Heap) (m i:Int) (p:Pr)  (Q:AV -> Heap -> Prop) (H :
  (0 <= p.b) /\
  (p.b.toNat < nd.length) /\
  (0 <= p.a) /\
  (-9223372036854775808 <= (1:Int) * 2 ^ min p.a.toNat IntKind.i64.bits /\ (1:Int) * 2 ^ min p.a.toNat IntKind.i64.bits <= 9223372036854775807) /\
  (-9223372036854775808 <= (↑(BitVec.ofInt IntKind.i64.bits (nd.getD p.b.toNat default) ||| BitVec.ofInt IntKind.i64.bits ((1:Int) * 2 ^ min p.a.toNat IntKind.i64.bits)).toNat:Int) /\ (↑(BitVec.ofInt IntKind.i64.bits (nd.getD p.b.toNat default) ||| BitVec.ofInt IntKind.i64.bits ((1:Int) * 2 ^ min p.a.toNat IntKind.i64.bits)).toNat:Int) <= 9223372036854775807) /\
  (-9223372036854775808 <= i + 1 /\ i + 1 <= 9223372036854775807) /\
  Ze1 (f) (g) (ps) (tl) (nd.set p.b.toNat (↑(BitVec.ofInt IntKind.i64.bits (nd.getD p.b.toNat default) ||| BitVec.ofInt IntKind.i64.bits ((1:Int) * 2 ^ min p.a.toNat IntKind.i64.bits)).toNat:Int)) (n) (w) (C) ({ elems:=[ag [vi p.a,vi p.b]],es:=2,ver:=0,frozen:=false,clean:=false } :: R) (m) (i + 1) Q) :
 zBP_at f g ps tl nd n w C R m i p Q:=by
 unfold zBP_at
 obtain ⟨k2,H⟩:=H
 have w3:(List.map (vi) nd).length = nd.length:=List.length_map ..
 have i4:(decide (p.b.toNat < (List.map (vi) nd).length)) = true ↔ (p.b.toNat < nd.length):=(by (try rw [w3]);all_goals exact Zaa)
 obtain ⟨k5,k7,H⟩:=H
 have i9:(decide (p.b.toNat < (List.map (vi) nd).length)) = true ↔ (p.b.toNat < nd.length):=(by (try rw [w3]);all_goals exact Zaa)
 obtain ⟨k10,H⟩:=H
 have w11:wi ((1:Int) * 2 ^ min p.a.toNat IntKind.i64.bits) = (1:Int) * 2 ^ min p.a.toNat IntKind.i64.bits:=wI64 k10
 obtain ⟨k12,H⟩:=H
 have w13:wi (↑(BitVec.ofInt IntKind.i64.bits (nd.getD p.b.toNat default) ||| BitVec.ofInt IntKind.i64.bits ((1:Int) * 2 ^ min p.a.toNat IntKind.i64.bits)).toNat:Int) = (↑(BitVec.ofInt IntKind.i64.bits (nd.getD p.b.toNat default) ||| BitVec.ofInt IntKind.i64.bits ((1:Int) * 2 ^ min p.a.toNat IntKind.i64.bits)).toNat:Int):=wI64 k12
 have w14:(List.map (vi) nd).set p.b.toNat (vi (↑(BitVec.ofInt IntKind.i64.bits (nd.getD p.b.toNat default) ||| BitVec.ofInt IntKind.i64.bits ((1:Int) * 2 ^ min p.a.toNat IntKind.i64.bits)).toNat:Int)) = List.map (vi) (nd.set p.b.toNat (↑(BitVec.ofInt IntKind.i64.bits (nd.getD p.b.toNat default) ||| BitVec.ofInt IntKind.i64.bits ((1:Int) * 2 ^ min p.a.toNat IntKind.i64.bits)).toNat:Int)):=(Zdk rfl rfl)
 obtain ⟨k15,H⟩:=H
 have w16:wi (i + 1) = i + 1:=wI64 k15
 exact Zab (G:=Zae kp24 [(20,5,.elem (vi (nd.getD p.b.toNat default))),(20,11,.elem (vi (nd.getD p.b.toNat default)))] []) 1000 [] ⟨(atC (cd Try.f24) [1,1,1,1,1,1,1,0,1,0,0]),[(0,vi n),(12,AV.ptr 0 0 0 0),(68,AV.vec g 2 (List.map Pr.v ps)),(69,vi m),(70,vi (wi (i + 1)))],⟨[ag [AV.row 1 0,AV.vec f 1 (List.map (vi) tl),vi w,AV.row 2 0]],4,0,false,false⟩ :: ⟨(List.map (vi) nd).set p.b.toNat (vi (wi (↑(BitVec.ofInt IntKind.i64.bits (nd.getD p.b.toNat default) ||| BitVec.ofInt IntKind.i64.bits (wi ((1:Int) * 2 ^ min p.a.toNat IntKind.i64.bits))).toNat:Int))),1,0,false,true⟩ :: ⟨C,1,0,false,false⟩ :: ⟨[ag [vi p.a,vi p.b]],2,0,false,false⟩ :: R,_,[((List.map (vi) nd).get?Internal p.b.toNat = some (vi (nd.getD p.b.toNat default))),((List.map (vi) nd).get?Internal p.b.toNat = some (vi (nd.getD p.b.toNat default)))],_⟩ (by kernel_rfl) (bc rfl (bc rfl (bc rfl (bc rfl (bc rfl (bc (Zaa.2 k2) (bc (i4.2 k5) (bc rfl (bc rfl (bc rfl (bc rfl (bc (Zaa.2 k7) (bc rfl (bc (Zaa.2 k2) (bc (i9.2 k5) (bc rfl b0)))))))))))))))) (qc (Zaq k5) (qc (Zaq k5) q0)) c0 (by (try rw [w11]);(try rw [w13]);(try rw [w14]);(try rw [w16]);all_goals exact H)
theorem zCN (f:Bool) (tl nd:List Int) (w n:Int) (C:List AV) (R:Heap) (ch s t:Int)  (Q:AV -> Heap -> Prop) (H :
  ((¬s = w) -> Zez (f) (tl) (nd) (w) (n) (C) (R) (ch) (s) (t) (-1) (0) (n) (0) Q) /\
  (¬(¬s = w) -> Q (tu [AV.vnil,vi ch,vi 0]) ({ elems:=[ag [AV.row 1 0,AV.vec f 1 (List.map (vi) tl),vi w,AV.row 2 0]],es:=4,ver:=0,frozen:=false,clean:=false } :: { elems:=List.map (vi) nd,es:=1,ver:=0,frozen:=false,clean:=true } :: { elems:=C,es:=1,ver:=0,frozen:=false,clean:=false } :: R))) :
 zCN_at f tl nd w n C R ch s t Q:=by
 unfold zCN_at
 rcases xq H with ⟨d2,H⟩|⟨d2,H⟩
 ·exact Zab (G:=Zae kp24 [] []) 1000 [true] ⟨(atC (cd Try.f24) [1,1,1,1,1,1,1,1,1,1,0,1,0,0,1,0,1,0,1,0,0]),[(0,vi n),(12,AV.ptr 0 0 0 0),(16,AV.vnil),(17,vi ch),(18,vi s),(19,vi t),(20,vi (-1)),(21,vi 0),(90,vi n),(91,vi 0)],⟨[ag [AV.row 1 0,AV.vec f 1 (List.map (vi) tl),vi w,AV.row 2 0]],4,0,false,false⟩ :: ⟨List.map (vi) nd,1,0,false,true⟩ :: ⟨C,1,0,false,false⟩ :: R,_,[],_⟩ (by kernel_rfl) (bc rfl (bc (Zas (i_ne.2 d2)) b0)) q0 c0 (H)
 ·exact ZaG (G:=Zae kp24 [] []) 1000 [false] (k:=((atC (cd Try.f24) [1,1,1,1,1,1,1,1,1,1,1,1])).tail) (env':=[(6,AV.vnil),(7,vi ch),(8,vi 0)]) (L':=⟨[ag [AV.row 1 0,AV.vec f 1 (List.map (vi) tl),vi w,AV.row 2 0]],4,0,false,false⟩ :: ⟨List.map (vi) nd,1,0,false,true⟩ :: ⟨C,1,0,false,false⟩ :: R) (asm:=[true,(s != w) == false]) (eqs:=[]) (calls:=[]) (tu [AV.vnil,vi ch,vi 0]) (by kernel_rfl) (by kernel_rfl) (Zaf rfl (Zaf (Zap (fun h => d2 (i_ne.1 h))) Zak)) Zal ZaJ H
noncomputable abbrev zPyB1 (f:Bool) (tl:List Int) (w:Int):=ag [AV.row 1 0,AV.vec f 1 (List.map vi tl),vi w,AV.row 2 0]
theorem zDN (f:Bool) (tl nd:List Int) (w n:Int) (C:List AV) (R:Heap) (ch s t:Int) (b l m i:Int)  (Q:AV -> Heap -> Prop) (H :
  ((i < m) -> Wp M1 (.run fi24 (atC (cd Try.f24) [1,1,1,1,1,1,1,1,1,1,0,1,0,0,1,0,1,0,1,0,0,1,1,0,0,1,0,0]) [(0,vi n),(12,AV.ptr 0 0 0 0),(16,AV.vnil),(17,vi ch),(18,vi s),(19,vi t),(20,vi b),(21,vi l),(22,vi i),(90,vi m),(91,vi i)] ({ elems:=[ag [AV.row 1 0,AV.vec f 1 (List.map (vi) tl),vi w,AV.row 2 0]],es:=4,ver:=0,frozen:=false,clean:=false } :: { elems:=List.map (vi) nd,es:=1,ver:=0,frozen:=false,clean:=true } :: { elems:=C,es:=1,ver:=0,frozen:=false,clean:=false } :: R)) Q) /\
  (¬(i < m) -> ((t < 0) -> (0 <= b) /\
    (-9223372036854775808 <= (1:Int) * 2 ^ min b.toNat IntKind.i64.bits /\ (1:Int) * 2 ^ min b.toNat IntKind.i64.bits <= 9223372036854775807) /\
    (-9223372036854775808 <= (↑(BitVec.ofInt IntKind.i64.bits s ||| BitVec.ofInt IntKind.i64.bits ((1:Int) * 2 ^ min b.toNat IntKind.i64.bits)).toNat:Int) /\ (↑(BitVec.ofInt IntKind.i64.bits s ||| BitVec.ofInt IntKind.i64.bits ((1:Int) * 2 ^ min b.toNat IntKind.i64.bits)).toNat:Int) <= 9223372036854775807) /\
    Wp M1 (.run fi24 (atC (cd Try.f24) [1,1,1,1,1,1,1,1,1,1,0,1,0,0]) [(0,vi n),(12,AV.ptr 0 0 0 0),(16,AV.row (List.length R + 1 + 1 + 1) 0),(17,vi l),(18,vi (↑(BitVec.ofInt IntKind.i64.bits s ||| BitVec.ofInt IntKind.i64.bits ((1:Int) * 2 ^ min b.toNat IntKind.i64.bits)).toNat:Int)),(19,vi b)] ({ elems:=[ag [AV.row 1 0,AV.vec f 1 (List.map (vi) tl),vi w,AV.row 2 0]],es:=4,ver:=0,frozen:=false,clean:=false } :: { elems:=List.map (vi) nd,es:=1,ver:=0,frozen:=false,clean:=true } :: { elems:=C,es:=1,ver:=0,frozen:=false,clean:=false } :: List.append R [{ elems:=[vi b],es:=((fun x => Try.prog) ()).types[3].size,ver:=0,frozen:=false,clean:=true }])) Q) /\
   (¬(t < 0) -> (0 <= b) /\
    (-9223372036854775808 <= (1:Int) * 2 ^ min b.toNat IntKind.i64.bits /\ (1:Int) * 2 ^ min b.toNat IntKind.i64.bits <= 9223372036854775807) /\
    (-9223372036854775808 <= (↑(BitVec.ofInt IntKind.i64.bits s ||| BitVec.ofInt IntKind.i64.bits ((1:Int) * 2 ^ min b.toNat IntKind.i64.bits)).toNat:Int) /\ (↑(BitVec.ofInt IntKind.i64.bits s ||| BitVec.ofInt IntKind.i64.bits ((1:Int) * 2 ^ min b.toNat IntKind.i64.bits)).toNat:Int) <= 9223372036854775807) /\
    Wp M1 (.run fi24 (atC (cd Try.f24) [1,1,1,1,1,1,1,1,1,1,0,1,0,0]) [(0,vi n),(12,AV.ptr 0 0 0 0),(16,AV.row (List.length R + 1 + 1 + 1) 0),(17,vi ch),(18,vi (↑(BitVec.ofInt IntKind.i64.bits s ||| BitVec.ofInt IntKind.i64.bits ((1:Int) * 2 ^ min b.toNat IntKind.i64.bits)).toNat:Int)),(19,vi b)] ({ elems:=[ag [AV.row 1 0,AV.vec f 1 (List.map (vi) tl),vi w,AV.row 2 0]],es:=4,ver:=0,frozen:=false,clean:=false } :: { elems:=List.map (vi) nd,es:=1,ver:=0,frozen:=false,clean:=true } :: { elems:=C,es:=1,ver:=0,frozen:=false,clean:=false } :: List.append R [{ elems:=[vi b],es:=((fun x => Try.prog) ()).types[3].size,ver:=0,frozen:=false,clean:=true }])) Q))) :
 Zez f tl nd w n C R ch s t b l m i Q:=by
 unfold Zez
 rcases xq H with ⟨d2,H⟩|⟨d2,H⟩
 ·exact Zab (G:=Zae kp24 [] []) 11 [true] ⟨(atC (cd Try.f24) [1,1,1,1,1,1,1,1,1,1,0,1,0,0,1,0,1,0,1,0,0,1,1,0,0,1,0,0]),[(0,vi n),(12,AV.ptr 0 0 0 0),(16,AV.vnil),(17,vi ch),(18,vi s),(19,vi t),(20,vi b),(21,vi l),(22,vi i),(90,vi m),(91,vi i)],⟨[(zPyB1 f tl w)],4,0,false,false⟩ :: ⟨List.map (vi) nd,1,0,false,true⟩ :: ⟨C,1,0,false,false⟩ :: R,_,[],_⟩ (by kernel_rfl) (bc (Zas (Zaa.2 d2)) b0) q0 c0 (H)
 ·rcases xq H with ⟨d4,H⟩|⟨d4,H⟩
  ·obtain ⟨k6,k7,H⟩:=H
   have w8:wi ((1:Int) * 2 ^ min b.toNat IntKind.i64.bits) = (1:Int) * 2 ^ min b.toNat IntKind.i64.bits:=wI64 k7
   obtain ⟨k9,H⟩:=H
   have w10:wi (↑(BitVec.ofInt IntKind.i64.bits s ||| BitVec.ofInt IntKind.i64.bits ((1:Int) * 2 ^ min b.toNat IntKind.i64.bits)).toNat:Int) = (↑(BitVec.ofInt IntKind.i64.bits s ||| BitVec.ofInt IntKind.i64.bits ((1:Int) * 2 ^ min b.toNat IntKind.i64.bits)).toNat:Int):=wI64 k9
   exact Zab (G:=Zae kp24 [] []) 1000 [false,true] ⟨(atC (cd Try.f24) [1,1,1,1,1,1,1,1,1,1,0,1,0,0]),[(0,vi n),(12,AV.ptr 0 0 0 0),(16,AV.row (List.length R + 1 + 1 + 1) 0),(17,vi l),(18,vi (wi (↑(BitVec.ofInt IntKind.i64.bits s ||| BitVec.ofInt IntKind.i64.bits (wi ((1:Int) * 2 ^ min b.toNat IntKind.i64.bits))).toNat:Int))),(19,vi b)],⟨[(zPyB1 f tl w)],4,0,false,false⟩ :: ⟨List.map (vi) nd,1,0,false,true⟩ :: ⟨C,1,0,false,false⟩ :: List.append R [⟨[vi b],((fun x => Try.prog) ()).types[3].size,0,false,true⟩],_,[],_⟩ (by kernel_rfl) (bc (Zap (fun h => d2 (Zaa.1 h))) (bc (Zas (Zaa.2 d4)) (bc rfl (bc (Zaa.2 k6) b0)))) q0 c0 (by (try rw [w8]);(try rw [w10]);all_goals exact H)
  ·obtain ⟨k12,k13,H⟩:=H
   have w14:wi ((1:Int) * 2 ^ min b.toNat IntKind.i64.bits) = (1:Int) * 2 ^ min b.toNat IntKind.i64.bits:=wI64 k13
   obtain ⟨k15,H⟩:=H
   have w16:wi (↑(BitVec.ofInt IntKind.i64.bits s ||| BitVec.ofInt IntKind.i64.bits ((1:Int) * 2 ^ min b.toNat IntKind.i64.bits)).toNat:Int) = (↑(BitVec.ofInt IntKind.i64.bits s ||| BitVec.ofInt IntKind.i64.bits ((1:Int) * 2 ^ min b.toNat IntKind.i64.bits)).toNat:Int):=wI64 k15
   exact Zab (G:=Zae kp24 [] []) 1000 [false,false] ⟨(atC (cd Try.f24) [1,1,1,1,1,1,1,1,1,1,0,1,0,0]),[(0,vi n),(12,AV.ptr 0 0 0 0),(16,AV.row (List.length R + 1 + 1 + 1) 0),(17,vi ch),(18,vi (wi (↑(BitVec.ofInt IntKind.i64.bits s ||| BitVec.ofInt IntKind.i64.bits (wi ((1:Int) * 2 ^ min b.toNat IntKind.i64.bits))).toNat:Int))),(19,vi b)],⟨[(zPyB1 f tl w)],4,0,false,false⟩ :: ⟨List.map (vi) nd,1,0,false,true⟩ :: ⟨C,1,0,false,false⟩ :: List.append R [⟨[vi b],((fun x => Try.prog) ()).types[3].size,0,false,true⟩],_,[],_⟩ (by kernel_rfl) (bc (Zap (fun h => d2 (Zaa.1 h))) (bc (Zap (fun h => d4 (Zaa.1 h))) (bc rfl (bc (Zaa.2 k12) b0)))) q0 c0 (by (try rw [w14]);(try rw [w16]);all_goals exact H)
theorem zDoN (f:Bool) (tl nd:List Int) (w n:Int) (C:List AV) (R:Heap) (ch s t:Int) (b l m i:Int) (k:Int) (o:Bool)  (Q:AV -> Heap -> Prop) (H :
  ((o = true) -> (-9223372036854775808 <= i + 1 /\ i + 1 <= 9223372036854775807) /\
   Zez (f) (tl) (nd) (w) (n) (C) (R) (ch) (s) (t) (b) (l) (m) (i + 1) Q) /\
  (¬(o = true) -> Wp M1 (.run fi24 (atC (cd Try.f24) [1,1,1,1,1,1,1,1,1,1,0,1,0,0,1,0,1,0,1,0,0,1,1,0,0,1,1,0]) [(0,vi n),(12,AV.ptr 0 0 0 0),(16,AV.vnil),(17,vi ch),(18,vi s),(19,vi t),(20,vi b),(21,vi l),(22,vi k),(90,vi m),(91,vi i),(97,vb o)] ({ elems:=[ag [AV.row 1 0,AV.vec f 1 (List.map (vi) tl),vi w,AV.row 2 0]],es:=4,ver:=0,frozen:=false,clean:=false } :: { elems:=List.map (vi) nd,es:=1,ver:=0,frozen:=false,clean:=true } :: { elems:=C,es:=1,ver:=0,frozen:=false,clean:=false } :: R)) Q)) :
 zDoN_at f tl nd w n C R ch s t b l m i k o Q:=by
 unfold zDoN_at
 rcases xq H with ⟨d2,H⟩|⟨d2,H⟩
 ·obtain ⟨k3,H⟩:=H
  have w4:wi (i + 1) = i + 1:=wI64 k3
  exact Zab (G:=Zae kp24 [] []) 1000 [true] ⟨(atC (cd Try.f24) [1,1,1,1,1,1,1,1,1,1,0,1,0,0,1,0,1,0,1,0,0]),[(0,vi n),(12,AV.ptr 0 0 0 0),(16,AV.vnil),(17,vi ch),(18,vi s),(19,vi t),(20,vi b),(21,vi l),(90,vi m),(91,vi (wi (i + 1)))],⟨[ag [AV.row 1 0,AV.vec f 1 (List.map (vi) tl),vi w,AV.row 2 0]],4,0,false,false⟩ :: ⟨List.map (vi) nd,1,0,false,true⟩ :: ⟨C,1,0,false,false⟩ :: R,[(o) == true],[],_⟩ (by kernel_rfl) (bc (Zas ((Zar _).2 d2)) b0) q0 c0 (by (try rw [w4]);all_goals exact H)
 ·exact Zab (G:=Zae kp24 [] []) 3 [false] ⟨(atC (cd Try.f24) [1,1,1,1,1,1,1,1,1,1,0,1,0,0,1,0,1,0,1,0,0,1,1,0,0,1,1,0]),[(0,vi n),(12,AV.ptr 0 0 0 0),(16,AV.vnil),(17,vi ch),(18,vi s),(19,vi t),(20,vi b),(21,vi l),(22,vi k),(90,vi m),(91,vi i),(97,vb o)],⟨[ag [AV.row 1 0,AV.vec f 1 (List.map (vi) tl),vi w,AV.row 2 0]],4,0,false,false⟩ :: ⟨List.map (vi) nd,1,0,false,true⟩ :: ⟨C,1,0,false,false⟩ :: R,[(o) == false],[],_⟩ (by kernel_rfl) (bc (Zap (fun h => d2 ((Zar _).1 h))) b0) q0 c0 (H)
theorem zDvN (f:Bool) (tl nd:List Int) (w n:Int) (C:List AV) (R:Heap) (ch s t:Int) (b l m i:Int) (k c:Int)  (Q:AV -> Heap -> Prop) (H :
  (((b < 0) \/ (c < l)) -> (-9223372036854775808 <= i + 1 /\ i + 1 <= 9223372036854775807) /\
   Zez (f) (tl) (nd) (w) (n) (C) (R) (ch) (s) (t) (k) (c) (m) (i + 1) Q) /\
  (¬((b < 0) \/ (c < l)) -> (-9223372036854775808 <= i + 1 /\ i + 1 <= 9223372036854775807) /\
   Zez (f) (tl) (nd) (w) (n) (C) (R) (ch) (s) (t) (b) (l) (m) (i + 1) Q)) :
 zDvN_at f tl nd w n C R ch s t b l m i k c Q:=by
 unfold zDvN_at
 rcases xq H with ⟨d2,H⟩|⟨d2,H⟩
 ·obtain ⟨k3,H⟩:=H
  have w4:wi (i + 1) = i + 1:=wI64 k3
  exact Zab (G:=Zae kp24 [] []) 1000 [true] ⟨(atC (cd Try.f24) [1,1,1,1,1,1,1,1,1,1,0,1,0,0,1,0,1,0,1,0,0]),[(0,vi n),(12,AV.ptr 0 0 0 0),(16,AV.vnil),(17,vi ch),(18,vi s),(19,vi t),(20,vi k),(21,vi c),(90,vi m),(91,vi (wi (i + 1)))],⟨[ag [AV.row 1 0,AV.vec f 1 (List.map (vi) tl),vi w,AV.row 2 0]],4,0,false,false⟩ :: ⟨List.map (vi) nd,1,0,false,true⟩ :: ⟨C,1,0,false,false⟩ :: R,_,[],_⟩ (by kernel_rfl) (bc (Zas ((ZaF Zaa Zaa).2 d2)) b0) q0 c0 (by (try rw [w4]);all_goals exact H)
 ·obtain ⟨k5,H⟩:=H
  have w6:wi (i + 1) = i + 1:=wI64 k5
  exact Zab (G:=Zae kp24 [] []) 1000 [false] ⟨(atC (cd Try.f24) [1,1,1,1,1,1,1,1,1,1,0,1,0,0,1,0,1,0,1,0,0]),[(0,vi n),(12,AV.ptr 0 0 0 0),(16,AV.vnil),(17,vi ch),(18,vi s),(19,vi t),(20,vi b),(21,vi l),(90,vi m),(91,vi (wi (i + 1)))],⟨[ag [AV.row 1 0,AV.vec f 1 (List.map (vi) tl),vi w,AV.row 2 0]],4,0,false,false⟩ :: ⟨List.map (vi) nd,1,0,false,true⟩ :: ⟨C,1,0,false,false⟩ :: R,_,[],_⟩ (by kernel_rfl) (bc (Zap (fun h => d2 ((ZaF Zaa Zaa).1 h))) b0) q0 c0 (by (try rw [w6]);all_goals exact H)
theorem zCR (f:Bool) (tl nd:List Int) (w n:Int) (C:List AV) (R:Heap) (O:List Int) (v:Nat) (ch s t:Int)  (Q:AV -> Heap -> Prop) (H :
  ((¬s = w) -> Zey (f) (tl) (nd) (w) (n) (C) (R) (O) (v) (ch) (s) (t) (-1) (0) (n) (0) Q) /\
  (¬(¬s = w) -> Q (tu [AV.row 3 v,vi ch,vi 0]) ({ elems:=[ag [AV.row 1 0,AV.vec f 1 (List.map (vi) tl),vi w,AV.row 2 0]],es:=4,ver:=0,frozen:=false,clean:=false } :: { elems:=List.map (vi) nd,es:=1,ver:=0,frozen:=false,clean:=true } :: { elems:=C,es:=1,ver:=0,frozen:=false,clean:=false } :: { elems:=List.map (vi) O,es:=1,ver:=v,frozen:=false,clean:=true } :: R))) :
 zCR_at f tl nd w n C R O v ch s t Q:=by
 unfold zCR_at
 rcases xq H with ⟨d2,H⟩|⟨d2,H⟩
 ·exact Zab (G:=Zae kp24 [] []) 1000 [true] ⟨(atC (cd Try.f24) [1,1,1,1,1,1,1,1,1,1,0,1,0,0,1,0,1,0,1,0,0]),[(0,vi n),(12,AV.ptr 0 0 0 0),(16,AV.row 3 v),(17,vi ch),(18,vi s),(19,vi t),(20,vi (-1)),(21,vi 0),(90,vi n),(91,vi 0)],⟨[ag [AV.row 1 0,AV.vec f 1 (List.map (vi) tl),vi w,AV.row 2 0]],4,0,false,false⟩ :: ⟨List.map (vi) nd,1,0,false,true⟩ :: ⟨C,1,0,false,false⟩ :: ⟨List.map (vi) O,1,v,false,true⟩ :: R,_,[],_⟩ (by kernel_rfl) (bc rfl (bc (Zas (i_ne.2 d2)) b0)) q0 c0 (H)
 ·exact ZaG (G:=Zae kp24 [] []) 1000 [false] (k:=((atC (cd Try.f24) [1,1,1,1,1,1,1,1,1,1,1,1])).tail) (env':=[(6,AV.row 3 v),(7,vi ch),(8,vi 0)]) (L':=⟨[ag [AV.row 1 0,AV.vec f 1 (List.map (vi) tl),vi w,AV.row 2 0]],4,0,false,false⟩ :: ⟨List.map (vi) nd,1,0,false,true⟩ :: ⟨C,1,0,false,false⟩ :: ⟨List.map (vi) O,1,v,false,true⟩ :: R) (asm:=[true,(s != w) == false]) (eqs:=[]) (calls:=[]) (tu [AV.row 3 v,vi ch,vi 0]) (by kernel_rfl) (by kernel_rfl) (Zaf rfl (Zaf (Zap (fun h => d2 (i_ne.1 h))) Zak)) Zal ZaJ H
noncomputable abbrev zPyB2 (f:Bool) (tl:List Int) (w:Int):=ag [AV.row 1 0,AV.vec f 1 (List.map vi tl),vi w,AV.row 2 0]
theorem zDR (f:Bool) (tl nd:List Int) (w n:Int) (C:List AV) (R:Heap) (O:List Int) (v:Nat) (ch s t:Int) (b l m i:Int)  (Q:AV -> Heap -> Prop) (H :
  ((i < m) -> Wp M1 (.run fi24 (atC (cd Try.f24) [1,1,1,1,1,1,1,1,1,1,0,1,0,0,1,0,1,0,1,0,0,1,1,0,0,1,0,0]) [(0,vi n),(12,AV.ptr 0 0 0 0),(16,AV.row 3 v),(17,vi ch),(18,vi s),(19,vi t),(20,vi b),(21,vi l),(22,vi i),(90,vi m),(91,vi i)] ({ elems:=[ag [AV.row 1 0,AV.vec f 1 (List.map (vi) tl),vi w,AV.row 2 0]],es:=4,ver:=0,frozen:=false,clean:=false } :: { elems:=List.map (vi) nd,es:=1,ver:=0,frozen:=false,clean:=true } :: { elems:=C,es:=1,ver:=0,frozen:=false,clean:=false } :: { elems:=List.map (vi) O,es:=1,ver:=v,frozen:=false,clean:=true } :: R)) Q) /\
  (¬(i < m) -> ((t < 0) -> ((O.length + 1) * 8 <= 1099511627776) /\
    (0 <= b) /\
    (-9223372036854775808 <= (1:Int) * 2 ^ min b.toNat IntKind.i64.bits /\ (1:Int) * 2 ^ min b.toNat IntKind.i64.bits <= 9223372036854775807) /\
    (-9223372036854775808 <= (↑(BitVec.ofInt IntKind.i64.bits s ||| BitVec.ofInt IntKind.i64.bits ((1:Int) * 2 ^ min b.toNat IntKind.i64.bits)).toNat:Int) /\ (↑(BitVec.ofInt IntKind.i64.bits s ||| BitVec.ofInt IntKind.i64.bits ((1:Int) * 2 ^ min b.toNat IntKind.i64.bits)).toNat:Int) <= 9223372036854775807) /\
    zCR_at (f) (tl) (nd) (w) (n) (C) (R) (O ++ [b]) (v + 1) (l) ((↑(BitVec.ofInt IntKind.i64.bits s ||| BitVec.ofInt IntKind.i64.bits ((1:Int) * 2 ^ min b.toNat IntKind.i64.bits)).toNat:Int)) (b) Q) /\
   (¬(t < 0) -> ((O.length + 1) * 8 <= 1099511627776) /\
    (0 <= b) /\
    (-9223372036854775808 <= (1:Int) * 2 ^ min b.toNat IntKind.i64.bits /\ (1:Int) * 2 ^ min b.toNat IntKind.i64.bits <= 9223372036854775807) /\
    (-9223372036854775808 <= (↑(BitVec.ofInt IntKind.i64.bits s ||| BitVec.ofInt IntKind.i64.bits ((1:Int) * 2 ^ min b.toNat IntKind.i64.bits)).toNat:Int) /\ (↑(BitVec.ofInt IntKind.i64.bits s ||| BitVec.ofInt IntKind.i64.bits ((1:Int) * 2 ^ min b.toNat IntKind.i64.bits)).toNat:Int) <= 9223372036854775807) /\
    zCR_at (f) (tl) (nd) (w) (n) (C) (R) (O ++ [b]) (v + 1) (ch) ((↑(BitVec.ofInt IntKind.i64.bits s ||| BitVec.ofInt IntKind.i64.bits ((1:Int) * 2 ^ min b.toNat IntKind.i64.bits)).toNat:Int)) (b) Q))) :
 Zey f tl nd w n C R O v ch s t b l m i Q:=by
 unfold Zey
 rcases xq H with ⟨d2,H⟩|⟨d2,H⟩
 ·exact Zab (G:=Zae kp24 [] []) 11 [true] ⟨(atC (cd Try.f24) [1,1,1,1,1,1,1,1,1,1,0,1,0,0,1,0,1,0,1,0,0,1,1,0,0,1,0,0]),[(0,vi n),(12,AV.ptr 0 0 0 0),(16,AV.row 3 v),(17,vi ch),(18,vi s),(19,vi t),(20,vi b),(21,vi l),(22,vi i),(90,vi m),(91,vi i)],⟨[(zPyB2 f tl w)],4,0,false,false⟩ :: ⟨List.map (vi) nd,1,0,false,true⟩ :: ⟨C,1,0,false,false⟩ :: ⟨List.map (vi) O,1,v,false,true⟩ :: R,_,[],_⟩ (by kernel_rfl) (bc (Zas (Zaa.2 d2)) b0) q0 c0 (H)
 ·rcases xq H with ⟨d4,H⟩|⟨d4,H⟩
  ·have w5:(List.map (vi) O).length = O.length:=List.length_map ..
   have i6:(decide (((List.map (vi) O).length + 1) * 8 <= 1099511627776)) = true ↔ ((O.length + 1) * 8 <= 1099511627776):=(by (try rw [w5]);all_goals exact Zaa)
   obtain ⟨k7,H⟩:=H
   have w8:List.map (vi) O ++ [vi b] = List.map (vi) (O ++ [b]):=(Zfy rfl rfl)
   obtain ⟨k10,k11,H⟩:=H
   have w12:wi ((1:Int) * 2 ^ min b.toNat IntKind.i64.bits) = (1:Int) * 2 ^ min b.toNat IntKind.i64.bits:=wI64 k11
   obtain ⟨k13,H⟩:=H
   have w14:wi (↑(BitVec.ofInt IntKind.i64.bits s ||| BitVec.ofInt IntKind.i64.bits ((1:Int) * 2 ^ min b.toNat IntKind.i64.bits)).toNat:Int) = (↑(BitVec.ofInt IntKind.i64.bits s ||| BitVec.ofInt IntKind.i64.bits ((1:Int) * 2 ^ min b.toNat IntKind.i64.bits)).toNat:Int):=wI64 k13
   exact Zab (G:=Zae kp24 [] []) 1000 [false,true] ⟨(atC (cd Try.f24) [1,1,1,1,1,1,1,1,1,1,0,1,0,0]),[(0,vi n),(12,AV.ptr 0 0 0 0),(16,AV.row 3 (v + 1)),(17,vi l),(18,vi (wi (↑(BitVec.ofInt IntKind.i64.bits s ||| BitVec.ofInt IntKind.i64.bits (wi ((1:Int) * 2 ^ min b.toNat IntKind.i64.bits))).toNat:Int))),(19,vi b)],⟨[(zPyB2 f tl w)],4,0,false,false⟩ :: ⟨List.map (vi) nd,1,0,false,true⟩ :: ⟨C,1,0,false,false⟩ :: ⟨List.map (vi) O ++ [vi b],1,v + 1,false,true⟩ :: R,[(decide (i < m)) == false,(decide (t < 0)) == true,v == v,decide (((List.map (vi) O).length + 1) * 8 <= 1099511627776),decide (0 <= b)],[],_⟩ (by kernel_rfl) (bc (Zap (fun h => d2 (Zaa.1 h))) (bc (Zas (Zaa.2 d4)) (bc (beq_self_eq_true _) (bc (i6.2 k7) (bc (Zaa.2 k10) b0))))) q0 c0 (by (try rw [w8]);(try rw [w12]);(try rw [w14]);all_goals exact H)
  ·have w15:(List.map (vi) O).length = O.length:=List.length_map ..
   have i16:(decide (((List.map (vi) O).length + 1) * 8 <= 1099511627776)) = true ↔ ((O.length + 1) * 8 <= 1099511627776):=(by (try rw [w15]);all_goals exact Zaa)
   obtain ⟨k17,H⟩:=H
   have w18:List.map (vi) O ++ [vi b] = List.map (vi) (O ++ [b]):=(Zfy rfl rfl)
   obtain ⟨k20,k21,H⟩:=H
   have w22:wi ((1:Int) * 2 ^ min b.toNat IntKind.i64.bits) = (1:Int) * 2 ^ min b.toNat IntKind.i64.bits:=wI64 k21
   obtain ⟨k23,H⟩:=H
   have w24:wi (↑(BitVec.ofInt IntKind.i64.bits s ||| BitVec.ofInt IntKind.i64.bits ((1:Int) * 2 ^ min b.toNat IntKind.i64.bits)).toNat:Int) = (↑(BitVec.ofInt IntKind.i64.bits s ||| BitVec.ofInt IntKind.i64.bits ((1:Int) * 2 ^ min b.toNat IntKind.i64.bits)).toNat:Int):=wI64 k23
   exact Zab (G:=Zae kp24 [] []) 1000 [false,false] ⟨(atC (cd Try.f24) [1,1,1,1,1,1,1,1,1,1,0,1,0,0]),[(0,vi n),(12,AV.ptr 0 0 0 0),(16,AV.row 3 (v + 1)),(17,vi ch),(18,vi (wi (↑(BitVec.ofInt IntKind.i64.bits s ||| BitVec.ofInt IntKind.i64.bits (wi ((1:Int) * 2 ^ min b.toNat IntKind.i64.bits))).toNat:Int))),(19,vi b)],⟨[(zPyB2 f tl w)],4,0,false,false⟩ :: ⟨List.map (vi) nd,1,0,false,true⟩ :: ⟨C,1,0,false,false⟩ :: ⟨List.map (vi) O ++ [vi b],1,v + 1,false,true⟩ :: R,[(decide (i < m)) == false,(decide (t < 0)) == false,v == v,decide (((List.map (vi) O).length + 1) * 8 <= 1099511627776),decide (0 <= b)],[],_⟩ (by kernel_rfl) (bc (Zap (fun h => d2 (Zaa.1 h))) (bc (Zap (fun h => d4 (Zaa.1 h))) (bc (beq_self_eq_true _) (bc (i16.2 k17) (bc (Zaa.2 k20) b0))))) q0 c0 (by (try rw [w18]);(try rw [w22]);(try rw [w24]);all_goals exact H)
theorem zDoR (f:Bool) (tl nd:List Int) (w n:Int) (C:List AV) (R:Heap) (O:List Int) (v:Nat) (ch s t:Int) (b l m i:Int) (k:Int) (o:Bool)  (Q:AV -> Heap -> Prop) (H :
  ((o = true) -> (-9223372036854775808 <= i + 1 /\ i + 1 <= 9223372036854775807) /\
   Zey (f) (tl) (nd) (w) (n) (C) (R) (O) (v) (ch) (s) (t) (b) (l) (m) (i + 1) Q) /\
  (¬(o = true) -> Wp M1 (.run fi24 (atC (cd Try.f24) [1,1,1,1,1,1,1,1,1,1,0,1,0,0,1,0,1,0,1,0,0,1,1,0,0,1,1,0]) [(0,vi n),(12,AV.ptr 0 0 0 0),(16,AV.row 3 v),(17,vi ch),(18,vi s),(19,vi t),(20,vi b),(21,vi l),(22,vi k),(90,vi m),(91,vi i),(97,vb o)] ({ elems:=[ag [AV.row 1 0,AV.vec f 1 (List.map (vi) tl),vi w,AV.row 2 0]],es:=4,ver:=0,frozen:=false,clean:=false } :: { elems:=List.map (vi) nd,es:=1,ver:=0,frozen:=false,clean:=true } :: { elems:=C,es:=1,ver:=0,frozen:=false,clean:=false } :: { elems:=List.map (vi) O,es:=1,ver:=v,frozen:=false,clean:=true } :: R)) Q)) :
 zDoR_at f tl nd w n C R O v ch s t b l m i k o Q:=by
 unfold zDoR_at
 rcases xq H with ⟨d2,H⟩|⟨d2,H⟩
 ·obtain ⟨k3,H⟩:=H
  have w4:wi (i + 1) = i + 1:=wI64 k3
  exact Zab (G:=Zae kp24 [] []) 1000 [true] ⟨(atC (cd Try.f24) [1,1,1,1,1,1,1,1,1,1,0,1,0,0,1,0,1,0,1,0,0]),[(0,vi n),(12,AV.ptr 0 0 0 0),(16,AV.row 3 v),(17,vi ch),(18,vi s),(19,vi t),(20,vi b),(21,vi l),(90,vi m),(91,vi (wi (i + 1)))],⟨[ag [AV.row 1 0,AV.vec f 1 (List.map (vi) tl),vi w,AV.row 2 0]],4,0,false,false⟩ :: ⟨List.map (vi) nd,1,0,false,true⟩ :: ⟨C,1,0,false,false⟩ :: ⟨List.map (vi) O,1,v,false,true⟩ :: R,[(o) == true],[],_⟩ (by kernel_rfl) (bc (Zas ((Zar _).2 d2)) b0) q0 c0 (by (try rw [w4]);all_goals exact H)
 ·exact Zab (G:=Zae kp24 [] []) 3 [false] ⟨(atC (cd Try.f24) [1,1,1,1,1,1,1,1,1,1,0,1,0,0,1,0,1,0,1,0,0,1,1,0,0,1,1,0]),[(0,vi n),(12,AV.ptr 0 0 0 0),(16,AV.row 3 v),(17,vi ch),(18,vi s),(19,vi t),(20,vi b),(21,vi l),(22,vi k),(90,vi m),(91,vi i),(97,vb o)],⟨[ag [AV.row 1 0,AV.vec f 1 (List.map (vi) tl),vi w,AV.row 2 0]],4,0,false,false⟩ :: ⟨List.map (vi) nd,1,0,false,true⟩ :: ⟨C,1,0,false,false⟩ :: ⟨List.map (vi) O,1,v,false,true⟩ :: R,[(o) == false],[],_⟩ (by kernel_rfl) (bc (Zap (fun h => d2 ((Zar _).1 h))) b0) q0 c0 (H)
theorem zDvR (f:Bool) (tl nd:List Int) (w n:Int) (C:List AV) (R:Heap) (O:List Int) (v:Nat) (ch s t:Int) (b l m i:Int) (k c:Int)  (Q:AV -> Heap -> Prop) (H :
  (((b < 0) \/ (c < l)) -> (-9223372036854775808 <= i + 1 /\ i + 1 <= 9223372036854775807) /\
   Zey (f) (tl) (nd) (w) (n) (C) (R) (O) (v) (ch) (s) (t) (k) (c) (m) (i + 1) Q) /\
  (¬((b < 0) \/ (c < l)) -> (-9223372036854775808 <= i + 1 /\ i + 1 <= 9223372036854775807) /\
   Zey (f) (tl) (nd) (w) (n) (C) (R) (O) (v) (ch) (s) (t) (b) (l) (m) (i + 1) Q)) :
 zDvR_at f tl nd w n C R O v ch s t b l m i k c Q:=by
 unfold zDvR_at
 rcases xq H with ⟨d2,H⟩|⟨d2,H⟩
 ·obtain ⟨k3,H⟩:=H
  have w4:wi (i + 1) = i + 1:=wI64 k3
  exact Zab (G:=Zae kp24 [] []) 1000 [true] ⟨(atC (cd Try.f24) [1,1,1,1,1,1,1,1,1,1,0,1,0,0,1,0,1,0,1,0,0]),[(0,vi n),(12,AV.ptr 0 0 0 0),(16,AV.row 3 v),(17,vi ch),(18,vi s),(19,vi t),(20,vi k),(21,vi c),(90,vi m),(91,vi (wi (i + 1)))],⟨[ag [AV.row 1 0,AV.vec f 1 (List.map (vi) tl),vi w,AV.row 2 0]],4,0,false,false⟩ :: ⟨List.map (vi) nd,1,0,false,true⟩ :: ⟨C,1,0,false,false⟩ :: ⟨List.map (vi) O,1,v,false,true⟩ :: R,_,[],_⟩ (by kernel_rfl) (bc (Zas ((ZaF Zaa Zaa).2 d2)) b0) q0 c0 (by (try rw [w4]);all_goals exact H)
 ·obtain ⟨k5,H⟩:=H
  have w6:wi (i + 1) = i + 1:=wI64 k5
  exact Zab (G:=Zae kp24 [] []) 1000 [false] ⟨(atC (cd Try.f24) [1,1,1,1,1,1,1,1,1,1,0,1,0,0,1,0,1,0,1,0,0]),[(0,vi n),(12,AV.ptr 0 0 0 0),(16,AV.row 3 v),(17,vi ch),(18,vi s),(19,vi t),(20,vi b),(21,vi l),(90,vi m),(91,vi (wi (i + 1)))],⟨[ag [AV.row 1 0,AV.vec f 1 (List.map (vi) tl),vi w,AV.row 2 0]],4,0,false,false⟩ :: ⟨List.map (vi) nd,1,0,false,true⟩ :: ⟨C,1,0,false,false⟩ :: ⟨List.map (vi) O,1,v,false,true⟩ :: R,_,[],_⟩ (by kernel_rfl) (bc (Zap (fun h => d2 ((ZaF Zaa Zaa).1 h))) b0) q0 c0 (by (try rw [w6]);all_goals exact H)
end Go.Av

namespace Go.Av
open Go.Proofs
noncomputable def bsO11:Array Oper:=match atC (cd Try.f24) [1,1,1,1,1,0] with
 | .code (.region _ ops _) :: _ => ops
 | _ => #[]
noncomputable def bsK:List Item:=(atC (cd Try.f24) [1,1,1,1,1,0]).tail
theorem bsC:atC (cd Try.f24) [1,1,1,1,1,0] = .code (.region 11 bsO11 true)::bsK:=by kernel_rfl
theorem bsK1:bsK=atC (cd Try.f24) [1,1,1,1,1,1]:=by kernel_rfl
def bsF (n:Int):Int:=IntKind.i64.wrap (IntKind.i64.wrap (1*2 ^ (min n.toNat IntKind.i64.bits))-1)
noncomputable def bsX (n:Int) (f g b:Bool) (e:Int) (ps tl:List AV) (σ:List Nat):=ordX M1 (fun _ _ _=>none) fi24.n bsO11 (fun _=>none) [0,1,12] [9,1,7] [(0,.int .i64 n),(1,.vec g 2 ps),(2,.vec f 1 tl),(11,.int .i64 e),(43,.bool b)] [] σ
def bsA1 (n b:Int):List Bool:=[decide (0<=n),decide (n<=n),decide (n*b<=1099511627776),decide (n<=1099511627776)]
def bsA (n:Int) (σ:List Nat):List Bool:=(bif Nat.beq (Zah σ 1) 0 then bsA1 n 8++decide (0<=n)::bsA1 n 24 else bif Nat.blt (Zah σ 1) (Zah σ 7) then decide (0<=n)::(bsA1 n 8++bsA1 n 24) else decide (0<=n)::(bsA1 n 24++bsA1 n 8))++[0==0]
def bsV (n:Int) (g:Bool) (ps:List AV):Vars:=[(0,.int .i64 n),(1,.vec g 2 ps),(12,.ptr 0 0 0 0)]
def bsH (n:Int) (f:Bool) (tl:List AV):Heap:=[⟨[.agg [.row 1 0,.vec f 1 tl,.int .i64 (bsF n),.row 2 0]],4,0,false,false⟩,⟨List.replicate n.toNat (.int .i64 0),1,0,false,true⟩,⟨List.replicate n.toNat .vnil,1,0,false,true⟩]
theorem bsX_all (n:Int) (f g b:Bool) (e:Int) (ps tl:List AV):∀ σ ∈ [[9,1,7],[1,9,7],[1,7,9],[9,7,1],[7,9,1],[7,1,9]],bsX n f g b e ps tl σ = some (bsV n g ps,bsH n f tl,bsA n σ,[],[]):=by
 intro σ h
 simp only [List.mem_cons,List.not_mem_nil,or_false] at h
 rcases h with h | h | h | h | h | h <;> subst h <;> kernel_rfl
theorem bsA_ok {n:Int} (h:0 <= n /\ n <= 1000000) (σ:List Nat):∀ b ∈ bsA n σ,b = true:=by
 intro b hb
 unfold bsA bsA1 at hb
 have h0:(0 == 0) = true:=rfl
 cases hc:Nat.beq (Zah σ 1) 0 <;> cases hd:Nat.blt (Zah σ 1) (Zah σ 7) <;> rw [hc,hd] at hb <;> simp only [cond_true,cond_false,List.mem_append,List.mem_cons,List.not_mem_nil,or_false] at hb
 all_goals
  rcases hb with hb | rfl
  ·rcases hb with hb | hb
   all_goals
    first
     | (subst hb;exact decide_eq_true (by omega))
     | (rcases hb with rfl | rfl | rfl | rfl <;> exact decide_eq_true (by omega))
     | (rcases hb with rfl | rfl | rfl | rfl | rfl <;> exact decide_eq_true (by omega))
     | (rcases hb with (rfl | rfl | rfl | rfl) | rfl | rfl | rfl | rfl <;> exact decide_eq_true (by omega))
  ·rfl
theorem bs_lay {n:Int} {f g b:Bool} {e:Int} {ps tl:List AV} {Q:AV -> Heap -> Prop} (h:0 <= n /\ n <= 1000000) (H:Wp M1 (.run fi24 (atC (cd Try.f24) [1,1,1,1,1,1]) (bsV n g ps) (bsH n f tl)) Q) :
  Wp M1 (.run fi24 (atC (cd Try.f24) [1,1,1,1,1,0]) [(0,.int .i64 n),(1,.vec g 2 ps),(2,.vec f 1 tl),(11,.int .i64 e),(43,.bool b)] []) Q:=by
 rw [bsC,bsK1]
 exact wp_any3 hm1 (id:=11) (ops:=bsO11) (c:=9) (d:=1) (g:=7) (a1:=bsA n) rfl (bsX_all n f g b e ps tl) (bsA_ok h) H
end Go.Av

namespace Go.Av
open Go.Proofs
def HBn (n:Nat) (ps:List Pr) (tl nd:List Int) (f:Bool) (w:Int) (C:List AV) (R:Heap):Prop:=∃ M ρ,MX3 (sH f tl nd w C R) C M ρ/\MemoM n ps tl M
section
variable {n:Nat} {ps:List Pr} {tl nd:List Int} {f g:Bool} {w:Int}
theorem sH_refs {C:List AV} {R:Heap} (r:Nat) (row:Row) (hr:r < 3) (hno:r ∉ [2]) (h:(sH f tl nd w C R)[r]? = some row):∀ s ∈ Zag row,s < 3:=by
 have:r = 0 \/ r = 1:=by
  simp only [List.mem_cons,List.not_mem_nil,or_false] at hno
  omega
 rcases this with rfl | rfl
 ·have e:row = sF f tl w:=(Option.some.inj h).symm
  subst e
  intro s hs
  simp [Zag,rowsL,rowsA] at hs;omega
 ·have e:row = iR nd:=(Option.some.inj h).symm
  subst e
  intro s hs;simp [Zag] at hs
theorem sb_base:MX3 (sH f tl nd w (List.replicate n .vnil) []) (List.replicate n .vnil) (List.replicate n none) (fun _ => 0):=by
 have no:∀ (j:Nat) (row:Row),(List.replicate n (none:Option Row))[j]? = some (some row) -> False:=fun j row h => by
  rw [List.getElem?_replicate] at h
  split at h
  ·cases h
  ·cases h
 refine ⟨by simp,by simp,fun u hu => ?_,fun r row hr hno hrow => sH_refs r row hr hno hrow,fun r row hr hrow => ?_,fun u _ j row h => (no j row h).elim,fun u _ j h => ?_,fun u _ w _ i j r s h => (no i r h).elim,fun u _ j row h => (no j row h).elim⟩
 ·rw [List.mem_singleton] at hu
  subst hu
  exact ⟨rfl,by simp⟩
 ·have:=(List.getElem?_eq_some_iff.1 hrow).1
  simp at this;omega
 ·rw [List.getElem?_replicate] at h ⊢
  split at h
  ·rename_i hj;rw [if_pos hj]
  ·cases h
def tbM (n i:Nat) (M:List (Option Row)):Prop:=M.length=n /\ ∀ j,j<n->M[j]? = some (if j<i then some (iR (List.replicate (2 ^ n) 0)) else none)
theorem tbM_set {i:Nat} {M:List (Option Row)} (h:tbM n i M) (hi:i < n):tbM n (i + 1) (M.set i (some (iR (List.replicate (2 ^ n) 0)))):=by
 refine ⟨by rw [List.length_set];exact h.1,fun j hj => ?_⟩
 rw [List.getElem?_set]
 by_cases e:i = j
 ·rw [if_pos e,if_pos (by rw [h.1];omega),if_pos (by omega)]
 ·rw [if_neg e,h.2 j hj]
  by_cases h1:j < i
  ·rw [if_pos h1,if_pos (by omega)]
  ·rw [if_neg h1,if_neg (by omega)]
theorem tb_memo {M:List (Option Row)} (h:tbM n n M):MemoM n ps tl M:=⟨h.1,fun t ht => ⟨_,by rw [h.2 t ht,if_pos ht],by simp,fun c s hg => by
 rw [List.getD_eq_getElem?_getD,List.getElem?_replicate,if_pos (Zci hg)];exact .inl rfl⟩⟩
theorem sh_pow (hn:n <= 16):(1:Int) * 2 ^ min ((n:Nat):Int).toNat IntKind.i64.bits = ((2 ^ n:Nat):Int):=by
 rw [Int.toNat_natCast,show min n IntKind.i64.bits = n by show min n 64 = n;omega,Int.one_mul];simp
theorem rep_zero (m:Nat):List.replicate m (ofC (.int .i64 0))=(List.replicate m (0:Int)).map (.int .i64):=by rw [List.map_replicate];rfl
theorem tb_row {m:Nat} {q:Nat} (hq:q = 1):(⟨List.replicate (((m:Nat):Int)).toNat (ofC (.int .i64 0)),q,0,false,true⟩:Row) = iR (List.replicate m 0):=by
 rw [Int.toNat_natCast,rep_zero,hq]
theorem tb_loop {Q:AV -> Heap -> Prop} (hn:n <= 16) (H:∀ C R,HBn n ps tl nd f w C R -> Ze1 f g ps tl nd n w C R ps.length 0 Q):∀ (d i:Nat) (C:List AV) (R:Heap) (M:List (Option Row)) (ρ:Nat -> Nat),i + d = n -> MX3 (sH f tl nd w C R) C M ρ -> tbM n i M -> zBA_at f g ps tl nd n w C R n i Q:=by
 have hp:=pow16 hn
 intro d
 induction d with
 | zero =>
  intro i C R M ρ hi hx hM
  have hi:i = n:=by omega
  subst hi
  exact zBA _ _ _ _ _ _ _ _ _ _ _ _ ⟨fun z => absurd z (by omega),fun _ => H C R ⟨M,ρ,hx,tb_memo hM⟩⟩
 | succ d ih =>
  intro i C R M ρ hi hx hM
  have hil:i < n:=by omega
  have ho:=(hx.out 2 (by simp)).2
  have hCl:C.length = n:=by rw [ho];exact hM.1
  have hnil:=hx.nil 2 (by simp) i (by show M[i]? = some none;rw [hM.2 i hil,if_neg (by omega)])
  have hc:=Zdp (Mx.cell hx (u:=2) (a:=i) (by simp) (by show i < M.length;rw [hM.1];exact hil) (rb:=iR (List.replicate (2 ^ n) 0)) rfl)
  rw [if_pos rfl,if_pos rfl] at hc
  have hnx:=ih (i + 1) _ _ _ _ (by omega) hc (tbM_set hM hil)
  refine zBA _ _ _ _ _ _ _ _ _ _ _ _ ⟨fun _ => ?_,fun z => absurd (by omega) z⟩
  rw [sh_pow hn,Int.toNat_natCast,tb_row es3]
  generalize 2 ^ n = q at *
  exact ⟨by omega,by omega,by omega,by omega,by omega,by omega,by omega,hnil,by omega,hnx⟩
theorem tb_first {Q:AV -> Heap -> Prop} (hn:n <= 16) (h0:0 < n) (H:∀ C R,HBn n ps tl nd f w C R -> Ze1 f g ps tl nd n w C R ps.length 0 Q):zBi_at f g ps tl nd n w (List.replicate n .vnil) [] Q:=by
 have hp:=pow16 hn
 have hM:tbM n 0 (List.replicate n none):=⟨by simp,fun j hj => by rw [List.getElem?_replicate,if_pos hj,if_neg (by omega)]⟩
 have hnil:(List.replicate n AV.vnil)[0]? = some .vnil:=by rw [List.getElem?_replicate,if_pos h0]
 have hc:=Zdp (Mx.cell (sb_base (f:=f) (tl:=tl) (nd:=nd) (w:=w) (n:=n)) (u:=2) (a:=0) (by simp) (by simpa using h0) (rb:=iR (List.replicate (2 ^ n) 0)) rfl)
 rw [if_pos rfl,if_pos rfl] at hc
 have hnx:=tb_loop (g:=g) hn H (n - 1) 1 _ _ _ _ (by omega) hc (tbM_set hM h0)
 refine zBi _ _ _ _ _ _ _ _ _ _ ?_
 rw [List.length_replicate]
 refine zBA0 _ _ _ _ _ _ _ _ _ _ _ _ ⟨fun _ => ?_,fun z => absurd (by omega) z⟩
 rw [sh_pow hn,tb_row es3]
 generalize 2 ^ n = q at *
 exact ⟨by omega,by omega,by omega,by omega,by omega,by omega,by simpa using h0,hnil,by omega,hnx⟩
theorem nds_snoc (qs:List Pr) (p:Pr) (k:Int):Sp.nds (qs ++ [p]) k = if p.b = k then Sp.nds qs k ||| 2 ^ p.a.toNat else Sp.nds qs k:=by
 unfold Sp.nds
 rw [List.foldl_append];rfl
theorem ndL_snoc {qs:List Pr} {p:Pr} (hb:0 <= p.b /\ p.b < n):Sp.ndL n (qs ++ [p]) = (Sp.ndL n qs).set p.b.toNat ((Sp.nds qs p.b ||| 2 ^ p.a.toNat:Nat):Int):=by
 unfold Sp.ndL
 apply List.ext_getElem?
 intro j
 rw [List.getElem?_set,List.getElem?_map,List.length_map,List.length_range]
 by_cases hj:j < n
 ·rw [List.getElem?_range hj,Option.map_some,nds_snoc]
  by_cases e:p.b.toNat = j
  ·rw [if_pos e,if_pos (show p.b.toNat < n by omega),if_pos (show p.b = (j:Int) by omega),show ((j:Nat):Int) = p.b by omega]
  ·rw [if_neg e,if_neg (by omega),List.getElem?_map,List.getElem?_range hj];rfl
 ·rw [List.getElem?_eq_none (by simp;omega),Option.map_none]
  rw [if_neg (by omega),List.getElem?_map,List.getElem?_eq_none (by simp;omega)];rfl
theorem ndL_nil (n:Nat):Sp.ndL n [] = List.replicate n 0:=by
 unfold Sp.ndL
 apply List.ext_getElem?
 intro j
 rw [List.getElem?_map,List.getElem?_replicate]
 by_cases hj:j < n
 ·rw [List.getElem?_range hj,if_pos hj];rfl
 ·rw [List.getElem?_eq_none (by simp;omega),if_neg hj];rfl
noncomputable def bsO19:Array Oper:=match atC (cd Try.f24) [1,1,1,1,1,1,1,0,1,0,0,1,1,0,0,0] with
 | .code (.region _ ops _) :: _ => ops
 | _ => #[]
theorem bsC19:atC (cd Try.f24) [1,1,1,1,1,1,1,0,1,0,0,1,1,0,0,0] = .code (.region 19 bsO19 false)::atC (cd Try.f24) [1,1,1,1,1,1,1,0,1,0,0,1,1,0,0,1]:=by kernel_rfl
def bsE19 (n:Int) (g b:Bool) (ps:List AV) (m i:Int):Vars:=[(0,.int .i64 n),(12,AV.ptr 0 0 0 0),(68,.vec g 2 ps),(69,.int .i64 m),(70,.int .i64 i),(71,.bool b)]
noncomputable def bsT (n:Int) (g b:Bool) (ps:List AV) (x y m i:Int) (L:Heap) (z:AV) (q:List Bool):RS:=⟨(15,[],.ptr L.length 0 0 0)::(73,[],rdP x y)::(72,[],.eptr 2 ps i.toNat 0)::lift (bsE19 n g b ps m i),L++[⟨[z],2,0,false,false⟩],[decide (0<=i),decide (i.toNat<ps.length)]++q,[ps[i.toNat]? = some (rdP x y)],[]⟩
theorem bsS2_eq (n:Int) (g b:Bool) (ps:List AV) (x y m i:Int) (L:Heap):Zaj M1.P M1.inl (fun _ _ _=>none) fi24.n bsO19 (Zfh (rdP x y)) (fun _=>2) [0,1,2] ⟨lift (bsE19 n g b ps m i),L,[],[],[]⟩=some (bsT n g b ps x y m i L (rdP 0 0) []):=by kernel_rfl
noncomputable def Zgy:Oper:=match bsO19[3]? with
 | some o => o
 | none => ⟨none,.load 47 (.tmp 7),0,"",#[],none⟩
theorem bsO19_3:bsO19[3]? = some Zgy:=by kernel_rfl
theorem bsO19_g:Zgy.guard=none:=by kernel_rfl
theorem bsO19_d:Zgy.dst=none:=by kernel_rfl
theorem bsO19_o:Zgy.op = .store 47 (.tmp 15) (.tmp 73):=by kernel_rfl
theorem bsO19_run (n:Int) (g b:Bool) (ps:List AV) (x y m i:Int) (L:Heap):Zaj M1.P M1.inl (fun _ _ _ => none) fi24.n bsO19 (Zfh (rdP x y)) (fun _ => 2) (List.range bsO19.size) ⟨lift (bsE19 n g b ps m i),L,[],[],[]⟩ = some (bsT n g b ps x y m i L (rdP x y) [0 == 0]):=by
 have hr:List.range bsO19.size = [0,1,2] ++ [3]:=by kernel_rfl
 rw [hr,ZdH,bsS2_eq,Option.bind_some]
 have ho:=bsO19_3
 have hs:ZaO M1.P M1.inl (fun _ _ _ => none) (Zfh (rdP x y) 3) (fun ex => ev (bsT n g b ps x y m i L (rdP 0 0) []).env (ex ++ [])) (bsT n g b ps x y m i L (rdP 0 0) []).L Zgy = some { v:=.tup [],L':=some (L ++ [⟨[rdP x y],2,0,false,false⟩]),asm:=[0 == 0] }:=by
  unfold ZaO
  rw [bsO19_o]
  show ZcP M1.P none (L ++ [⟨[rdP 0 0],2,0,false,false⟩]) 47 (.ptr L.length 0 0 0) (rdP x y) = _
  rw [Zga]
  kernel_rfl
 have h3:Za6 M1.P M1.inl (fun _ _ _ => none) fi24.n bsO19 (Zfh (rdP x y) 3) 2 Zgy (bsT n g b ps x y m i L (rdP 0 0) []) = some (bsT n g b ps x y m i L (rdP x y) [0 == 0]):=
  ZbF.2 ⟨_,_,(Zb7 bsO19_g).2 ⟨_,hs,rfl,rfl⟩,by rw [bsO19_d];rfl,rfl⟩
 simp only [Zaj,ho,h3]
theorem bsF19 (n:Int) (g b:Bool) (ps:List AV) (x y m i:Int) (L:Heap):Zbc [0,12,15,68,69,70] (bsT n g b ps x y m i L (rdP x y) [0==0]).env=[(0,.int .i64 n),(12,AV.ptr 0 0 0 0),(15,.ptr L.length 0 0 0),(68,.vec g 2 ps),(69,.int .i64 m),(70,.int .i64 i)]:=by kernel_rfl
theorem bs19 {n:Int} {g b:Bool} {ps:List AV} {x y m i:Int} {L:Heap} {Q:AV -> Heap -> Prop} (hi:0 <= i) (hl:i.toNat < ps.length) (hx:ps[i.toNat]? = some (rdP x y))
  (H:Wp M1 (.run fi24 (atC (cd Try.f24) [1,1,1,1,1,1,1,0,1,0,0,1,1,0,0,1]) [(0,.int .i64 n),(12,AV.ptr 0 0 0 0),(15,.ptr L.length 0 0 0),(68,.vec g 2 ps),(69,.int .i64 m),(70,.int .i64 i)] (L ++ [⟨[rdP x y],2,0,false,false⟩])) Q) :
  Wp M1 (.run fi24 (atC (cd Try.f24) [1,1,1,1,1,1,1,0,1,0,0,1,1,0,0,0]) (bsE19 n g b ps m i) L) Q:=by
 rw [bsC19]
 refine .region (fun _ _ _ => none) (Zfh (rdP x y)) (fun _ => 2) [0,12,15,68,69,70] _ (by intro h;cases h) (bsO19_run n g b ps x y m i L) ?_ ?_ ?_ ?_ ?_
 ·intro c hc
  have hc:c ∈ [decide (0 <= i),decide (i.toNat < ps.length)] ++ [0 == 0]:=hc
  simp only [List.mem_append,List.mem_cons,List.not_mem_nil,or_false] at hc
  rcases hc with (rfl | rfl) | rfl
  ·exact decide_eq_true hi
  ·exact decide_eq_true hl
  ·rfl
 ·intro p hp
  have hp:p ∈ [ps[i.toNat]? = some (rdP x y)]:=hp
  rw [List.mem_singleton] at hp
  rw [hp];exact hx
 ·intro c hc;cases hc
 ·intro c hc;cases hc
 ·rw [bsF19];exact H
theorem ms_loop {qs:List Pr} {d:AV} (hv:Sp.okV n qs) (hn:n <= 16) (hpl:qs.length <= 1000000) (H:∀ C R,HBn n ps tl (Sp.ndL n qs) f w C R -> zCN_at f tl (Sp.ndL n qs) w n C R 0 0 (-1) (ZaM d)) :
  ∀ (c i:Nat) (C:List AV) (R:Heap),i + c = qs.length -> HBn n ps tl (Sp.ndL n (qs.take i)) f w C R -> Ze1 f g qs tl (Sp.ndL n (qs.take i)) n w C R qs.length i (ZaM d):=by
 have hp16:=pow16 hn
 intro c
 induction c with
 | zero =>
  intro i C R hi hB
  rw [List.take_of_length_le (by omega)] at hB ⊢
  exact zBB _ _ _ _ _ _ _ _ _ _ _ _ ⟨fun z => absurd z (by omega),fun _ => H C R hB⟩
 | succ c ih =>
  intro i C R hi hB
  have hil:i < qs.length:=by omega
  have hp:=hv qs[i] (List.getElem_mem hil)
  refine zBB _ _ _ _ _ _ _ _ _ _ _ _ ⟨fun _ => ?_,fun z => absurd (by omega) z⟩
  refine bs19 (b:=decide ((i:Int) < qs.length)) (by omega) (by rw [List.length_map];omega) (rdQ_eq hil) ?_
  obtain ⟨M,ρ,hx,hM⟩:=hB
  have s0:swp 3 (sH f tl (Sp.ndL n (qs.take i)) w C R).length 0 = 0:=Zb2 (by omega) (by simp)
  have sL:swp 3 (sH f tl (Sp.ndL n (qs.take i)) w C R).length (sH f tl (Sp.ndL n (qs.take i)) w C R).length = 3:=swp_q ..
  refine wp_box hx (z:=rPB qs[i]) (by simp [Zag,rowsL,rowsA]) (by intro r hr;simp [rowsL,rowsA] at hr;simp;omega) (env':=[(0,.int .i64 n),(12,AV.ptr 0 0 0 0),(15,.ptr 3 0 0 0),(68,.vec g 2 (qs.map Pr.v)),(69,.int .i64 qs.length),(70,.int .i64 i)]) ?_ fun L' C' ρ' h' hU hfix => ?_
  ·unfold renV
   simp only [List.map_cons,List.map_nil,renA,s0,sL]
  ·have hd:=Zdp (Mx.down (U:=3) h' (by intro u hu;rw [List.mem_singleton] at hu;omega) hU (by simp [Zag,rowsL,rowsA]) fun r row hr hno hrow => by
    rw [hfix r hr hno] at hrow
    exact sH_refs r row hr hno hrow)
   obtain ⟨R',rfl⟩:=Zd1 hd hfix hU
   have e1:(Sp.ndL n (qs.take i)).getD qs[i].b.toNat default = (Sp.nds (qs.take i) qs[i].b:Int):=by
    rw [ndL_get (by omega),show ((qs[i].b.toNat:Nat):Int) = qs[i].b by omega]
   have hnd:=nds_lt (n:=n) (ps:=qs.take i) (fun p hp => hv p (List.mem_of_mem_take hp)) qs[i].b
   have e2:(1:Int) * 2 ^ min qs[i].a.toNat IntKind.i64.bits = ((2 ^ qs[i].a.toNat:Nat):Int):=by
    rw [show min qs[i].a.toNat IntKind.i64.bits = qs[i].a.toNat by show min _ 64 = _;omega,Int.one_mul];simp
   have hq:=Zea (k:=qs[i].a.toNat) (n:=n) (by omega) hn
   have hset:=Mx.fixd hd (r:=1) (z:=iR (Sp.ndL n (qs.take (i + 1)))) (by omega) (by simp) (by intro s hs;simp [Zag] at hs)
   have hnx:=ih (i + 1) (C' 2) (rPB qs[i] :: R') (by omega) ⟨M,_,hset,hM⟩
   refine zBP f g qs tl (Sp.ndL n (qs.take i)) n w (C' 2) R' qs.length i qs[i] _ ⟨by omega,by rw [ndL_len];omega,by omega,?_⟩
   rw [e1,e2]
   have hts:=ZdF hil
   rw [hts,ndL_snoc ⟨by omega,by omega⟩] at hnx
   revert hnx hq
   generalize 2 ^ qs[i].a.toNat = q
   intro hq hnx
   have e3:(BitVec.ofInt IntKind.i64.bits ((Sp.nds (qs.take i) qs[i].b:Nat):Int) ||| BitVec.ofInt IntKind.i64.bits ((q:Nat):Int)).toNat = Sp.nds (qs.take i) qs[i].b ||| q:=bv_or (by omega) (by omega)
   have hlt:Sp.nds (qs.take i) qs[i].b ||| q < 2 ^ 17:=Nat.or_lt_two_pow (by omega) (by omega)
   rw [e3]
   exact ⟨by omega,by omega,by omega,hnx⟩
end
end Go.Av

namespace Go.Av
open Go.Proofs
noncomputable def bsO30:Array Oper:=match atC (cd Try.f24) [1,1,1,1,1,1,1,1,1,1,0,1,0,0,1,0,1,0,1,0,0,1,1,0,0,1,0,0] with
 | .code (.region _ ops _) :: _ => ops
 | _ => #[]
noncomputable def bsO31:Array Oper:=match atC (cd Try.f24) [1,1,1,1,1,1,1,1,1,1,0,1,0,0,1,0,1,0,1,0,0,1,1,0,0,1,1,0] with
 | .code (.region _ ops _) :: _ => ops
 | _ => #[]
theorem bsC30:atC (cd Try.f24) [1,1,1,1,1,1,1,1,1,1,0,1,0,0,1,0,1,0,1,0,0,1,1,0,0,1,0,0] = .code (.region 30 bsO30 false)::atC (cd Try.f24) [1,1,1,1,1,1,1,1,1,1,0,1,0,0,1,0,1,0,1,0,0,1,1,0,0,1,0,1]:=by kernel_rfl
theorem bsC31:atC (cd Try.f24) [1,1,1,1,1,1,1,1,1,1,0,1,0,0,1,0,1,0,1,0,0,1,1,0,0,1,1,0] = .code (.region 31 bsO31 false)::atC (cd Try.f24) [1,1,1,1,1,1,1,1,1,1,0,1,0,0,1,0,1,0,1,0,0,1,1,0,0,1,1,1]:=by kernel_rfl
def bsE0 (n:Int) (out:AV) (ch s t b l i m:Int):Vars:=[(0,.int .i64 n),(12,rP),(16,out),(17,.int .i64 ch),(18,.int .i64 s),(19,.int .i64 t),(20,.int .i64 b),(21,.int .i64 l),(22,.int .i64 i),(90,.int .i64 m),(91,.int .i64 i)]
def bsE1 (n:Int) (out:AV) (ch s t b l i m:Int):Vars:=bsE0 n out ch s t b l i m++[(94,.int .i64 s),(95,.int .i64 i)]
theorem bsV30 (n:Int) (out:AV) (ch s t b l i m:Int) (L:Heap):runV M1 fi24.n bsO30 oNo [0,1] [0,12,16,17,18,19,20,21,22,90,91,94,95] (bsE0 n out ch s t b l i m) L=some (bsE1 n out ch s t b l i m,L,[],[]):=by kernel_rfl
theorem bsK30 (n:Int) (out:AV) (ch s t b l i m:Int):ZeF bsO30 2 (bsE1 n out ch s t b l i m)=some (96,42,[rP,.int .i64 s,.int .i64 i]):=by kernel_rfl
theorem bsR30:List.range bsO30.size=[0,1]++2::[3]:=by kernel_rfl
theorem bsW30 (n:Int) (out:AV) (ch s t b l i m:Int) (o:Bool) (L:Heap):runV M1 fi24.n bsO30 oNo [3] [0,12,16,17,18,19,20,21,22,90,91,97] ((96,.bool o)::bsE1 n out ch s t b l i m) L=some (bsE0 n out ch s t b l i m++[(97,.bool (!o))],L,[],[]):=by kernel_rfl
def bsE2 (n:Int) (out:AV) (ch s t b l i m:Int):Vars:=bsE0 n out ch s t b l i m++[(98,.int .i64 s),(99,.int .i64 t),(100,.int .i64 i)]
theorem bsV31 (n:Int) (out:AV) (ch s t b l i m:Int) (o:Bool) (L:Heap):runV M1 fi24.n bsO31 oNo [0,1,2] [0,12,16,17,18,19,20,21,22,90,91,98,99,100] (bsE0 n out ch s t b l i m++[(97,.bool o)]) L=some (bsE2 n out ch s t b l i m,L,[],[]):=by kernel_rfl
theorem bsK31 (n:Int) (out:AV) (ch s t b l i m:Int):ZeF bsO31 3 (bsE2 n out ch s t b l i m)=some (101,43,[rP,.int .i64 s,.int .i64 t,.int .i64 i]):=by kernel_rfl
theorem bsR31:List.range bsO31.size=[0,1,2]++3::[4]:=by kernel_rfl
theorem bsW31 (n:Int) (out:AV) (ch s t b l i m o:Int) (L:Heap):runV M1 fi24.n bsO31 oNo [4] [0,12,16,17,18,19,20,21,22,23,90,91] ((101,.int .i64 o)::bsE2 n out ch s t b l i m) L=some ([(0,.int .i64 n),(12,rP),(16,out),(17,.int .i64 ch),(18,.int .i64 s),(19,.int .i64 t),(20,.int .i64 b),(21,.int .i64 l),(22,.int .i64 i),(23,.int .i64 o),(90,.int .i64 m),(91,.int .i64 i)],L,[],[]):=by kernel_rfl
def nSt (b l:Int) (o:Option (Nat × Nat)):Prop:=(o=none/\b = -1/\l=0) \/ ∃ k v:Nat,o=some (k,v)/\b=k/\l=v
def nxP (n:Nat) (ps:List Pr) (tl:List Int) (c s:Nat) (t:Option Int) (i:Nat):Option (Nat × Nat):=
 (List.range i).foldl (fun b (k:Nat) => if Sp.opM ps s k = true then Sp.pick b k (Sp.rv n ps tl c (s ||| 2 ^ k) (some k) + Sp.cg1 tl t k) else b) none
theorem ZeV (n:Nat) (ps:List Pr) (tl:List Int) (c s:Nat) (t:Option Int) (i:Nat):nxP n ps tl c s t (i + 1) = if Sp.opM ps s i = true then Sp.pick (nxP n ps tl c s t i) i (Sp.rv n ps tl c (s ||| 2 ^ i) (some (i:Int)) + Sp.cg1 tl t i) else nxP n ps tl c s t i:=by
 unfold nxP
 rw [List.range_succ,List.foldl_append];rfl
abbrev oR (O:List Int) (v:Nat):Row:=⟨O.map (.int .i64),1,v,false,true⟩
def HBR (n:Nat) (ps:List Pr) (tl:List Int) (f:Bool) (C:List AV) (R:Heap) (O:List Int) (v:Nat):Prop:=HB n ps tl f (sW n) C (oR O v::R)/\3 ∉ Zdn (sH f tl (Sp.ndL n ps) (sW n) C (oR O v::R))
section
variable {n:Nat} {ps:List Pr} {tl:List Int} {f:Bool}
theorem afterN {C:List AV} {R L2:Heap} (h:HB n ps tl f (sW n) C R) (hb:BW (Memo n ps tl) (sH f tl (Sp.ndL n ps) (sW n) C R) L2):∃ R2,L2 = sH f tl (Sp.ndL n ps) (sW n) C R2 /\ HB n ps tl f (sW n) C R2:=by
 obtain ⟨M,ρ,hx,hM⟩:=h
 obtain ⟨R2,rfl⟩:=hb.shape hx
 exact ⟨R2,rfl,HB.of hb.2.2⟩
theorem afterR {C:List AV} {R L2:Heap} {O:List Int} {v:Nat} (h:HBR n ps tl f C R O v) (hb:BW (Memo n ps tl) (sH f tl (Sp.ndL n ps) (sW n) C (oR O v :: R)) L2):∃ R2,L2 = sH f tl (Sp.ndL n ps) (sW n) C (oR O v :: R2) /\ HBR n ps tl f C R2 O v:=by
 obtain ⟨⟨M,ρ,hx,hM⟩,h3⟩:=h
 have e3:=hb.2.1 3 h3
 have er:=hb.refs hx
 obtain ⟨R2,rfl⟩:=hb.shape hx
 match R2,e3 with
 | y :: R2,e3 =>
  have:y = oR O v:=Option.some.inj e3
  subst this
  exact ⟨R2,rfl,HB.of hb.2.2,by rw [er];exact h3⟩
theorem zD_loopN (hv:Sp.okV n ps) (hc:¬Sp.cyc n ps) (hn:n <= 16) (htl:tl.length = n) {c s:Nat} {x ch:Int} {t:Option Int} {d:AV} (ht:tOk n x t) (hg:Sp.ZeM n ps (c + 1) s) {C:List AV}
  (H:∀ R b l,HB n ps tl f (sW n) C R -> nSt b l (Sp.nxt n ps tl c s t) -> Zez f tl (Sp.ndL n ps) (sW n) n C R ch s x b l n n (ZaM d)) :
  ∀ (e i:Nat) (R:Heap) (b l:Int),i + e = n -> HB n ps tl f (sW n) C R -> nSt b l (nxP n ps tl c s t i) -> Zez f tl (Sp.ndL n ps) (sW n) n C R ch s x b l n i (ZaM d):=by
 intro e
 induction e with
 | zero =>
  intro i R b l hi hB hS
  have hi:i = n:=by omega
  subst hi
  exact H R b l hB hS
 | succ e ih =>
  intro i R b l hi hB hS
  have hil:i < n:=by omega
  refine zDN _ _ _ _ _ _ _ _ _ _ _ _ _ _ _ ⟨fun _ => ?_,fun z => absurd (by omega) z⟩
  rw [bsC30]
  refine Zcv (Qc:=isR (.bool (Sp.opM ps s i)) (sH f tl (Sp.ndL n ps) (sW n) C R)) hm1 [0,1] [3] [0,12,16,17,18,19,20,21,22,90,91,94,95] [0,12,16,17,18,19,20,21,22,90,91,97] 2 bsR30 (bsV30 _ _ _ _ _ _ _ _ _ _) Zak Zal (bsK30 _ _ _ _ _ _ _ _ _) (by decide) (open_own hv hn (Zci hg) hil C R) fun v1 L2 ⟨e1,e2⟩ => ?_
  subst e1;subst e2
  refine ⟨_,_,_,_,bsW30 _ _ _ _ _ _ _ _ _ _ _,Zak,Zal,?_⟩
  refine zDoN f tl (Sp.ndL n ps) (sW n) n C R ch s x b l n i i (!Sp.opM ps s i) _ ⟨fun ho => ⟨by omega,?_⟩,fun ho => ?_⟩
  ·have hno:¬Sp.opM ps s i = true:=fun y => by rw [y] at ho;cases ho
   refine ih (i + 1) R b l (by omega) hB ?_
   rw [ZeV,if_neg hno];exact hS
  ·have ho:Sp.opM ps s i = true:=by
    cases hq:Sp.opM ps s i with
    | true => rfl
    | false => rw [hq] at ho;exact absurd rfl ho
   rw [bsC31]
   refine Zcv (Qc:=fun z L1 => z = .int .i64 (Sp.rv n ps tl c (s ||| 2 ^ i) (some (i:Int)) + Sp.cg1 tl t i:Nat) /\ BW (Memo n ps tl) (sH f tl (Sp.ndL n ps) (sW n) C R) L1) hm1 [0,1,2] [4] [0,12,16,17,18,19,20,21,22,90,91,98,99,100] [0,12,16,17,18,19,20,21,22,23,90,91] 3 bsR31 (bsV31 _ _ _ _ _ _ _ _ _ _ _) Zak Zal (bsK31 _ _ _ _ _ _ _ _ _) (by decide)
    (step_of hv hc hn htl (rest_ok hv hc hn htl c) hg hil ho ht hB) fun v1 L2 ⟨e,h2⟩ => ?_
   subst e
   obtain ⟨R2,rfl,hB2⟩:=afterN hB h2
   refine ⟨_,_,_,_,bsW31 _ _ _ _ _ _ _ _ _ _ _,Zak,Zal,?_⟩
   have hP:=ZeV n ps tl c s t i
   rw [if_pos ho] at hP
   refine zDvN f tl (Sp.ndL n ps) (sW n) n C R2 ch s x b l n i i _ _ ⟨fun h => ⟨by omega,ih (i + 1) R2 _ _ (by omega) hB2 ?_⟩,fun h => ⟨by omega,ih (i + 1) R2 b l (by omega) hB2 ?_⟩⟩
   ·rw [hP]
    rcases hS with ⟨e0,_,_⟩ | ⟨k,v,e0,e1,e2⟩
    ·rw [e0]
     exact .inr ⟨i,_,rfl,rfl,rfl⟩
    ·rw [e0]
     refine .inr ⟨i,_,?_,rfl,rfl⟩
     unfold Sp.pick
     simp only
     rw [if_pos (by omega)]
   ·rw [hP]
    rcases hS with ⟨e0,e1,_⟩ | ⟨k,v,e0,e1,e2⟩
    ·exact absurd (.inl (by omega)) h
    ·rw [e0]
     refine .inr ⟨k,v,?_,e1,e2⟩
     unfold Sp.pick
     simp only
     rw [if_neg fun y => h (.inr (by omega))]
theorem zD_loopR (hv:Sp.okV n ps) (hc:¬Sp.cyc n ps) (hn:n <= 16) (htl:tl.length = n) {c s:Nat} {x ch:Int} {t:Option Int} {d:AV} (ht:tOk n x t) (hg:Sp.ZeM n ps (c + 1) s) {C:List AV} {O:List Int} {v:Nat}
  (H:∀ R b l,HBR n ps tl f C R O v -> nSt b l (Sp.nxt n ps tl c s t) -> Zey f tl (Sp.ndL n ps) (sW n) n C R O v ch s x b l n n (ZaM d)) :
  ∀ (e i:Nat) (R:Heap) (b l:Int),i + e = n -> HBR n ps tl f C R O v -> nSt b l (nxP n ps tl c s t i) -> Zey f tl (Sp.ndL n ps) (sW n) n C R O v ch s x b l n i (ZaM d):=by
 intro e
 induction e with
 | zero =>
  intro i R b l hi hB hS
  have hi:i = n:=by omega
  subst hi
  exact H R b l hB hS
 | succ e ih =>
  intro i R b l hi hB hS
  have hil:i < n:=by omega
  refine zDR _ _ _ _ _ _ _ _ _ _ _ _ _ _ _ _ _ ⟨fun _ => ?_,fun z => absurd (by omega) z⟩
  rw [bsC30]
  refine Zcv (Qc:=isR (.bool (Sp.opM ps s i)) (sH f tl (Sp.ndL n ps) (sW n) C (oR O v :: R))) hm1 [0,1] [3] [0,12,16,17,18,19,20,21,22,90,91,94,95] [0,12,16,17,18,19,20,21,22,90,91,97] 2 bsR30 (bsV30 _ _ _ _ _ _ _ _ _ _) Zak Zal (bsK30 _ _ _ _ _ _ _ _ _) (by decide) (open_own hv hn (Zci hg) hil C (oR O v :: R)) fun v1 L2 ⟨e1,e2⟩ => ?_
  subst e1;subst e2
  refine ⟨_,_,_,_,bsW30 _ _ _ _ _ _ _ _ _ _ _,Zak,Zal,?_⟩
  refine zDoR f tl (Sp.ndL n ps) (sW n) n C R O v ch s x b l n i i (!Sp.opM ps s i) _ ⟨fun ho => ⟨by omega,?_⟩,fun ho => ?_⟩
  ·have hno:¬Sp.opM ps s i = true:=fun y => by rw [y] at ho;cases ho
   refine ih (i + 1) R b l (by omega) hB ?_
   rw [ZeV,if_neg hno];exact hS
  ·have ho:Sp.opM ps s i = true:=by
    cases hq:Sp.opM ps s i with
    | true => rfl
    | false => rw [hq] at ho;exact absurd rfl ho
   rw [bsC31]
   refine Zcv (Qc:=fun z L1 => z = .int .i64 (Sp.rv n ps tl c (s ||| 2 ^ i) (some (i:Int)) + Sp.cg1 tl t i:Nat) /\ BW (Memo n ps tl) (sH f tl (Sp.ndL n ps) (sW n) C (oR O v :: R)) L1) hm1 [0,1,2] [4] [0,12,16,17,18,19,20,21,22,90,91,98,99,100] [0,12,16,17,18,19,20,21,22,23,90,91] 3 bsR31 (bsV31 _ _ _ _ _ _ _ _ _ _ _) Zak Zal (bsK31 _ _ _ _ _ _ _ _ _) (by decide)
    (step_of hv hc hn htl (rest_ok hv hc hn htl c) hg hil ho ht hB.1) fun v1 L2 ⟨e,h2⟩ => ?_
   subst e
   obtain ⟨R2,rfl,hB2⟩:=afterR hB h2
   refine ⟨_,_,_,_,bsW31 _ _ _ _ _ _ _ _ _ _ _,Zak,Zal,?_⟩
   have hP:=ZeV n ps tl c s t i
   rw [if_pos ho] at hP
   refine zDvR f tl (Sp.ndL n ps) (sW n) n C R2 O v ch s x b l n i i _ _ ⟨fun h => ⟨by omega,ih (i + 1) R2 _ _ (by omega) hB2 ?_⟩,fun h => ⟨by omega,ih (i + 1) R2 b l (by omega) hB2 ?_⟩⟩
   ·rw [hP]
    rcases hS with ⟨e0,_,_⟩ | ⟨k,v,e0,e1,e2⟩
    ·rw [e0]
     exact .inr ⟨i,_,rfl,rfl,rfl⟩
    ·rw [e0]
     refine .inr ⟨i,_,?_,rfl,rfl⟩
     unfold Sp.pick
     simp only
     rw [if_pos (by omega)]
   ·rw [hP]
    rcases hS with ⟨e0,e1,_⟩ | ⟨k,v,e0,e1,e2⟩
    ·exact absurd (.inl (by omega)) h
    ·rw [e0]
     refine .inr ⟨k,v,?_,e1,e2⟩
     unfold Sp.pick
     simp only
     rw [if_neg fun y => h (.inr (by omega))]
theorem mx_free {L:Heap} {C:List AV} {M:List (Option Row)} {ρ:Nat -> Nat} (h:MX3 L C M ρ) {r:Nat} {z:Row} (hr:3 <= r) (hno:r ∉ Zdn L) (hz:Zag z = []):MX3 (L.set r z) C M ρ:=by
 have hne:∀ q,q ≠ r -> (L.set r z)[q]? = L[q]?:=fun q hq => by rw [List.getElem?_set,if_neg fun e => hq e.symm]
 refine ⟨by rw [List.length_set];exact h.len,h.osU,fun u hu => ?_,fun q row hq hqo hrow => ?_,fun q row hq hrow => ?_,fun u hu j row hm => ?_,h.nil,h.inj,h.hcl⟩
 ·rw [List.mem_singleton] at hu
  subst hu
  rw [hne 2 (by omega)];exact h.out 2 (by simp)
 ·rw [hne q (by omega)] at hrow;exact h.fix q row hq hqo hrow
 ·by_cases e:q = r
  ·subst e
   by_cases hl:q < L.length
   ·rw [List.getElem?_set,if_pos rfl,if_pos hl] at hrow
    rw [<- Option.some.inj hrow];exact hz
   ·rw [List.getElem?_eq_none (by rw [List.length_set];omega)] at hrow;cases hrow
  ·rw [hne q e] at hrow;exact h.cln q row hq hrow
 ·rw [List.mem_singleton] at hu
  subst hu
  obtain ⟨e1,e2,e3⟩:=h.hit 2 (by simp) j row hm
  have:ρ j ≠ r:=fun e => hno (by rw [<- e];exact refs2_hit h hm)
  rw [hne _ this];exact ⟨e1,e2,e3⟩
theorem HBR.row {C:List AV} {R:Heap} {O O':List Int} {v v':Nat} (h:HBR n ps tl f C R O v):HBR n ps tl f C R O' v':=by
 obtain ⟨⟨M,ρ,hx,hM⟩,h3⟩:=h
 have:=mx_free hx (r:=3) (z:=oR O' v') (Nat.le_refl 3) h3 (by simp [Zag])
 exact ⟨⟨M,ρ,this,hM⟩,h3⟩
theorem or_bits {s k:Nat} (hn:n <= 16) (hs:s < 2 ^ n) (hk:k < n):(1:Int) * 2 ^ min ((k:Nat):Int).toNat IntKind.i64.bits = ((2 ^ k:Nat):Int) /\ (BitVec.ofInt IntKind.i64.bits ((s:Nat):Int) ||| BitVec.ofInt IntKind.i64.bits (((2 ^ k:Nat)):Int)).toNat = s ||| 2 ^ k /\ s ||| 2 ^ k < 2 ^ 17 /\ 2 ^ k <= 65536:=by
 have hp:=pow16 hn
 have hkp:=Zea hk hn
 have e1:(1:Int) * 2 ^ min ((k:Nat):Int).toNat IntKind.i64.bits = ((2 ^ k:Nat):Int):=by
  rw [Int.toNat_natCast,show min k IntKind.i64.bits = k by show min k 64 = k;omega,Int.one_mul];simp
 refine ⟨e1,?_⟩
 clear e1
 revert hkp
 generalize 2 ^ k = q
 intro hkp
 exact ⟨bv_or (by omega) (by omega),Nat.or_lt_two_pow (by omega) (by omega),hkp⟩
theorem nxt_at {c s:Nat} {t:Option Int} {b l:Int} (hv:Sp.okV n ps) (hc:¬Sp.cyc n ps) (hg:Sp.ZeM n ps (c + 1) s) (h:nSt b l (Sp.nxt n ps tl c s t)):∃ k:Nat,b = k /\ k < n /\ Sp.opM ps s k = true /\ l = (Sp.rv n ps tl (c + 1) s t:Nat) /\ Sp.gr n ps tl (c + 1) s t = (k:Int) :: Sp.gr n ps tl c (s ||| 2 ^ k) (some (k:Int)):=by
 obtain ⟨k,v,e,hk,ho,h1,h2⟩:=ZeU (tl:=tl) (t:=t) hv hc hg
 rw [e] at h
 rcases h with ⟨h,_⟩ | ⟨k',v',h,h3,h4⟩
 ·cases h
 ·cases h
  exact ⟨k,h3,hk,ho,by rw [h4,h2],by rw [Sp.gr,e]⟩
theorem row_end {C:List AV} {R:Heap} {O:List Int} {v:Nat} {ch:Int}:ZaM (.tup [.vec false 1 (O.map (.int .i64)),.int .i64 ch,.int .i64 0]) (.tup [.row 3 v,.int .i64 ch,.int .i64 0]) (sH f tl (Sp.ndL n ps) (sW n) C (oR O v :: R)):=by
 refine ⟨_,rfl,?_,.refl _⟩
 exact Zaf (by simp [Zbd]) Zak
theorem zC_loop (hv:Sp.okV n ps) (hc:¬Sp.cyc n ps) (hn:n <= 16) (htl:tl.length = n) {ch:Int}:∀ (c:Nat) (O:List Int) (k:Nat) (C:List AV) (R:Heap) (v:Nat),Sp.Zbi n ps O -> O.length + c = n -> k < n -> HBR n ps tl f C R O v ->
  zCR_at f tl (Sp.ndL n ps) (sW n) n C R O v ch (Sp.msk O:Nat) k (ZaM (.tup [.vec false 1 ((O ++ Sp.gr n ps tl c (Sp.msk O) (some (k:Int))).map (.int .i64)),.int .i64 ch,.int .i64 0])):=by
 intro c
 induction c with
 | zero =>
  intro O k C R v hb hl hk hB
  have hg:Sp.ZeM n ps 0 (Sp.msk O):=⟨O,hb,hl,rfl⟩
  have:=good_full hg
  refine zCR _ _ _ _ _ _ _ _ _ _ _ _ _ ⟨fun z => absurd (by rw [this]) z,fun _ => ?_⟩
  rw [Sp.gr,List.append_nil]
  exact row_end
 | succ c ih =>
  intro O k C R v hb hl hk hB
  have hg:Sp.ZeM n ps (c + 1) (Sp.msk O):=⟨O,hb,hl,rfl⟩
  have hnf:=Zc2 hv hc hg
  refine zCR _ _ _ _ _ _ _ _ _ _ _ _ _ ⟨fun _ => ?_,fun z => absurd (fun y => hnf (Int.ofNat.inj y)) z⟩
  refine zD_loopR hv hc hn htl (t:=some (k:Int)) (.inr ⟨k,hk,rfl,rfl⟩) hg (fun R b l hB hS => ?_) n 0 R (-1) 0 (by omega) hB (.inl ⟨rfl,rfl,rfl⟩)
  obtain ⟨q,rfl,hq,ho,_,hgr⟩:=nxt_at hv hc hg hS
  obtain ⟨o1,o2,o3,o4⟩:=or_bits hn (Zci hg) hq
  have hb':=ZcG hv hb hq ho
  refine zDR _ _ _ _ _ _ _ _ _ _ _ _ _ _ _ _ _ ⟨fun z => absurd z (by omega),fun _ => ⟨fun z => absurd z (by omega),fun _ => ?_⟩⟩
  rw [o1,o2]
  have hn2:=ih (O ++ [(q:Int)]) q C R (v + 1) hb' (by simp;omega) hq hB.row
  rw [ZdU,Int.toNat_natCast,List.append_assoc,List.singleton_append] at hn2
  rw [hgr]
  have hol:O.length <= 16:=by omega
  revert o3 o4 hn2
  generalize 2 ^ q = y
  intro o3 o4 hn2
  exact ⟨by omega,by omega,by omega,by omega,hn2⟩
theorem refs_four {L:Heap} {C:Nat -> List AV} {M:Nat -> List (Option Row)} {ρ:Nat -> Nat -> Nat} (h:Mx 4 [2] L C (fun _ => 0) M ρ) (h3:MX3 L (C 2) (M 2) (ρ 2)):3 ∉ Zdn L:=fun hr => by
 obtain ⟨o1,o2⟩:=h3.out 2 (by simp)
 unfold Zdn at hr
 rw [o1] at hr
 have hr:3 ∈ rowsL (C 2):=hr
 obtain ⟨j,c,hc,hrc⟩:=Zcb hr
 have hj:j < (M 2).length:=by rw [<- o2];exact (List.getElem?_eq_some_iff.1 hc).1
 cases hm:(M 2)[j] with
 | none =>
  rw [h.nil 2 (by simp) j (by rw [List.getElem?_eq_getElem hj,hm])] at hc
  rw [<- Option.some.inj hc] at hrc;cases hrc
 | some row =>
  obtain ⟨d1,d2,d3⟩:=h.hit 2 (by simp) j row (by rw [List.getElem?_eq_getElem hj,hm])
  rw [d1] at hc
  rw [<- Option.some.inj hc] at hrc
  have:3 = ρ 2 j:=by simpa [rowsA] using hrc
  omega
theorem zC_first (hv:Sp.okV n ps) (hc:¬Sp.cyc n ps) (hn:n <= 16) (h0:0 < n) (htl:tl.length = n) {C:List AV} {R:Heap} (hB:HB n ps tl f (sW n) C R) :
  zCN_at f tl (Sp.ndL n ps) (sW n) n C R 0 0 (-1) (ZaM (.tup [.vec false 1 ((Sp.gr n ps tl n 0 none).map (.int .i64)),.int .i64 (Sp.rv n ps tl n 0 none:Nat),.int .i64 0])):=by
 obtain ⟨c,rfl⟩:∃ c,n = c + 1:=⟨n - 1,by omega⟩
 have hg:Sp.ZeM (c + 1) ps (c + 1) 0:=ZfF
 have hnf:=Zc2 hv hc hg
 refine zCN _ _ _ _ _ _ _ _ _ _ _ ⟨fun _ => ?_,fun z => absurd (fun y => hnf (Int.ofNat.inj (show Int.ofNat 0 = Int.ofNat _ from y))) z⟩
 refine zD_loopN hv hc hn htl (t:=none) (s:=0) (.inl ⟨rfl,rfl⟩) hg (fun R b l hB hS => ?_) (c + 1) 0 R (-1) 0 (by omega) hB (.inl ⟨rfl,rfl,rfl⟩)
 obtain ⟨q,rfl,hq,ho,rfl,hgr⟩:=nxt_at hv hc hg hS
 obtain ⟨o1,o2,o3,o4⟩:=or_bits hn (Zci hg) hq
 have hb':=ZcG (O:=[]) hv (fun j hj => by simp at hj) hq ho
 refine zDN _ _ _ _ _ _ _ _ _ _ _ _ _ _ _ ⟨fun z => absurd z (by omega),fun _ => ⟨fun _ => ?_,fun z => absurd (by omega) z⟩⟩
 have o2':(BitVec.ofInt IntKind.i64.bits 0 ||| BitVec.ofInt IntKind.i64.bits (((2 ^ q:Nat)):Int)).toNat = 0 ||| 2 ^ q:=o2
 rw [o1,show (((0:Nat)):Int) = 0 from rfl,o2',es3]
 refine ⟨by omega,by revert o4;generalize 2 ^ q = y;intro o4;omega,by revert o3;generalize 2 ^ q = y;intro o3;omega,?_⟩
 obtain ⟨M,ρ,hx,hM⟩:=hB
 have s0:swp 3 (sH f tl (Sp.ndL (c + 1) ps) (sW (c + 1)) C R).length 0 = 0:=Zb2 (by omega) (by simp)
 have sL:swp 3 (sH f tl (Sp.ndL (c + 1) ps) (sW (c + 1)) C R).length (sH f tl (Sp.ndL (c + 1) ps) (sW (c + 1)) C R).length = 3:=swp_q ..
 refine wp_box hx (z:=oR [(q:Int)] 0) (by simp [Zag]) (by intro r hr;simp [rowsL,rowsA] at hr;simp;omega) (env':=[(0,.int .i64 ((c + 1:Nat):Int)),(12,AV.ptr 0 0 0 0),(16,.row 3 0),(17,.int .i64 (Sp.rv (c + 1) ps tl (c + 1) 0 none:Nat)),(18,.int .i64 ((0 ||| 2 ^ q:Nat):Int)),(19,.int .i64 q)]) ?_ fun L' C' ρ' h' hU hfix => ?_
 ·have sL':swp 3 (sH f tl (Sp.ndL (c + 1) ps) (sW (c + 1)) C R).length (R.length + 1 + 1 + 1) = 3:=sL
  unfold renV
  simp only [List.map_cons,List.map_nil,renA,s0,sL']
 ·have hd:=Zdp (Mx.down (U:=3) h' (by intro u hu;rw [List.mem_singleton] at hu;omega) hU (by simp [Zag]) fun r row hr hno hrow => by
   rw [hfix r hr hno] at hrow
   exact sH_refs r row hr hno hrow)
  have h3:=refs_four h' hd
  obtain ⟨R',rfl⟩:=Zd1 hd hfix hU
  have:=zC_loop (ch:=(Sp.rv (c + 1) ps tl (c + 1) 0 none:Nat)) hv hc hn htl c [(q:Int)] q (C' 2) R' 0 hb' (by simp;omega) hq ⟨⟨M,_,hd,hM⟩,h3⟩
  rw [show Sp.msk [(q:Int)] = 0 ||| 2 ^ q by rw [show [(q:Int)] = [] ++ [(q:Int)] from rfl,ZdU,Int.toNat_natCast];rfl,List.singleton_append,<- hgr] at this
  exact this
end
end Go.Av

namespace Go.Av
open Go.Proofs
namespace Sp
def bsE (n:Int) (ps:List Pr) (tl:List Int):Int:=if vd n ps=0 then (if (tl.length:Int)=n then (if n>16 then 3 else ZeJ n ps) else 1) else vd n ps
def bsL (n:Int) (ps:List Pr) (tl:List Int):List Int:=if bsE n ps tl=0 then gr n.toNat ps tl n.toNat 0 none else []
def bsC (n:Int) (ps:List Pr) (tl:List Int):Int:=if bsE n ps tl=0 then (rv n.toNat ps tl n.toNat 0 none:Nat) else 0
end Sp
theorem weak_tup3 {a b c a' b' c':AV} (h1:Weak a a') (h2:Weak b b') (h3:Weak c c'):Weak (.tup [a,b,c]) (.tup [a',b',c']):=
 .tup _ _ rfl fun i x y hx hy => by
  match i with
  | 0 => rw [<- Option.some.inj hx,<- Option.some.inj hy];exact h1
  | 1 => rw [<- Option.some.inj hx,<- Option.some.inj hy];exact h2
  | 2 => rw [<- Option.some.inj hx,<- Option.some.inj hy];exact h3
  | i + 3 => cases hx
theorem bs_err {e:Int}:ZaM (.tup [.vec false 1 (([]:List Int).map (.int .i64)),.int .i64 0,.int .i64 e]) (.tup [.vnil,.int .i64 0,.int .i64 e]) []:=
 ⟨_,rfl,Zak,weak_tup3 (.vnil 1) (.refl _) (.refl _)⟩
theorem bsF_eq {n:Nat} (hn:n <= 16):bsF n = sW n:=by
 have hp:=pow16 hn
 have hpos:0 < 2 ^ n:=Nat.two_pow_pos n
 unfold bsF
 rw [sh_pow hn]
 show _ = ((2 ^ n - 1:Nat):Int)
 revert hp hpos
 generalize 2 ^ n = q
 intro hp hpos
 rw [w64 ((q:Nat):Int) (by omega),w64 _ (by omega)]
 omega
theorem bs_go {n:Nat} {ps:List Pr} {tl:List Int} {f g:Bool} (hv:Sp.okV n ps) (hc:¬Sp.cyc n ps) (hn:n <= 16) (hpl:ps.length <= 1000000) (htl:tl.length = n) :
  Wp M1 (.run fi24 (atC (cd Try.f24) [1,1,1,1,1,1]) (bsV n g (ps.map Pr.v)) (bsH n f (tl.map (.int .i64)))) (ZaM (.tup [.vec false 1 ((Sp.gr n ps tl n 0 none).map (.int .i64)),.int .i64 (Sp.rv n ps tl n 0 none:Nat),.int .i64 0])):=by
 by_cases h0:n = 0
 ·subst h0
  have ht:tl = []:=List.length_eq_zero_iff.1 htl
  have hp:ps = []:=List.eq_nil_iff_forall_not_mem.2 fun p hp => by have:=hv p hp;omega
  subst ht;subst hp
  have e:bsH (((0:Nat)):Int) f (([]:List Int).map (.int .i64)) = [⟨[.agg [.row 1 0,.vec f 1 (([]:List Int).map (.int .i64)),.int .i64 0,.row 2 0]],4,0,false,false⟩,⟨([]:List Int).map (.int .i64),1,0,false,true⟩,⟨[],1,0,false,true⟩]:=by
   unfold bsH
   rw [bsF_eq (by omega)];rfl
  rw [e]
  exact zB0 f g _ (zB0a _ _ _ (zB0b _ _ _ (zB0c _ _ ⟨_,rfl,Zak,weak_tup3 (.vnil 1) (.refl _) (.refl _)⟩)))
 ·have e:bsH n f (tl.map (.int .i64)) = sF f tl (sW n) :: iR (List.replicate n 0) :: ⟨List.replicate n .vnil,1,0,false,true⟩ :: []:=by
   unfold bsH
   have er:iR (List.replicate n 0) = ⟨List.replicate n (.int .i64 0),1,0,false,true⟩:=by unfold iR;rw [List.map_replicate]
   rw [bsF_eq hn,Int.toNat_natCast,er]
  rw [e]
  refine tb_first (ps:=ps) (f:=f) (g:=g) (tl:=tl) (nd:=List.replicate n 0) (w:=sW n) hn (by omega) fun C R hB => ?_
  have hl:=ms_loop (ps:=ps) (tl:=tl) (f:=f) (g:=g) (w:=sW n) (qs:=ps) (d:=.tup [.vec false 1 ((Sp.gr n ps tl n 0 none).map (.int .i64)),.int .i64 (Sp.rv n ps tl n 0 none:Nat),.int .i64 0]) hv hn hpl (fun C R hB => zC_first hv hc hn (by omega) htl hB) ps.length 0 C R (by omega)
  rw [List.take_zero,ndL_nil] at hl
  exact hl hB
theorem ev24 (n:Int) (f g:Bool) (ps:List Pr) (tl:List Int):Ev M1 (.pure 24 [.int .i64 n,.vec g 2 (ps.map Pr.v),.vec f 1 (tl.map (.int .i64))]) (.tup [.vec false 1 ((Sp.bsL n ps tl).map (.int .i64)),.int .i64 (Sp.bsC n ps tl),.int .i64 (Sp.bsE n ps tl)]) []:=by
 refine ZfR hm1 Try.f24 fi24 (by kernel_rfl) (by kernel_rfl) (by kernel_rfl) (by kernel_rfl) (zB n f g ps tl _ ⟨fun h => ?_,fun h => ⟨fun h1 => ?_,fun h1 => ⟨fun h2 => ?_,fun h2 => ⟨fun h3 => ?_,fun h3 => ?_⟩⟩⟩⟩)
 ·have e:Sp.bsE n ps tl = Sp.vd n ps:=if_neg h
  unfold Sp.bsL Sp.bsC
  rw [e,if_neg h,if_neg h]
  exact bs_err
 ·have e:Sp.bsE n ps tl = 1:=by unfold Sp.bsE;rw [if_pos (Classical.not_not.1 h),if_neg h1]
  unfold Sp.bsL Sp.bsC
  rw [e,if_neg (by omega),if_neg (by omega)]
  exact bs_err
 ·have e:Sp.bsE n ps tl = 3:=by unfold Sp.bsE;rw [if_pos (Classical.not_not.1 h),if_pos (Classical.not_not.1 h1),if_pos h2]
  unfold Sp.bsL Sp.bsC
  rw [e,if_neg (by omega),if_neg (by omega)]
  exact bs_err
 ·have e:Sp.bsE n ps tl = Sp.ZeJ n ps:=by unfold Sp.bsE;rw [if_pos (Classical.not_not.1 h),if_pos (Classical.not_not.1 h1),if_neg h2]
  unfold Sp.bsL Sp.bsC
  rw [e,if_neg h3,if_neg h3]
  exact bs_err
 ·have h:=Classical.not_not.1 h
  have h1:=Classical.not_not.1 h1
  have h3:=Classical.not_not.1 h3
  have e:Sp.bsE n ps tl = 0:=by unfold Sp.bsE;rw [if_pos h,if_pos h1,if_neg h2,h3]
  unfold Sp.bsL Sp.bsC
  rw [e,if_pos rfl,if_pos rfl]
  obtain ⟨m,rfl,hv,hn,hpl⟩:=Ze3 h
  rw [Int.toNat_natCast]
  have hc:¬Sp.cyc m ps:=fun hy => by
   unfold Sp.ZeJ at h3
   rw [if_pos h,Int.toNat_natCast,(Zd4 hv).2 hy] at h3
   cases h3
  exact bs_lay (by omega) (bs_go hv hc (by omega) hpl (by omega))
end Go.Av

namespace Go.Av
open Go.Proofs
def lastO (t:Option Int):List Int -> Option Int
 | [] => t
 | x :: l => lastO (some x) l
theorem Zej (x:Int):∀ (l:List Int) (t:Option Int),lastO t (l ++ [x]) = some x
 | [],t => rfl
 | y :: l,t => Zej x l (some y)
theorem ch_cg {tl:List Int}:∀ (l:List Int) (t:Option Int) (m:Int),(∀ x ∈ l,0 <= x /\ x < (tl.length:Int)) -> Sp.chl tl t m l = m + Sp.cg tl t l
 | [],t,m,_ => by simp [Sp.chl,Sp.cg]
 | x :: l,t,m,h => by
  have hx:=h x (List.mem_cons_self ..)
  have hl:=fun y hy => h y (List.mem_cons_of_mem _ hy)
  unfold Sp.chl
  rw [if_neg (by omega)]
  cases t with
  | none =>
   simp only
   rw [ch_cg l (some x) m hl]
   simp [Sp.cg,Sp.cg1]
  | some y =>
   simp only
   rw [ch_cg l (some x) _ hl]
   simp only [Sp.cg,Sp.cg1]
   split <;> omega
namespace Sp
def full (n:Nat) (ps:List Pr) (tl:List Int) (c:Nat) (O:List Int):List Int:=O++gr n ps tl c (msk O) (lastO none O)
end Sp
section
variable {n:Nat} {ps:List Pr} {tl:List Int}
theorem Zdv (hv:Sp.okV n ps) (hc:¬Sp.cyc n ps):∀ (c:Nat) (O:List Int),Sp.Zbi n ps O -> O.length + c = n -> Sp.Zbi n ps (Sp.full n ps tl c O) /\ (Sp.full n ps tl c O).length = n
 | 0,O,hb,hl => by unfold Sp.full;rw [Sp.gr,List.append_nil];exact ⟨hb,hl⟩
 | c + 1,O,hb,hl => by
  obtain ⟨k,v,e,hk,ho,h1,h2⟩:=ZeU (tl:=tl) (t:=lastO none O) hv hc ⟨O,hb,hl,rfl⟩
  have ih:=Zdv hv hc c (O ++ [(k:Int)]) (ZcG hv hb hk ho) (by simp;omega)
  have e2:Sp.full n ps tl (c + 1) O = Sp.full n ps tl c (O ++ [(k:Int)]):=by
   unfold Sp.full
   rw [Sp.gr,e,ZdU,Int.toNat_natCast,Zej,List.append_assoc];rfl
  rw [e2];exact ih
end
end Go.Av

namespace Go.Av
open Go.Proofs
section
variable {n:Nat} {ps:List Pr} {tl l:List Int} {f g:Bool}
end
end Go.Av

namespace Go.Av
open Go.Proofs
set_option maxRecDepth 100000
end Go.Av

namespace Go.Av
open Go.Proofs
theorem bs_no {n:Int} {ps:List Pr} {tl:List Int} (h:¬Sp.bsE n ps tl=0):Sp.bsL n ps tl=[]/\Sp.bsC n ps tl=0:=⟨if_neg h,if_neg h⟩
theorem ch_full {n:Nat} {ps:List Pr} {tl:List Int} (hv:Sp.okV n ps) (hc:¬Sp.cyc n ps) (htl:tl.length = n):Sp.ch (Sp.gr n ps tl n 0 none) tl = (Sp.rv n ps tl n 0 none:Nat):=by
 have hb:=(Zdv (tl:=tl) hv hc n [] (fun j hj => by simp at hj) (by simp)).1
 have e:Sp.full n ps tl n [] = Sp.gr n ps tl n 0 none:=rfl
 rw [e] at hb
 unfold Sp.ch
 rw [ch_cg _ none 0 fun x hx => by have:=Zb8 hb x hx;omega,gr_cost hv hc n 0 none ZfF];omega
end Go.Av

namespace Go.Av
open Go.Proofs
set_option maxRecDepth 100000
def fi7:Fi:=⟨83,[.tmp 6]⟩
def kp7:List (Nat × List Nat):=[(0,[0,1,2]),(1,[0,1,2,7]),(2,[0,1,2,7,29]),(3,[6]),(4,[0,1,2,7,8,9,10]),(5,[0,1,2,7,8,9,10,11]),(6,[0,1,2,7,8,9,10,11,46]),(7,[6]),(8,[0,1,2,7,8,9,10,51]),(9,[6]),(10,[0,1,2,7,9,70]),(11,[6]),(12,[6])]
def lFeN_at (f g h:Bool) (ps:List Pr) (o:List Int) (Q:AV->Heap->Prop):Prop:=Wp M1 (.run fi7 (atC (cd Try.f7) []) [(0,.vec g 2 (ps.map Pr.v)),(1,.vec f 1 (([]:List Int).map (.int .i64))),(2,.vec h 1 (o.map (.int .i64)))] []) Q
def lFeC_at (f g h:Bool) (ps:List Pr) (a:Int) (tl o:List Int) (Q:AV->Heap->Prop):Prop:=Wp M1 (.run fi7 (atC (cd Try.f7) []) [(0,.vec g 2 (ps.map Pr.v)),(1,.vec f 1 ((a::tl).map (.int .i64))),(2,.vec h 1 (o.map (.int .i64)))] []) Q
theorem call7 {args:List AV} {d:AV} (h:wc M1 fi7 Try.f7 args d):Ev M1 (.pure 7 args) d []:=pcl _ _ (by kernel_rfl) h
theorem lFeN (f g h:Bool) (ps:List Pr) (o:List Int)  (dq:AV) (H :
  ((((↑ps.length:Int) > 60) \/ ((↑o.length:Int) > 20)) -> vb true = dq) /\
  (¬(((↑ps.length:Int) > 60) \/ ((↑o.length:Int) > 20)) -> (Sp.few ps.length 60000000000) /\
   ∃ (x1:Iw) (n1:Int) (n2:Int),
   (Ev M1 (Conf.pure 24 [vi 0,AV.vec false 2 (List.map Pr.v ps),AV.vec true 1 []]) (tu [vf (List.map (vi) x1.1),vi n1,vi n2]) []) /\
   ((¬Sp.vd 0 ps = 0) -> vb (n2 == Sp.vd 0 ps) = dq) /\
   (¬(¬Sp.vd 0 ps = 0) -> ((¬n2 = 0) -> ((n2 = 12) -> (Sp.vd 0 ps = 0)) /\
     vb (bif n2 == 12 then Sp.cycB (Int.toNat 0) ps else false) = dq) /\
    (¬(¬n2 = 0) -> (Sp.few x1.1.length 4000000000) /\
     (Sp.few ps.length 4000000000) /\
     ∃ (n3:Int),
     ((¬(¬(Sp.lin 0 ps x1.1 = true))) -> (Ev M1 (Conf.pure 26 [vf (List.map (vi) x1.1),AV.vec f 1 []]) (vi n3) [])) /\
     (((¬(Sp.lin 0 ps x1.1 = true)) \/ (¬n3 = n1)) -> vb false = dq) /\
     (¬((¬(Sp.lin 0 ps x1.1 = true)) \/ (¬n3 = n1)) -> (Sp.few o.length 4000000000) /\
      ∃ (n4:Int),
      ((¬(¬(Sp.lin 0 ps o = true))) -> (Ev M1 (Conf.pure 26 [AV.vec h 1 (List.map (vi) o),AV.vec f 1 []]) (vi n4) [])) /\
      (vb (bif !Sp.lin 0 ps o then true else decide (n4 >= n1))) = dq))))) :
 lFeN_at f g h ps o (Zat dq):=by
 unfold lFeN_at
 have w1:(List.map Pr.v ps).length = ps.length:=List.length_map ..
 have w2:(List.map (vi) o).length = o.length:=List.length_map ..
 have i3:(bif decide ((↑(List.map Pr.v ps).length:Int) > 60) then true else decide ((↑(List.map (vi) o).length:Int) > 20)) = true ↔ (((↑ps.length:Int) > 60) \/ ((↑o.length:Int) > 20)):=(by (try rw [w1]);(try rw [w2]);all_goals exact (ZaF Zaa Zaa))
 refine Zab (G:=Zae kp7 [(2,0,.call (vb true) none)] []) 7 [] ⟨(atC (cd Try.f7) [1,1,0,1]),[(0,AV.vec g 2 (List.map Pr.v ps)),(1,AV.vec f 1 []),(2,AV.vec h 1 (List.map (vi) o)),(7,vi 0),(29,vb (bif decide ((↑(List.map Pr.v ps).length:Int) > 60) then true else decide ((↑(List.map (vi) o).length:Int) > 20)))],[],_,[],_⟩ (by kernel_rfl) b0 q0 (ce (@ev12 ) c0) ?_
 rcases xq H with ⟨d4,H⟩|⟨d4,H⟩
 ·exact ZaB (G:=Zae kp7 [(3,0,.call (vb true) none)] []) 1000 [true] (vb true) (by kernel_rfl) (bc (Zas (i3.2 d4)) b0) q0 (ce (@ev12 ) c0) H
 ·obtain ⟨k5,x1,n1,n2,k6,H⟩:=H
  refine Zab (G:=Zae kp7 [(4,2,.call (AV.vec false 2 (List.map Pr.v ps)) none),(4,6,.call (tu [vf (List.map (vi) x1.1),vi n1,vi n2]) none),(5,2,.call (vi (Sp.vd 0 ps)) none)] []) 9 [false] ⟨(atC (cd Try.f7) [1,1,1,1,0,1,1]),[(0,AV.vec g 2 (List.map Pr.v ps)),(1,AV.vec f 1 []),(2,AV.vec h 1 (List.map (vi) o)),(7,vi 0),(8,vf (List.map (vi) x1.1)),(9,vi n1),(10,vi n2),(11,vi (Sp.vd 0 ps)),(46,vb (Sp.vd 0 ps != 0))],[],_,[],_⟩ (by kernel_rfl) (bc (Zap (fun h => d4 (i3.1 h))) b0) q0 (ce (@ev13 (g) (ps) k5) (ce k6 (ce (@ev15 (0) (g) (ps)) c0))) ?_
  rcases xq H with ⟨d8,H⟩|⟨d8,H⟩
  ·exact ZaB (G:=Zae kp7 [] []) 1000 [true] (vb (n2 == Sp.vd 0 ps)) (by kernel_rfl) (bc (Zas (i_ne.2 d8)) b0) q0 c0 H
  ·rcases xq H with ⟨d10,H⟩|⟨d10,H⟩
   ·obtain ⟨k12,H⟩:=H
    exact ZaB (G:=Zae kp7 [(9,5,.call (vb (Sp.cycB (Int.toNat 0) ps)) none)] []) 1000 [false,true] (calls:=[⟨(n2 == 12) == true && true && true,false,18,[vi 0,AV.vec g 2 (List.map Pr.v ps)],[],vb (Sp.cycB (Int.toNat 0) ps),[]⟩]) (vb (bif n2 == 12 then Sp.cycB (Int.toNat 0) ps else false)) (by kernel_rfl) (bc (Zap (fun h => d8 (i_ne.1 h))) (bc (Zas (i_ne.2 d10)) b0)) q0 (cc (fun hc => ((@ev18 (0) (g) (ps) (k12 ((i_at (i_at (i_bt i_eq))).1 hc))):Ev M1 (Conf.pure 18 [vi 0,AV.vec g 2 (List.map Pr.v ps)]) (vb (Sp.cycB (Int.toNat 0) ps)) [])) c0) H
   ·obtain ⟨k13,k14,n3,k16,H⟩:=H
    refine Zab (G:=Zae kp7 [(10,3,.call (vb (Sp.lin 0 ps x1.1)) none),(10,8,.call (vi n3) none)] []) 10 [false,false] ⟨(atC (cd Try.f7) [1,1,1,1,1,1,0,1]),[(0,AV.vec g 2 (List.map Pr.v ps)),(1,AV.vec f 1 []),(2,AV.vec h 1 (List.map (vi) o)),(7,vi 0),(9,vi n1),(70,vb (bif !Sp.lin 0 ps x1.1 then true else n3 != n1))],[],_,[],[⟨true,false,23,[vi 0,AV.vec g 2 (List.map Pr.v ps),vf (List.map (vi) x1.1)],[],vb (Sp.lin 0 ps x1.1),[]⟩,⟨(!Sp.lin 0 ps x1.1) == false && true && true,false,26,[vf (List.map (vi) x1.1),AV.vec f 1 []],[],vi n3,[]⟩]⟩ (by kernel_rfl) (bc (Zap (fun h => d8 (i_ne.1 h))) (bc (Zap (fun h => d10 (i_ne.1 h))) b0)) q0 (cc (fun _ => (@ev23 (0) (g) (false) (ps) (x1.1) k13 k14)) (cc (fun hc => ((k16 ((i_at (i_at (i_bf (ZeL (Zar _))))).1 hc)):Ev M1 (Conf.pure 26 [vf (List.map (vi) x1.1),AV.vec f 1 []]) (vi n3) [])) c0)) ?_
    rcases xq H with ⟨d18,H⟩|⟨d18,H⟩
    ·exact ZaB (G:=Zae kp7 [] []) 1000 [true] (asm:=[(bif !Sp.lin 0 ps x1.1 then true else n3 != n1) == true]) (vb false) (by kernel_rfl) (bc (Zas ((ZaF (ZeL (Zar _)) i_ne).2 d18)) b0) q0 c0 H
    ·obtain ⟨k19,n4,k21,H⟩:=H
     exact ZaB (G:=Zae kp7 [(12,3,.call (vb (Sp.lin 0 ps o)) none),(12,8,.call (vi n4) none)] []) 1000 [false] (asm:=[(bif !Sp.lin 0 ps x1.1 then true else n3 != n1) == false]) (calls:=[⟨true,false,23,[vi 0,AV.vec g 2 (List.map Pr.v ps),AV.vec h 1 (List.map (vi) o)],[],vb (Sp.lin 0 ps o),[]⟩,⟨(!Sp.lin 0 ps o) == false && true && true,false,26,[AV.vec h 1 (List.map (vi) o),AV.vec f 1 []],[],vi n4,[]⟩]) (vb (bif !Sp.lin 0 ps o then true else decide (n4 >= n1))) (by kernel_rfl) (bc (Zap (fun h => d18 ((ZaF (ZeL (Zar _)) i_ne).1 h))) b0) q0 (cc (fun _ => (@ev23 (0) (g) (h) (ps) (o) k19 k14)) (cc (fun hc => ((k21 ((i_at (i_at (i_bf (ZeL (Zar _))))).1 hc)):Ev M1 (Conf.pure 26 [AV.vec h 1 (List.map (vi) o),AV.vec f 1 []]) (vi n4) [])) c0)) H
noncomputable abbrev zPyE1 (a:Int) (tl:List Int):=vi a::List.map vi tl
theorem lFeC (f g h:Bool) (ps:List Pr) (a:Int) (tl o:List Int)  (dq:AV) (H :
  (((((↑(tl.length + 1):Int) > 12) \/ ((↑ps.length:Int) > 60)) \/ ((↑o.length:Int) > 20)) -> vb true = dq) /\
  (¬((((↑(tl.length + 1):Int) > 12) \/ ((↑ps.length:Int) > 60)) \/ ((↑o.length:Int) > 20)) -> (Sp.few ps.length 60000000000) /\
   ∃ (x1:Iw) (n1:Int) (n2:Int),
   (Ev M1 (Conf.pure 24 [vi (↑(tl.length + 1):Int),AV.vec false 2 (List.map Pr.v ps),vf (vi a :: List.map (vi) tl)]) (tu [vf (List.map (vi) x1.1),vi n1,vi n2]) []) /\
   ((0 + (tl.length + 1)) * 8 <= 1099511627776) /\
   ((¬Sp.vd (↑(tl.length + 1):Int) ps = 0) -> vb (n2 == Sp.vd (↑(tl.length + 1):Int) ps) = dq) /\
   (¬(¬Sp.vd (↑(tl.length + 1):Int) ps = 0) -> ((¬n2 = 0) -> ((n2 = 12) -> (Sp.vd (↑(tl.length + 1):Int) ps = 0)) /\
     vb (bif n2 == 12 then Sp.cycB (↑(tl.length + 1):Int).toNat ps else false) = dq) /\
    (¬(¬n2 = 0) -> (Sp.few x1.1.length 4000000000) /\
     (Sp.few ps.length 4000000000) /\
     ∃ (n3:Int),
     ((¬(¬(Sp.lin (↑(tl.length + 1):Int) ps x1.1 = true))) -> (Ev M1 (Conf.pure 26 [vf (List.map (vi) x1.1),AV.vec f 1 (vi a :: List.map (vi) tl)]) (vi n3) [])) /\
     (((¬(Sp.lin (↑(tl.length + 1):Int) ps x1.1 = true)) \/ (¬n3 = n1)) -> vb false = dq) /\
     (¬((¬(Sp.lin (↑(tl.length + 1):Int) ps x1.1 = true)) \/ (¬n3 = n1)) -> (Sp.few o.length 4000000000) /\
      ∃ (n4:Int),
      ((¬(¬(Sp.lin (↑(tl.length + 1):Int) ps o = true))) -> (Ev M1 (Conf.pure 26 [AV.vec h 1 (List.map (vi) o),AV.vec f 1 (vi a :: List.map (vi) tl)]) (vi n4) [])) /\
      (vb (bif !Sp.lin (↑(tl.length + 1):Int) ps o then true else decide (n4 >= n1))) = dq))))) :
 lFeC_at f g h ps a tl o (Zat dq):=by
 unfold lFeC_at
 have w1:(List.map (vi) tl).length = tl.length:=List.length_map ..
 have w2:(List.map Pr.v ps).length = ps.length:=List.length_map ..
 have w3:(List.map (vi) o).length = o.length:=List.length_map ..
 have i4:(bif bif decide ((↑((List.map (vi) tl).length + 1):Int) > 12) then true else decide ((↑(List.map Pr.v ps).length:Int) > 60) then true else decide ((↑(List.map (vi) o).length:Int) > 20)) = true ↔ ((((↑(tl.length + 1):Int) > 12) \/ ((↑ps.length:Int) > 60)) \/ ((↑o.length:Int) > 20)):=(by (try rw [w1]);(try rw [w2]);(try rw [w3]);all_goals exact (ZaF (ZaF Zaa Zaa) Zaa))
 refine Zab (G:=Zae kp7 [(2,0,.call (vb true) none)] []) 7 [] ⟨(atC (cd Try.f7) [1,1,0,1]),[(0,AV.vec g 2 (List.map Pr.v ps)),(1,AV.vec f 1 (zPyE1 a tl)),(2,AV.vec h 1 (List.map (vi) o)),(7,vi (↑((List.map (vi) tl).length + 1):Int)),(29,vb (bif bif decide ((↑((List.map (vi) tl).length + 1):Int) > 12) then true else decide ((↑(List.map Pr.v ps).length:Int) > 60) then true else decide ((↑(List.map (vi) o).length:Int) > 20)))],[],_,[],_⟩ (by kernel_rfl) b0 q0 (ce (@ev12 ) c0) ?_
 rcases xq H with ⟨d5,H⟩|⟨d5,H⟩
 ·exact ZaB (G:=Zae kp7 [(3,0,.call (vb true) none)] []) 1000 [true] (vb true) (by kernel_rfl) (bc (Zas (i4.2 d5)) b0) q0 (ce (@ev12 ) c0) H
 ·obtain ⟨k6,x1,n1,n2,k7,H⟩:=H
  have i8:(decide ((0 + ((List.map (vi) tl).length + 1)) * 8 <= 1099511627776)) = true ↔ ((0 + (tl.length + 1)) * 8 <= 1099511627776):=(by (try rw [w1]);all_goals exact Zaa)
  obtain ⟨k9,H⟩:=H
  refine Zab (G:=Zae kp7 [(4,2,.call (AV.vec false 2 (List.map Pr.v ps)) none),(4,6,.call (tu [vf (List.map (vi) x1.1),vi n1,vi n2]) none),(5,2,.call (vi (Sp.vd (↑(tl.length + 1):Int) ps)) none)] []) 9 [false] ⟨(atC (cd Try.f7) [1,1,1,1,0,1,1]),[(0,AV.vec g 2 (List.map Pr.v ps)),(1,AV.vec f 1 (zPyE1 a tl)),(2,AV.vec h 1 (List.map (vi) o)),(7,vi (↑((List.map (vi) tl).length + 1):Int)),(8,vf (List.map (vi) x1.1)),(9,vi n1),(10,vi n2),(11,vi (Sp.vd (↑(tl.length + 1):Int) ps)),(46,vb (Sp.vd (↑(tl.length + 1):Int) ps != 0))],[⟨vi a :: List.map (vi) tl,1,0,true,true⟩],_,[],[pc 13 [AV.vec g 2 (List.map Pr.v ps)] (AV.vec false 2 (List.map Pr.v ps)),pc 24 [vi (↑((List.map (vi) tl).length + 1):Int),AV.vec false 2 (List.map Pr.v ps),vf (zPyE1 a tl)] (tu [vf (List.map (vi) x1.1),vi n1,vi n2]),pc 15 [vi (↑((List.map (vi) tl).length + 1):Int),AV.vec g 2 (List.map Pr.v ps)] (vi (Sp.vd (↑(tl.length + 1):Int) ps))]⟩ (by kernel_rfl) (bc (Zap (fun h => d5 (i4.1 h))) (bc (i8.2 k9) (bc rfl b0))) q0 (ce (@ev13 (g) (ps) k6) (ce (by (try rw [w1]);all_goals exact k7) (ce (by (try rw [w1]);all_goals exact (@ev15 ((↑(tl.length + 1):Int)) (g) (ps))) c0))) ?_
  rcases xq H with ⟨d11,H⟩|⟨d11,H⟩
  ·exact ZaB (G:=Zae kp7 [] []) 1000 [true] (vb (n2 == Sp.vd (↑(tl.length + 1):Int) ps)) (by kernel_rfl) (bc (Zas (i_ne.2 d11)) b0) q0 c0 H
  ·rcases xq H with ⟨d13,H⟩|⟨d13,H⟩
   ·obtain ⟨k15,H⟩:=H
    exact ZaB (G:=Zae kp7 [(9,5,.call (vb (Sp.cycB (↑(tl.length + 1):Int).toNat ps)) none)] []) 1000 [false,true] (calls:=[⟨(n2 == 12) == true && true && true,false,18,[vi (↑((List.map (vi) tl).length + 1):Int),AV.vec g 2 (List.map Pr.v ps)],[],vb (Sp.cycB (↑(tl.length + 1):Int).toNat ps),[]⟩]) (vb (bif n2 == 12 then Sp.cycB (↑(tl.length + 1):Int).toNat ps else false)) (by kernel_rfl) (bc (Zap (fun h => d11 (i_ne.1 h))) (bc (Zas (i_ne.2 d13)) b0)) q0 (cc (fun hc => ((by (try rw [w1]);all_goals exact (@ev18 ((↑(tl.length + 1):Int)) (g) (ps) (k15 ((i_at (i_at (i_bt i_eq))).1 hc)))):Ev M1 (Conf.pure 18 [vi (↑((List.map (vi) tl).length + 1):Int),AV.vec g 2 (List.map Pr.v ps)]) (vb (Sp.cycB (↑(tl.length + 1):Int).toNat ps)) [])) c0) H
   ·obtain ⟨k16,k17,n3,k19,H⟩:=H
    refine Zab (G:=Zae kp7 [(10,3,.call (vb (Sp.lin (↑(tl.length + 1):Int) ps x1.1)) none),(10,8,.call (vi n3) none)] []) 10 [false,false] ⟨(atC (cd Try.f7) [1,1,1,1,1,1,0,1]),[(0,AV.vec g 2 (List.map Pr.v ps)),(1,AV.vec f 1 (zPyE1 a tl)),(2,AV.vec h 1 (List.map (vi) o)),(7,vi (↑((List.map (vi) tl).length + 1):Int)),(9,vi n1),(70,vb (bif !Sp.lin (↑(tl.length + 1):Int) ps x1.1 then true else n3 != n1))],[⟨vi a :: List.map (vi) tl,1,0,true,true⟩],_,[],[⟨true,false,23,[vi (↑((List.map (vi) tl).length + 1):Int),AV.vec g 2 (List.map Pr.v ps),vf (List.map (vi) x1.1)],[],vb (Sp.lin (↑(tl.length + 1):Int) ps x1.1),[]⟩,⟨(!Sp.lin (↑(tl.length + 1):Int) ps x1.1) == false && true && true,false,26,[vf (List.map (vi) x1.1),AV.vec f 1 (zPyE1 a tl)],[],vi n3,[]⟩]⟩ (by kernel_rfl) (bc (Zap (fun h => d11 (i_ne.1 h))) (bc (Zap (fun h => d13 (i_ne.1 h))) b0)) q0 (cc (fun _ => (by (try rw [w1]);all_goals exact (@ev23 ((↑(tl.length + 1):Int)) (g) (false) (ps) (x1.1) k16 k17))) (cc (fun hc => ((k19 ((i_at (i_at (i_bf (ZeL (Zar _))))).1 hc)):Ev M1 (Conf.pure 26 [vf (List.map (vi) x1.1),AV.vec f 1 (zPyE1 a tl)]) (vi n3) [])) c0)) ?_
    rcases xq H with ⟨d21,H⟩|⟨d21,H⟩
    ·exact ZaB (G:=Zae kp7 [] []) 1000 [true] (asm:=[(bif !Sp.lin (↑(tl.length + 1):Int) ps x1.1 then true else n3 != n1) == true]) (vb false) (by kernel_rfl) (bc (Zas ((ZaF (ZeL (Zar _)) i_ne).2 d21)) b0) q0 c0 H
    ·obtain ⟨k22,n4,k24,H⟩:=H
     exact ZaB (G:=Zae kp7 [(12,3,.call (vb (Sp.lin (↑(tl.length + 1):Int) ps o)) none),(12,8,.call (vi n4) none)] []) 1000 [false] (asm:=[(bif !Sp.lin (↑(tl.length + 1):Int) ps x1.1 then true else n3 != n1) == false]) (calls:=[⟨true,false,23,[vi (↑((List.map (vi) tl).length + 1):Int),AV.vec g 2 (List.map Pr.v ps),AV.vec h 1 (List.map (vi) o)],[],vb (Sp.lin (↑(tl.length + 1):Int) ps o),[]⟩,⟨(!Sp.lin (↑(tl.length + 1):Int) ps o) == false && true && true,false,26,[AV.vec h 1 (List.map (vi) o),AV.vec f 1 (zPyE1 a tl)],[],vi n4,[]⟩]) (vb (bif !Sp.lin (↑(tl.length + 1):Int) ps o then true else decide (n4 >= n1))) (by kernel_rfl) (bc (Zap (fun h => d21 ((ZaF (ZeL (Zar _)) i_ne).1 h))) b0) q0 (cc (fun _ => (by (try rw [w1]);all_goals exact (@ev23 ((↑(tl.length + 1):Int)) (g) (h) (ps) (o) k22 k17))) (cc (fun hc => ((k24 ((i_at (i_at (i_bf (ZeL (Zar _))))).1 hc)):Ev M1 (Conf.pure 26 [AV.vec h 1 (List.map (vi) o),AV.vec f 1 (zPyE1 a tl)]) (vi n4) [])) c0)) H
end Go.Av

namespace Go.Av
open Go.Proofs
theorem bsL_len (n:Int) (ps:List Pr) (tl:List Int):(Sp.bsL n ps tl).length <= 16:=by
 by_cases h:Sp.bsE n ps tl = 0
 ·have hE:=h
  unfold Sp.bsL
  rw [if_pos h]
  unfold Sp.bsE at h
  split at h
  ·rename_i hvd
   split at h
   ·split at h
    ·cases h
    ·obtain ⟨m,rfl,hv,hn,hpl⟩:=Ze3 hvd
     have hc:¬Sp.cyc m ps:=fun hy => by
      unfold Sp.ZeJ at h
      rw [if_pos hvd,Int.toNat_natCast,(Zd4 hv).2 hy] at h
      cases h
     rw [Int.toNat_natCast,gr_len hv hc m 0 none ZfF]
     omega
   ·cases h
  ·rename_i hvd;exact absurd h hvd
 ·rw [(bs_no h).1];simp
theorem few_of {a b m:Nat} (h:a<=b) (hb:b<=m):Sp.few a m:=Nat.le_trans h hb
theorem ZfY {n:Nat} {ps:List Pr}:∀ (l pre:List Int),Sp.Zbi n ps pre -> Sp.linF n ps pre l = true -> Sp.Zbi n ps (pre ++ l)
 | [],pre,hb,_ => by rw [List.append_nil];exact hb
 | x :: l,pre,hb,h => by
  unfold Sp.linF at h
  rw [Bool.and_eq_true,Bool.and_eq_true,Bool.and_eq_true,decide_eq_true_eq,Bool.not_eq_true'] at h
  have:=ZfY l (pre ++ [x]) (Zdz hb h.1.1 h.1.2.1 h.1.2.2) h.2
  rw [List.append_assoc] at this
  exact this
theorem rv_least {n:Nat} {ps:List Pr} {tl:List Int} (hv:Sp.okV n ps):∀ (l O:List Int),Sp.Zbi n ps (O ++ l) -> Sp.rv n ps tl l.length (Sp.msk O) (lastO none O) <= Sp.cg tl (lastO none O) l
 | [],O,_ => Nat.zero_le _
 | x :: l,O,h => by
  have hx:=h O.length (by simp)
  have hg:(O ++ x :: l).getD O.length default = x:=by rw [List.getD_eq_getElem?_getD,List.getElem?_append_right (Nat.le_refl _),Nat.sub_self];rfl
  rw [hg,List.take_left' rfl] at hx
  obtain ⟨k,rfl⟩:∃ k:Nat,x = k:=⟨x.toNat,by omega⟩
  have hO:∀ y ∈ O,0 <= y:=fun y hy => (Zb8 h y (List.mem_append_left _ hy)).1
  have ho:Sp.opM ps (Sp.msk O) k = true:=by
   rw [opM_eq (okV_pos hv) hO,hx.2.1,hx.2.2];rfl
  have ih:=rv_least (tl:=tl) hv l (O ++ [(k:Int)]) (by rw [List.append_assoc];exact h)
  rw [ZdU,Int.toNat_natCast,Zej] at ih
  have hm:=(Zd0 (F:=Sp.opM ps (Sp.msk O)) (g:=fun k => Sp.rv n ps tl l.length (Sp.msk O ||| 2 ^ k) (some (k:Int)) + Sp.cg1 tl (lastO none O) k) (List.range n) n).2.1 k (List.mem_range.2 (by omega)) ho
  rw [List.length_cons,Sp.cg]
  unfold Sp.rv
  omega
theorem fe_facts {n:Nat} {ps:List Pr} {tl:List Int} (htl:tl.length = n) (hn:n <= 16) (hvd:Sp.vd n ps = 0) (h0:Sp.bsE n ps tl = 0) :
  Sp.lin n ps (Sp.bsL n ps tl) = true /\ Sp.ch (Sp.bsL n ps tl) tl = Sp.bsC n ps tl /\ ∀ o,Sp.lin n ps o = true -> Sp.ch o tl >= Sp.bsC n ps tl:=by
 have eL:Sp.bsL n ps tl = Sp.gr n ps tl n 0 none:=by unfold Sp.bsL;rw [if_pos h0,Int.toNat_natCast]
 have eC:Sp.bsC n ps tl = (Sp.rv n ps tl n 0 none:Nat):=by unfold Sp.bsC;rw [if_pos h0,Int.toNat_natCast]
 unfold Sp.bsE at h0
 rw [if_pos hvd,if_pos (by omega),if_neg (by omega)] at h0
 obtain ⟨m,hm,hv,_,hpl⟩:=Ze3 hvd
 have hm:n = m:=by omega
 subst hm
 have hc:¬Sp.cyc n ps:=fun hy => by
  unfold Sp.ZeJ at h0
  rw [if_pos hvd,Int.toNat_natCast,(Zd4 hv).2 hy] at h0
  cases h0
 obtain ⟨hb,hl⟩:=Zdv (tl:=tl) hv hc n [] (fun j hj => by simp at hj) (by simp)
 have e:Sp.full n ps tl n [] = Sp.gr n ps tl n 0 none:=rfl
 rw [e] at hb hl
 rw [eL,eC]
 refine ⟨?_,ch_full hv hc htl,fun o ho => ?_⟩
 ·unfold Sp.lin
  rw [decide_eq_true ⟨hvd,by rw [hl]⟩]
  exact Zfz _ [] hb
 ·unfold Sp.lin at ho
  cases hd:decide (Sp.vd n ps = 0 /\ (o.length:Int) = n) with
  | false => rw [hd] at ho;cases ho
  | true =>
   rw [hd] at ho
   have hol:=(of_decide_eq_true hd).2
   have hbo:=ZfY o [] (fun j hj => by simp at hj) ho
   have hr:=rv_least (tl:=tl) hv o [] hbo
   rw [List.nil_append] at hbo
   have e2:o.length = n:=by omega
   rw [e2] at hr
   unfold Sp.ch
   rw [ch_cg o none 0 fun x hx => by have:=Zb8 hbo x hx;omega]
   have:Sp.rv n ps tl n (Sp.msk []) (lastO none []) = Sp.rv n ps tl n 0 none:=rfl
   have e3:Sp.cg tl (lastO none []) o = Sp.cg tl none o:=rfl
   omega
theorem bsE_len {n:Nat} {ps:List Pr} {tl:List Int} (htl:tl.length = n) (hn:n <= 16):Sp.bsE n ps tl = if Sp.vd n ps = 0 then Sp.ZeJ n ps else Sp.vd n ps:=by
 unfold Sp.bsE
 rw [if_pos (show ((tl.length:Nat):Int) = n by omega),if_neg (show ¬((n:Nat):Int) > 16 by omega)]
theorem fe_cyc {n:Nat} {ps:List Pr} {e:Int} (hvd:Sp.vd n ps = 0) (he:e = Sp.ZeJ n ps) (h:¬e = 0):(bif e == 12 then Sp.cycB ((n:Nat):Int).toNat ps else false) = true:=by
 unfold Sp.ZeJ at he
 rw [if_pos hvd] at he
 by_cases hc:Sp.cycB ((n:Nat):Int).toNat ps = true
 ·rw [if_pos hc] at he
  rw [hc,he];rfl
 ·rw [if_neg hc] at he
  exact absurd he h
theorem ev7 (f g h:Bool) (ps:List Pr) (tl o:List Int):Ev M1 (.pure 7 [.vec g 2 (ps.map Pr.v),.vec f 1 (tl.map (.int .i64)),.vec h 1 (o.map (.int .i64))]) (.bool true) []:=by
 have fin:∀ {n:Nat},Sp.bsE n ps tl = 0 -> n = tl.length -> n <= 16 -> Sp.vd n ps = 0 -> AV.bool (bif !Sp.lin n ps o then true else decide (Sp.ch o tl >= Sp.bsC n ps tl)) = .bool true:=fun {n} h0 hn hn16 hvd => by
  obtain ⟨_,_,h3⟩:=fe_facts hn.symm hn16 hvd h0
  cases hl:Sp.lin n ps o with
  | false => rfl
  | true => rw [decide_eq_true (h3 o hl)];rfl
 cases tl with
 | nil =>
  have hl:=bsL_len ((0:Nat):Int) ps []
  refine call7 (lFeN f g h ps o _ ⟨fun _ => rfl,fun h0 => ⟨by unfold Sp.few;omega,⟨Sp.bsL ((0:Nat):Int) ps []⟩,Sp.bsC ((0:Nat):Int) ps [],Sp.bsE ((0:Nat):Int) ps [],ev24 ((0:Nat):Int) true false ps [],fun hv => ?_,fun hv => ⟨fun he => ⟨fun _ => Classical.not_not.1 hv,?_⟩,fun he => ?_⟩⟩⟩)
  ·have hv:¬Sp.vd ((0:Nat):Int) ps = 0:=hv
   rw [bsE_len (n:=0) rfl (by omega),if_neg hv]
   simp
  ·have hv:Sp.vd ((0:Nat):Int) ps = 0:=Classical.not_not.1 hv
   have e:=bsE_len (n:=0) (ps:=ps) (tl:=[]) rfl (by omega)
   rw [if_pos hv] at e
   exact congrArg AV.bool (fe_cyc (n:=0) hv e he)
  ·have hv:Sp.vd ((0:Nat):Int) ps = 0:=Classical.not_not.1 hv
   have he:=Classical.not_not.1 he
   obtain ⟨h1,h2,h3⟩:=fe_facts (n:=0) (tl:=[]) rfl (by omega) hv he
   refine ⟨few_of hl (by omega),by unfold Sp.few;omega,_,fun _ => ev26 false f _ [] (few_of hl (by omega)),fun y => ?_,fun y => ⟨by unfold Sp.few;omega,_,fun _ => ev26 h f o [] (by unfold Sp.few;omega),fin (n:=0) he rfl (by omega) hv⟩⟩
   rcases y with y | y
   ·exact absurd h1 y
   ·exact absurd h2 y
 | cons a tl =>
  have hlen:(a :: tl).length = tl.length + 1:=rfl
  have hl:=bsL_len ((tl.length + 1:Nat):Int) ps (a :: tl)
  refine call7 (lFeC f g h ps a tl o _ ⟨fun _ => rfl,fun h0 => ⟨by unfold Sp.few;omega,⟨Sp.bsL ((tl.length + 1:Nat):Int) ps (a :: tl)⟩,Sp.bsC ((tl.length + 1:Nat):Int) ps (a :: tl),Sp.bsE ((tl.length + 1:Nat):Int) ps (a :: tl),ev24 ((tl.length + 1:Nat):Int) false false ps (a :: tl),by omega,fun hv => ?_,fun hv => ⟨fun he => ⟨fun _ => Classical.not_not.1 hv,?_⟩,fun he => ?_⟩⟩⟩)
  ·rw [bsE_len hlen (by omega),if_neg hv]
   simp
  ·have hv:=Classical.not_not.1 hv
   have e:=bsE_len (ps:=ps) hlen (by omega)
   rw [if_pos hv] at e
   exact congrArg AV.bool (fe_cyc hv e he)
  ·have hv:=Classical.not_not.1 hv
   have he:=Classical.not_not.1 he
   obtain ⟨h1,h2,h3⟩:=fe_facts hlen (by omega) hv he
   refine ⟨few_of hl (by omega),by unfold Sp.few;omega,_,fun _ => ev26 false f _ (a :: tl) (few_of hl (by omega)),fun y => ?_,fun y => ⟨by unfold Sp.few;omega,_,fun _ => ev26 h f o (a :: tl) (by unfold Sp.few;omega),fin he rfl (by omega) hv⟩⟩
   rcases y with y | y
   ·exact absurd h1 y
   ·exact absurd h2 y
end Go.Av
