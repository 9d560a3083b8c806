/- FROM THE EVALUATION RELATION TO A GIVEN STATEMENT. -/
import Derived.Test.YtablgkhmbcegkaaAvArgs
import Derived.Test.YtablgkhmbcegkaaRows
namespace Go.Av
open Go.RowKit Go.WideShapes Go.ChangeShapes

section
variable {H : Type} {enc : TypeId × Value → H} {P : Program}

theorem all_stays (hl : laidOutB P = true) {W W' : World} {sp : Nat → Bool} (hb : Below W.heap.size W W') : ∀ (ts : List TypeId) (vs : List Value) (ds : List (DataW H)) (ps : List MemPlace),
    (∀ t ∈ ts, P.readableRec t = true ∧ t < P.types.size) → (∀ x ∈ ps, x.block < W.heap.size) → (∀ x ∈ ps, sp x.block = true) → DataW.TrodAll enc P W 0 (fun _ => true) true ts vs ds ps → DataW.TrodAll enc P W' 0 sp true ts vs ds ps
  | [], vs, ds, ps, _, _, _, h => by
    obtain ⟨rfl, rfl, rfl⟩ := trodAll_nil h
    rfl
  | t :: ts, vs, ds, ps, ht, hlt, hsp, h => by
    obtain ⟨v, vs, d, ds, p, q, rfl, rfl, rfl, h1, h2⟩ := trodAll_cons h
    obtain ⟨r1, r2⟩ := ht t (List.mem_cons_self ..)
    exact ⟨p, q, WideElems.Trod_stays hl r1 r2 h1 (fun x hx => hb.same (hlt x (by simp [hx]))) (fun x hx => hsp x (by simp [hx])),
      all_stays hl hb ts vs ds q (fun t ht' => ht t (List.mem_cons_of_mem _ ht')) (fun x hx => hlt x (by simp [hx])) (fun x hx => hsp x (by simp [hx])) h2, rfl⟩

theorem args_read {W : World} {n base : Nat} : ∀ (ts : List TypeId) (vs : List Value) (ds : List (DataW H)) (ps : List MemPlace), (∀ t ∈ ts, served P n t = true) →
    (∀ (j : Nat) t v, ts[j]? = some t → vs[j]? = some v → Value.okWide P W .any base t v) → DataW.TrodAll enc P W 0 (fun _ => true) true ts vs ds ps →
    ∃ ass : List (List AV), ass.length = ts.length ∧ (∀ (j : Nat) t bs, ts[j]? = some t → ass[j]? = some bs → Ty P n t bs) ∧ RelL (S0 W) ((ts.zip ass).map fun x => packA P x.1 x.2) vs ∧ ds.length = ts.length
  | [], vs, ds, ps, _, _, h => by
    obtain ⟨rfl, rfl, rfl⟩ := trodAll_nil h
    exact ⟨[], rfl, by simp, .nil _, rfl⟩
  | t :: ts, vs, ds, ps, hs, hv, h => by
    obtain ⟨v, vs, d, ds, p, q, rfl, rfl, rfl, h1, h2⟩ := trodAll_cons h
    obtain ⟨bs, k1, k2⟩ := read_arg (hs t (List.mem_cons_self ..)) (hv 0 t v rfl rfl) h1
    obtain ⟨ass, m1, m2, m3, m4⟩ := args_read ts vs ds q (fun t ht => hs t (List.mem_cons_of_mem _ ht)) (fun j t v hj hv' => hv (j + 1) t v (by simpa using hj) (by simpa using hv')) h2
    refine ⟨bs :: ass, by simp [m1], fun j t' bs' hj ha => ?_, .cons (.data _ _ k2) m3, by simp [m4]⟩
    cases j with
    | zero => simp at hj ha; subst hj; subst ha; exact k1
    | succ j => exact m2 j t' bs' (by simpa using hj) (by simpa using ha)

/-- A statement of this form: for every input its function returns true; the input reads as it did. -/
theorem law_post {M : Mach} (hP : M.P () = P) (hm : P.follows .mixedOrders = true) (hl : laidOutB P = true) {f : FuncId} {F : Func} {s : ChangeSpec} {n : Nat} {tb : TypeId} (hvars : s.vars = []) (hrt : F.resultTypes = #[tb]) (htb : P.underlying tb = some .bool)
    (hserved : ∀ t ∈ F.params.toList, served P n t = true ∧ P.readableRec t = true ∧ t < P.types.size)
    (hs : ∀ (ds : List (DataW H)), ds.length = F.params.toList.length → s.fn H ds = { results := [.lit (.bool true)], args := ds })
    (hev : ∀ ass : List (List AV), ass.length = F.params.toList.length → (∀ (j : Nat) t bs, F.params.toList[j]? = some t → ass[j]? = some bs → Ty P n t bs) →
      Ev M (.pure f ((F.params.toList.zip ass).map fun x => packA P x.1 x.2)) (.bool true) [])
    {apart handsOn : Bool} {W : World} {base : Nat} {args : Array Value} {ds gs : List (DataW H)} {before : List MemPlace}
    (hval : ∀ (j : Nat) t v, F.params[j]? = some t → args[j]? = some v → Value.okWide P W .any base t v) (hW : DataW.Whole enc P F.params.toList s.vars apart W args.toList ds gs before) :
    Calls P f args W fun e W' => ∃ v, e = .returned v ∧ s.post enc P F apart true handsOn false W args v W' := by
  have hW' := hW
  obtain ⟨p, q, hA, hV, rfl, hfz, hnd⟩ := hW
  rw [hvars] at hV
  obtain ⟨rfl, rfl⟩ := trodVars_none hV
  obtain ⟨ass, k1, k2, k3, k4⟩ := args_read F.params.toList args.toList ds p (fun t ht => (hserved t ht).1) (fun j t v hj hv => hval j t v (by simpa using hj) (by simpa using hv)) hA
  have hlt : ∀ x ∈ p, x.block < W.heap.size := fun x hx => by simpa using hW'.lt x (by simpa using hx)
  obtain ⟨_, h2⟩ := (ev_sound (M := M) (by rw [hP]; exact hm) (hev ass k1 k2) : PureSnd M f _ _) W.heap.size (fun _ _ => True) W args.toList (Nat.le_refl _) (fun _ _ _ => trivial) k3
  rw [hP] at h2
  refine Calls.mono h2 fun e W' he => ?_
  cases e with
  | returned cv =>
    obtain ⟨hb, hd⟩ := he
    cases hd
    have hpl : ∀ x ∈ p, decide (x.block < W.heap.size) = true := fun x hx => by simpa using hlt x hx
    refine ⟨_, rfl, ds, [], p ++ [], [], p, [], hW', ?_, ?_, ?_, hb.frame _, fun h => by simp at h⟩
    · rw [List.append_nil, hs ds k4, hrt]
      exact trodAll_mk1 (shut_bool htb true)
    · rw [List.append_nil, hs ds k4]
      exact all_stays hl hb _ _ _ _ (fun t ht => (hserved t ht).2) hlt hpl hA
    · rw [List.append_nil, hs ds k4, hvars]; rfl
  | panicked c => exact he.elim
  | outgrown => exact he.elim
end
end Go.Av
