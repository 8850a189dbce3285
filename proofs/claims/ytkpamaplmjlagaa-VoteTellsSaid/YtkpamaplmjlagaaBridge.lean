/-
  From the abstract machine to a statement of the given rows.
-/
import Derived.Test.YtkpamaplmjlagaaSim4
import Derived.Test.YtkpamaplmjlagaaLim
import Derived.WalkKit
import Derived.ProofKit
import Derived.OpenShut
import Derived.Carry
namespace Go.Ab
open Go
variable {P : Program}

theorem below_of_ext {ρ : Ren} {σ : List AObj} {w w' : World} (h : Ext ρ σ w w') (hno : ∀ β i, ¬Openc ρ σ β i) : Go.RowKit.Below w.heap.size w w' := by
  refine ⟨h.os, h.tape, h.output, h.size, fun k hk => ?_⟩
  obtain ⟨o, ho⟩ : ∃ o, w.heap[k]? = some o := ⟨_, Array.getElem?_eq_getElem hk⟩
  rw [ho]
  by_cases hc : ∃ c e fz, o = Obj.cells c e fz
  · obtain ⟨c, e, fz, rfl⟩ := hc
    obtain ⟨c', h1, h2, h3⟩ := h.cells k c e fz ho
    have : c' = c := by
      apply Array.ext h2
      intro i hi hi'
      have := h3 i (hno k i)
      rw [Array.getElem?_eq_getElem hi, Array.getElem?_eq_getElem hi'] at this
      exact Option.some.inj this
    rw [h1, this]
  · exact h.other k o ho fun c e fz he => hc ⟨c, e, fz, he⟩

/-- A call of the abstract machine, where nothing is open, is a call that leaves all that lay there. -/
theorem call_calls {X : FuncId → Option (List Value → List AObj → Option Out)} {H : FuncId → Nat → List Nat} (hN : NamesOk P) (hX : ∀ f g, X f = some g → StandOk P f g) {f : FuncId} {args : List Value} {σ : List AObj} {b : Bool} {s' : S}
    (h : call P X H f args σ = some (.bool b, s')) {ρ : Ren} {w : World} {args' : Array Value} (hI : Inv ρ σ w) (hno : ∀ β i, ¬Openc ρ σ β i) (hargs : AllL (V ρ) args args'.toList) :
    Calls P f args' w fun e w' => e = .returned (.bool b) ∧ Go.RowKit.Below w.heap.size w w' := by
  obtain ⟨n, hn⟩ := call_ev h
  have := (callN_sim hN hX n f args σ _ _ (hn n (Nat.le_refl _)) ρ w args'.toList hI hargs).2.1
  simp only [Array.toArray_toList] at this
  refine this.mono fun e w' ⟨v', ρ', he, hst, hv⟩ => ?_
  have : v' = .bool b := bool_inv hv
  subst this
  exact ⟨he, below_of_ext hst.ext hno⟩

theorem inv_empty (w : World) : Inv (fun _ => none) [] w where
  new := fun _ _ => rfl
  blk := fun _ _ _ _ h => nomatch h
  arr := fun _ _ _ _ _ _ _ _ h => nomatch h
  own := fun _ _ _ _ _ _ _ _ _ _ _ _ _ _ _ h _ => nomatch h
theorem open_empty {ρ : Ren} (β i : Nat) : ¬Openc ρ [] β i := by
  rintro ⟨b, r, lo, s, N, h, _⟩; simp at h

section read
variable {H : Type} {enc : TypeId × Value → H} {w : World} {base : Nat} {sp : Nat → Bool} {held : Bool} {fuel : Nat} {t e : TypeId} {cs : List Value} {x : DataW H × List MemPlace}
/-- The cells of an array: part by part. -/
theorem trod_array {n : Nat} (ht : P.underlying t = some (.array n e)) (h : DataW.trod enc P w base sp held fuel t cs = some x) :
    ∃ m, cs.length = P.cellsOf t ∧ ∀ i, i < n → ∃ y, DataW.trod enc P w base sp held m e ((cs.drop (i * P.cellsOf e)).take (P.cellsOf e)) = some y := by
  cases fuel with
  | zero => simp [DataW.trod] at h
  | succ m =>
    unfold DataW.trod at h
    rw [ht] at h
    have : (if cs.length = P.cellsOf t then ((List.range n).mapM fun i => DataW.trod enc P w base sp held m e ((cs.drop (i * P.cellsOf e)).take (P.cellsOf e))).map fun xs => (DataW.agg (xs.map (·.1)), xs.flatMap (·.2)) else none) = some x := by
      simpa using h
    split at this
    · rename_i hl
      simp only [Option.map_eq_some_iff] at this
      obtain ⟨xs, hx, _⟩ := this
      refine ⟨m, hl, fun i hi => ?_⟩
      have hg := mapM_some_get hx i i (by simp [hi])
      have hlen := mapM_some_length hx
      simp at hlen
      exact ⟨_, hg.trans (List.getElem?_eq_getElem (by omega))⟩
    · cases this
/-- An array of three integers of sixteen bits. -/
theorem u16_bounds {n : Int} (h : (Lit.int .u16 n).wf = true) : 0 ≤ n ∧ n < 65536 := by
  simp [Lit.wf, IntKind.min, IntKind.max, IntKind.bits, IntKind.signed] at h
  omega
theorem open_u3 {r : Reach} {b0 : Nat} {v : Value} {d : DataW H} {ps : List MemPlace} (hu : P.underlying t = some (.array 3 e)) (he : P.underlying e = some (.int .u16)) (hc1 : P.cellsOf e = 1) (hc3 : P.cellsOf t = 3)
    (hval : Value.okWide P w r b0 t v) (hd : DataW.Trod enc P w base sp held t v d ps) :
    ∃ a b c : Int, v = .agg #[.int .u16 a, .int .u16 b, .int .u16 c] ∧ (0 ≤ a ∧ a < 65536) ∧ (0 ≤ b ∧ b < 65536) ∧ (0 ≤ c ∧ c < 65536) := by
  unfold Value.okWide at hval
  rw [hu] at hval
  obtain ⟨cs, rfl, hsz, _⟩ := hval
  obtain ⟨fuel, h0⟩ := hd
  obtain ⟨m, hl, hp⟩ := trod_array hu h0
  rw [hc1] at hp
  rw [hc3] at hl
  obtain ⟨l, rfl⟩ : ∃ l : List Value, cs = l.toArray := ⟨cs.toList, by simp⟩
  have hcells : (Value.agg l.toArray).cells.toList = l := rfl
  rw [hcells] at hl hp
  match l, hl with
  | [x, y, z], _ =>
    obtain ⟨y0, g0⟩ := hp 0 (by omega)
    obtain ⟨y1, g1⟩ := hp 1 (by omega)
    obtain ⟨y2, g2⟩ := hp 2 (by omega)
    obtain ⟨a, e0, _, wa⟩ := DataW.trod_int he g0
    obtain ⟨b, e1, _, wb⟩ := DataW.trod_int he g1
    obtain ⟨c, e2, _, wc⟩ := DataW.trod_int he g2
    simp at e0 e1 e2
    subst e0 e1 e2
    exact ⟨a, b, c, rfl, u16_bounds wa, u16_bounds wb, u16_bounds wc⟩
end read

section post
open Go.ChangeShapes Go.WideShapes Go.RowKit
variable {H : Type} {enc : TypeId × Value → H}
theorem trodAll_stays (hl : laidOutB P = true) {W W' : World} (hb : Below W.heap.size W W') {sp : Nat → Bool} : ∀ {ts : List TypeId} {vs : List Value} {ds : List (DataW H)} {ps : List MemPlace}, (∀ t ∈ ts, P.readableRec t = true ∧ t < P.types.size) →
    DataW.TrodAll enc P W 0 (fun _ => true) true ts vs ds ps → (∀ x ∈ ps, x.block < W.heap.size) → (∀ x ∈ ps, sp x.block = true) → DataW.TrodAll enc P W' 0 sp true ts vs ds ps
  | [], [], [], _, _, h, _, _ => h
  | t :: ts, v :: vs, d :: ds, ps, ht, h, hN, hsp => by
    obtain ⟨p, q, h1, h2, rfl⟩ := h
    exact ⟨p, q, WideElems.Trod_stays hl (ht t (by simp)).1 (ht t (by simp)).2 h1 (fun x hx => hb.same (hN x (by simp [hx]))) (fun x hx => hsp x (by simp [hx])),
      trodAll_stays hl hb (fun t ht' => ht t (by simp [ht'])) h2 (fun x hx => hN x (by simp [hx])) (fun x hx => hsp x (by simp [hx])), rfl⟩
  | [], [], _ :: _, _, _, h, _, _ => by cases h
  | [], _ :: _, _, _, _, h, _, _ => by cases h
  | _ :: _, [], _, _, _, h, _, _ => by cases h
  | _ :: _, _ :: _, [], _, _, h, _, _ => by cases h

/-- What a statement asks of the end, where nothing that lay there has turned. -/
theorem post_below (hl : laidOutB P = true) {f : Func} {s : ChangeSpec} {apart fresh handsOn again : Bool} {W W' : World} {args : Array Value} {v : Value} {ds gs : List (DataW H)} {before : List MemPlace}
    (hW : DataW.Whole enc P f.params.toList s.vars apart W args.toList ds gs before) (hsv : s.vars = []) (hargs : (s.fn H (ds ++ gs)).args = ds) (hvars : (s.fn H (ds ++ gs)).vars = [])
    (hts : ∀ t ∈ f.params.toList, P.readableRec t = true ∧ t < P.types.size) (hb : Below W.heap.size W W')
    (hres : ∀ (b : Nat) (sp : Nat → Bool) (hd : Bool), DataW.TrodAll enc P W' b sp hd f.resultTypes.toList (v.resultList f.resultTypes.size) (s.fn H (ds ++ gs)).results [])
    (hok : ∀ (j : Nat) (t : TypeId) (r : Value), f.resultTypes[j]? = some t → (v.resultList f.resultTypes.size)[j]? = some r → Value.okWide P W' .any 0 t r) :
    s.post enc P f apart fresh handsOn again W args v W' := by
  have hW0 := hW
  obtain ⟨pa, pv, hA, hV, hps, hz, hn⟩ := hW
  rw [hsv] at hV
  obtain ⟨rfl, rfl⟩ := trodVars_none hV
  have hlt : ∀ x ∈ pa, x.block < W.heap.size := fun x hx => hW0.lt x (by rw [hps]; simp [hx])
  have hA' : ∀ sp : Nat → Bool, (∀ p ∈ before, sp p.block = true) → DataW.TrodAll enc P W' 0 sp true f.params.toList args.toList (s.fn H (ds ++ [])).args pa := fun sp hsp => by
    rw [hargs]
    exact trodAll_stays hl hb hts hA hlt fun x hx => hsp x (by rw [hps]; simp [hx])
  have hV' : ∀ sp : Nat → Bool, DataW.TrodVars enc P W' sp s.vars (s.fn H (ds ++ [])).vars [] := fun sp => by
    rw [hsv, hvars]; rfl
  have hold : ∀ p ∈ before, (fun b => decide (b < W.heap.size)) p.block = true := fun p hp => by simpa using hW0.lt p hp
  refine ⟨ds, [], before, [], pa, [], hW0, hres _ _ _, hA' _ hold, hV' _, hb.frame _, fun _ => ?_⟩
  refine ⟨hok, _, _, ([] ++ pa) ++ [], ⟨[] ++ pa, [], trodAll_append (hA' _ (fun _ _ => rfl)) (hres _ _ _), hV' _, rfl, ?_, ?_⟩, ?_⟩
  · intro b off hp
    have hp' : (.cell b off : MemPlace) ∈ pa := by simpa using hp
    rw [hb.frozen (by exact hlt _ hp')]
    exact hz b off (by rw [hps]; simpa using hp')
  · intro ha
    have := hn ha
    rw [hps] at this
    simpa using this
  · intro p hp _
    rw [hps]
    simpa using hp
end post
end Go.Ab
