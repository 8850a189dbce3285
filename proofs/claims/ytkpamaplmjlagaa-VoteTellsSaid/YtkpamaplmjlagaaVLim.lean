/-
  The machine of values without fuel.
-/
import Derived.Test.YtkpamaplmjlagaaVSim4
namespace Go.Vm
open Go Go.Ab
set_option linter.unusedVariables false

noncomputable def iterLV : VIter := fun step fr s => lim fun n => iterNV n step fr s
noncomputable def callLV (P : Program) (X : FuncId → Option (List VV → List VObj → Option VOut)) (H : FuncId → Nat → List Nat) : VOracle := fun f args σ => lim fun n => callNV P X H n f args σ

section
variable {P : Program}
def k4 : K1V (VV × VFr × VS × List Nat) := fun v fr s ws => some (v, fr, s, ws)

theorem evalOpV_bind {β : Type} (C : VOracle) (h : Nat) (os : List Nat) (m : Mode) (o : Oper) (fr : VFr) (s : VS) (k : K1V β) : evalOpV P C h os m o fr s k = (evalOpV P C h os m o fr s k4).bind fun x => k x.1 x.2.1 x.2.2.1 x.2.2.2 := by
  have key : ∀ {γ : Type} (x : Option γ) (g : γ → Option β) (g' : γ → Option (VV × VFr × VS × List Nat)), (∀ y, g y = (g' y).bind fun x => k x.1 x.2.1 x.2.2.1 x.2.2.2) → x.bind g = (x.bind g').bind fun x => k x.1 x.2.1 x.2.2.1 x.2.2.2 := by
    intro γ x g g' hh
    cases x with
    | none => rfl
    | some y => exact hh y
  unfold evalOpV
  split
  all_goals try (repeat' first | rfl | (refine key _ _ _ fun _ => ?_))
  all_goals try (split <;> (repeat' first | rfl | (refine key _ _ _ fun _ => ?_)))
  all_goals try (split <;> (repeat' first | rfl | (refine key _ _ _ fun _ => ?_)))
  all_goals try (split <;> (repeat' first | rfl | (refine key _ _ _ fun _ => ?_)))

def OLeV (C C' : VOracle) : Prop := ∀ f args σ r, C f args σ = some r → C' f args σ = some r
theorem callVV_mono {C C' : VOracle} (h : OLeV C C') {hb : Nat} {f : VV} {args : List VV} {s : VS} {r : VV × VS × List Nat} (k : callVV C hb f args s = some r) : callVV C' hb f args s = some r := by
  unfold callVV callFV at k ⊢
  split at k
  · simp only [Option.map_eq_some_iff] at k ⊢
    obtain ⟨a, ha, e⟩ := k
    exact ⟨a, h _ _ _ _ ha, e⟩
  · cases k

/-- The call that an operation makes, if it makes one. -/
theorem evalOpV_dep (C : VOracle) (h : Nat) (os : List Nat) (m : Mode) (o : Oper) (fr : VFr) (s : VS) {x : VV × VFr × VS × List Nat} (hx : evalOpV P C h os m o fr s k4 = some x) :
    (∀ C' : VOracle, evalOpV P C' h os m o fr s k4 = some x) ∨
    ∃ f args r, callVV C h f args s = some r ∧ ∀ C' : VOracle, callVV C' h f args s = some r → evalOpV P C' h os m o fr s k4 = some x := by
  by_cases hc : ∃ c f, o.op = .call c ∧ c.callee = .value f
  · obtain ⟨c, f, h1, h2⟩ := hc
    right
    unfold evalOpV at hx
    rw [h1] at hx
    simp only at hx
    rw [h2] at hx
    simp only [Option.bind_eq_some_iff] at hx
    obtain ⟨args, g1, fv, g2, r, g3, g4⟩ := hx
    refine ⟨fv, args, r, g3, fun C' hC' => ?_⟩
    unfold evalOpV
    rw [h1]
    simp only
    rw [h2]
    simp only [g1, Option.bind_some, g2, hC']
    exact g4
  · left
    intro C'
    rw [← hx]
    unfold evalOpV
    split <;> first | rfl | skip
    rename_i c ho
    split <;> first | rfl | skip
    rename_i f hf
    exact absurd ⟨c, f, ho, hf⟩ hc

theorem evalOpV_mono {β : Type} {C C' : VOracle} (hC : OLeV C C') {h : Nat} {os : List Nat} {m : Mode} {o : Oper} {fr : VFr} {s : VS} {k k' : K1V β} {r : β} (hk : ∀ v fr s ws r, k v fr s ws = some r → k' v fr s ws = some r) (he : evalOpV P C h os m o fr s k = some r) : evalOpV P C' h os m o fr s k' = some r := by
  rw [evalOpV_bind] at he ⊢
  simp only [Option.bind_eq_some_iff] at he ⊢
  obtain ⟨x, h1, h2⟩ := he
  refine ⟨x, ?_, hk _ _ _ _ _ h2⟩
  rcases evalOpV_dep C h os m o fr s h1 with h3 | ⟨f, args, r', h3, h4⟩
  · exact h3 C'
  · exact h4 C' (callVV_mono hC h3)

theorem brB_mono {β : Type} {v : VV} {a b a' b' : Option β} {r : β} (ha : a = some r → a' = some r) (hb : b = some r → b' = some r) (h : brB v a b = some r) : brB v a' b' = some r := by
  rcases brB_some h with ⟨rfl, h⟩ | ⟨rfl, h⟩
  · exact ha h
  · exact hb h
theorem onV_mono {β : Type} {b : Bool} {x x' : Option β} {r : β} (hx : x = some r → x' = some r) (h : onV b x = some r) : onV b x' = some r := by
  obtain ⟨rfl, h⟩ := onV_some h
  exact hx h

theorem evalG_mono {β : Type} {C C' : VOracle} (hC : OLeV C C') {h nt : Nat} {os : List Nat} {all : List Oper} {k k' : VFr → VS → Option β} (hk : ∀ fr s r, k fr s = some r → k' fr s = some r) : ∀ (its : List Item) (sk : List Nat) (fr : VFr) (s : VS) (r : β), evalG P C h nt os all sk its fr s k = some r → evalG P C' h nt os all sk its fr s k' = some r
  | [], sk, fr, s, r, he => hk _ _ _ he
  | it :: its, sk, fr, s, r, he => by
    simp only [evalG] at he ⊢
    split at he
    · rename_i hd
      rw [if_pos hd]
      have run : ∀ fr2, (evalOpV P C h os it.m it.o fr2 s fun v fr' s' ws => onV (flOk os fr s ws it.fl) (evalG P C h nt os all sk its (putV fr' it.o.dst v) s' k)) = some r → (evalOpV P C' h os it.m it.o fr2 s fun v fr' s' ws => onV (flOk os fr s ws it.fl) (evalG P C' h nt os all sk its (putV fr' it.o.dst v) s' k')) = some r :=
        fun fr2 hh => evalOpV_mono hC (fun v fr' s' ws r' h' => onV_mono (evalG_mono hC hk its sk _ _ r') h') hh
      have skip : ∀ fr2 sk2, onV (flOk os fr s [] it.fl) (evalG P C h nt os all sk2 its fr2 s k) = some r → onV (flOk os fr s [] it.fl) (evalG P C' h nt os all sk2 its fr2 s k') = some r := fun fr2 sk2 => onV_mono (evalG_mono hC hk its sk2 _ _ r)
      cases hg : it.o.guard with
      | none => rw [hg] at he; exact run _ he
      | some g =>
        obtain ⟨j, want⟩ := g
        rw [hg] at he
        simp only at he ⊢
        split at he
        · cases he
        · split at he
          · rename_i hs; rw [if_pos hs]; exact skip _ _ he
          · rename_i hs
            rw [if_neg hs]
            simp only [Option.bind_eq_some_iff] at he ⊢
            obtain ⟨v, h1, he⟩ := he
            refine ⟨v, h1, brB_mono (fun hh => ?_) (fun hh => ?_) he⟩ <;> (split at hh) <;> rename_i hw <;> first | rw [if_pos hw] | rw [if_neg hw]
            · exact run _ hh
            · exact skip _ _ hh
            · exact skip _ _ hh
            · exact run _ hh
    · cases he

theorem evalR_mono {C C' : VOracle} (hC : OLeV C C') {h nt : Nat} {os need : List Nat} {all : List Oper} {k k' : VKF} (hk : ∀ fr s r, k fr s = some r → k' fr s = some r) : ∀ (bs : List Blk) (fr : VFr) (s : VS) (r : VOut), evalR P C h nt os need all bs fr s k = some r → evalR P C' h nt os need all bs fr s k' = some r
  | [], fr, s, r, he => hk _ _ _ he
  | .one it :: bs, fr, s, r, he => by
    simp only [evalR] at he ⊢
    split at he
    · rename_i hd
      rw [if_pos hd]
      exact evalOpV_mono hC (fun v fr' s' ws r' h' => onV_mono (evalR_mono hC hk bs _ _ r') h') he
    · cases he
  | .grp its :: bs, fr, s, r, he => by
    simp only [evalR, Option.bind_eq_some_iff] at he ⊢
    obtain ⟨x, h1, h2⟩ := he
    exact ⟨x, evalG_mono hC (fun _ _ _ h => h) its [] fr s x h1, evalR_mono hC hk bs _ _ r h2⟩

def RelV (step step' : VKF → VKF) : Prop := ∀ self self', (∀ fr s r, self fr s = some r → self' fr s = some r) → ∀ fr s r, step self fr s = some r → step' self' fr s = some r
def IMV (I I' : VIter) : Prop := ∀ step step', RelV step step' → RelV step' step' → ∀ fr s r, I step fr s = some r → I' step' fr s = some r
theorem iterNV_mono {step step' : VKF → VKF} (hs : RelV step step') : ∀ (n n' : Nat), n ≤ n' → ∀ fr s r, iterNV n step fr s = some r → iterNV n' step' fr s = some r
  | 0, _, _, _, _, _, h => by simp [iterNV] at h
  | n + 1, 0, hle, _, _, _, _ => by omega
  | n + 1, n' + 1, hle, fr, s, r, h => by
    simp only [iterNV] at h ⊢
    exact hs _ _ (iterNV_mono hs n n' (by omega)) _ _ _ h
theorem iterNV_Mono {step : VKF → VKF} (hs : RelV step step) (fr : VFr) (s : VS) : Mono fun n => iterNV n step fr s := fun n r h => iterNV_mono hs n (n + 1) (Nat.le_succ n) fr s r h
theorem IMV_N {n n' : Nat} (h : n ≤ n') : IMV (iterNV n) (iterNV n') := fun _ _ hs _ fr s r hh => iterNV_mono hs n n' h fr s r hh
theorem IMV_NL (n : Nat) : IMV (iterNV n) iterLV := fun _ _ hs hs' fr s r hh => lim_some (iterNV_Mono hs' fr s) (iterNV_mono hs n n (Nat.le_refl n) fr s r hh)
theorem IMV_L : IMV iterLV iterLV := fun _ _ hs hs' fr s r hh => by
  obtain ⟨n, hn⟩ := lim_inv hh
  exact lim_some (iterNV_Mono hs' fr s) (iterNV_mono hs n n (Nat.le_refl n) fr s r hn)
theorem OLeV.refl (C : VOracle) : OLeV C C := fun _ _ _ _ h => h

theorem execV_mono {L : Nat → List Nat} {h nt : Nat} : ∀ (c : Code) (C C' : VOracle) (I I' : VIter), OLeV C C' → IMV I I' → IMV I' I' → ∀ (fr : VFr) (s : VS) (k k' : VKC) (r : VOut), (∀ c fr s r, k c fr s = some r → k' c fr s = some r) → execV P C I L h nt c fr s k = some r → execV P C' I' L h nt c fr s k' = some r
  | .skip, C, C', I, I', hC, hI, hI', fr, s, k, k', r, hk, he => hk _ _ _ _ he
  | .label _, C, C', I, I', hC, hI, hI', fr, s, k, k', r, hk, he => hk _ _ _ _ he
  | .region id ops draw, C, C', I, I', hC, hI, hI', fr, s, k, k', r, hk, he => by
    simp only [execV] at he ⊢
    cases draw with
    | true =>
      simp only [if_true, evalDrawV] at he ⊢
      split at he
      · simp only [Option.bind_eq_some_iff] at he ⊢
        obtain ⟨its, h1, h2⟩ := he
        exact ⟨its, h1, evalR_mono hC (hk .norm) _ _ _ _ h2⟩
      · cases he
    | false => simp only [Bool.false_eq_true, if_false] at he ⊢; exact evalR_mono hC (hk .norm) _ _ _ _ he
  | .seq a b, C, C', I, I', hC, hI, hI', fr, s, k, k', r, hk, he => by
    simp only [execV] at he ⊢
    refine execV_mono a C C' I I' hC hI hI' fr s _ _ r (fun c fr s r h => ?_) he
    cases c with
    | norm => exact execV_mono b C C' I I' hC hI hI' fr s k k' r hk h
    | ret => exact hk _ _ _ _ h
    | exit id => exact hk _ _ _ _ h
  | .cond c a b, C, C', I, I', hC, hI, hI', fr, s, k, k', r, hk, he => by
    simp only [execV, Option.bind_eq_some_iff] at he ⊢
    obtain ⟨v, h1, h2⟩ := he
    refine ⟨v, h1, ?_⟩
    unfold ifVV at h2 ⊢
    split at h2
    · rename_i t
      cases t with
      | true => simp only [if_true] at h2 ⊢; exact execV_mono a C C' I I' hC hI hI' fr s k k' r hk h2
      | false => simp only [Bool.false_eq_true, if_false] at h2 ⊢; exact execV_mono b C C' I I' hC hI hI' fr s k k' r hk h2
    · cases h2
  | .block id a, C, C', I, I', hC, hI, hI', fr, s, k, k', r, hk, he => by
    simp only [execV] at he ⊢
    refine execV_mono a C C' I I' hC hI hI' fr s _ _ r (fun c fr s r h => ?_) he
    cases c with
    | norm => exact hk _ _ _ _ h
    | ret => exact hk _ _ _ _ h
    | exit i =>
      simp only [kBlockV] at h ⊢
      split at h
      · rename_i hi; rw [if_pos hi]; exact hk _ _ _ _ h
      · rename_i hi; rw [if_neg hi]; exact hk _ _ _ _ h
  | .loop a, C, C', I, I', hC, hI, hI', fr, s, k, k', r, hk, he => by
    simp only [execV] at he ⊢
    refine hI _ _ (fun self self' hself fr s r h => ?_) (fun self self' hself fr s r h => ?_) _ _ _ he
    · refine execV_mono a C C' I I' hC hI hI' fr s _ _ r (fun c fr s r h => ?_) h
      cases c with
      | norm => exact hself _ _ _ h
      | ret => exact hk _ _ _ _ h
      | exit id => exact hk _ _ _ _ h
    · refine execV_mono a C' C' I' I' (OLeV.refl _) hI' hI' fr s _ _ r (fun c fr s r h => ?_) h
      cases c with
      | norm => exact hself _ _ _ h
      | ret => exact h
      | exit id => exact h
  | .exit id, C, C', I, I', hC, hI, hI', fr, s, k, k', r, hk, he => hk _ _ _ _ he
  | .ret, C, C', I, I', hC, hI, hI', fr, s, k, k', r, hk, he => hk _ _ _ _ he
  | .rangeFunc .., C, C', I, I', hC, hI, hI', fr, s, k, k', r, hk, he => by simp [execV] at he
  | .scope _, C, C', I, I', hC, hI, hI', fr, s, k, k', r, hk, he => by simp [execV] at he
  | .goto _, C, C', I, I', hC, hI, hI', fr, s, k, k', r, hk, he => by simp [execV] at he
  | .refuse _, C, C', I, I', hC, hI, hI', fr, s, k, k', r, hk, he => by simp [execV] at he

theorem bodyV_mono {C C' : VOracle} (hC : OLeV C C') {n n' : Nat} (hn : n ≤ n') {H : FuncId → Nat → List Nat} : OLeV (bodyV P C (iterNV n) H) (bodyV P C' (iterNV n') H) := by
  intro f args σ r h
  unfold bodyV at h ⊢
  split at h
  · split at h
    · split at h
      · rename_i hl
        rw [if_pos hl]
        exact execV_mono _ _ _ _ _ hC (IMV_N hn) (IMV_N (Nat.le_refl _)) _ _ _ _ r (fun _ _ _ _ h => h) h
      · cases h
    · cases h
  · cases h

section
variable {X : FuncId → Option (List VV → List VObj → Option VOut)} {H : FuncId → Nat → List Nat}
theorem callNV_mono : ∀ n, OLeV (callNV P X H n) (callNV P X H (n + 1))
  | 0 => fun f args σ r h => by simp [callNV] at h
  | n + 1 => fun f args σ r h => by
    have h' : (match X f with | some g => g args σ | none => bodyV P (callNV P X H n) (iterNV n) H f args σ) = some r := h
    show (match X f with | some g => g args σ | none => bodyV P (callNV P X H (n + 1)) (iterNV (n + 1)) H f args σ) = some r
    cases hx : X f with
    | some g => rw [hx] at h'; exact h'
    | none => rw [hx] at h'; exact bodyV_mono (callNV_mono n) (Nat.le_succ n) f args σ r h'
theorem callNV_Mono {f : FuncId} {args : List VV} {σ : List VObj} : Mono fun n => callNV P X H n f args σ := fun n r h => callNV_mono n f args σ r h
theorem callNV_le (n : Nat) : OLeV (callNV P X H n) (callLV P X H) := fun _ _ _ _ h => lim_some callNV_Mono h
theorem callLV_ev {f : FuncId} {args : List VV} {σ : List VObj} {r : VOut} (h : callLV P X H f args σ = some r) : Ev fun n => callNV P X H n f args σ = some r := by
  obtain ⟨n, hn⟩ := lim_inv h
  exact ⟨n, fun m hm => callNV_Mono.le hn hm⟩
theorem callVV_ev {hb : Nat} {f : VV} {args : List VV} {s : VS} {r : VV × VS × List Nat} (h : callVV (callLV P X H) hb f args s = some r) : Ev fun n => callVV (callNV P X H n) hb f args s = some r := by
  unfold callVV callFV at h ⊢
  split at h
  · simp only [Option.map_eq_some_iff] at h
    obtain ⟨a, ha, e⟩ := h
    refine (callLV_ev ha).imp fun n hn => ?_
    simp only [Option.map_eq_some_iff]
    exact ⟨a, hn, e⟩
  · cases h

theorem evalOpV_cont {β : Type} {h : Nat} {os : List Nat} {m : Mode} {o : Oper} {fr : VFr} {s : VS} {k : K1V β} {kn : Nat → K1V β} {r : β} (hk : ∀ v fr s ws r, k v fr s ws = some r → Ev fun n => kn n v fr s ws = some r) (he : evalOpV P (callLV P X H) h os m o fr s k = some r) : Ev fun n => evalOpV P (callNV P X H n) h os m o fr s (kn n) = some r := by
  rw [evalOpV_bind] at he
  simp only [Option.bind_eq_some_iff] at he
  obtain ⟨x, h1, h2⟩ := he
  have h3 : Ev fun n => evalOpV P (callNV P X H n) h os m o fr s k4 = some x := by
    rcases evalOpV_dep (callLV P X H) h os m o fr s h1 with h3 | ⟨f, args, r', h3, h4⟩
    · exact .all fun n => h3 _
    · exact (callVV_ev h3).imp fun n hn => h4 _ hn
  refine (h3.and (hk _ _ _ _ _ h2)).imp fun n hn => ?_
  rw [evalOpV_bind, hn.1]; exact hn.2

theorem brB_cont {β : Type} {v : VV} {a b : Option β} {a' b' : Nat → Option β} {r : β} (ha : a = some r → Ev fun n => a' n = some r) (hb : b = some r → Ev fun n => b' n = some r) (h : brB v a b = some r) : Ev fun n => brB v (a' n) (b' n) = some r := by
  rcases brB_some h with ⟨rfl, h⟩ | ⟨rfl, h⟩
  · exact ha h
  · exact hb h
theorem onV_cont {β : Type} {b : Bool} {x : Option β} {x' : Nat → Option β} {r : β} (hx : x = some r → Ev fun n => x' n = some r) (h : onV b x = some r) : Ev fun n => onV b (x' n) = some r := by
  obtain ⟨rfl, h⟩ := onV_some h
  exact hx h

theorem evalG_cont {β : Type} {h nt : Nat} {os : List Nat} {all : List Oper} {k : VFr → VS → Option β} {kn : Nat → VFr → VS → Option β} (hk : ∀ fr s r, k fr s = some r → Ev fun n => kn n fr s = some r) : ∀ (its : List Item) (sk : List Nat) (fr : VFr) (s : VS) (r : β), evalG P (callLV P X H) h nt os all sk its fr s k = some r → Ev fun n => evalG P (callNV P X H n) h nt os all sk its fr s (kn n) = some r
  | [], sk, fr, s, r, he => hk _ _ _ he
  | it :: its, sk, fr, s, r, he => by
    simp only [evalG] at he ⊢
    split at he
    · rename_i hd
      simp only [if_pos hd]
      have run : ∀ fr2, (evalOpV P (callLV P X H) h os it.m it.o fr2 s fun v fr' s' ws => onV (flOk os fr s ws it.fl) (evalG P (callLV P X H) h nt os all sk its (putV fr' it.o.dst v) s' k)) = some r → Ev fun n => (evalOpV P (callNV P X H n) h os it.m it.o fr2 s fun v fr' s' ws => onV (flOk os fr s ws it.fl) (evalG P (callNV P X H n) h nt os all sk its (putV fr' it.o.dst v) s' (kn n))) = some r :=
        fun fr2 hh => evalOpV_cont (fun v fr' s' ws r' h' => onV_cont (evalG_cont hk its sk _ _ r') h') hh
      have skip : ∀ fr2 sk2, onV (flOk os fr s [] it.fl) (evalG P (callLV P X H) h nt os all sk2 its fr2 s k) = some r → Ev fun n => onV (flOk os fr s [] it.fl) (evalG P (callNV P X H n) h nt os all sk2 its fr2 s (kn n)) = some r := fun fr2 sk2 => onV_cont (evalG_cont hk its sk2 _ _ r)
      cases hg : it.o.guard with
      | none => rw [hg] at he; exact run _ he
      | some g =>
        obtain ⟨j, want⟩ := g
        rw [hg] at he
        simp only at he ⊢
        split at he
        · cases he
        · split at he
          · rename_i hs; simp only [if_pos hs]; exact skip _ _ he
          · rename_i hs
            simp only [if_neg hs]
            simp only [Option.bind_eq_some_iff] at he
            obtain ⟨v, h1, he⟩ := he
            simp only [h1, Option.bind_some]
            cases want with
            | true =>
              simp only [if_true] at he ⊢
              exact brB_cont (run _) (skip _ _) he
            | false =>
              simp only [Bool.false_eq_true, if_false] at he ⊢
              exact brB_cont (skip _ _) (run _) he
    · cases he

theorem evalR_cont {h nt : Nat} {os need : List Nat} {all : List Oper} {k : VKF} {kn : Nat → VKF} (hk : ∀ fr s r, k fr s = some r → Ev fun n => kn n fr s = some r) : ∀ (bs : List Blk) (fr : VFr) (s : VS) (r : VOut), evalR P (callLV P X H) h nt os need all bs fr s k = some r → Ev fun n => evalR P (callNV P X H n) h nt os need all bs fr s (kn n) = some r
  | [], fr, s, r, he => hk _ _ _ he
  | .one it :: bs, fr, s, r, he => by
    simp only [evalR] at he ⊢
    split at he
    · rename_i hd
      simp only [if_pos hd]
      exact evalOpV_cont (fun v fr' s' ws r' h' => onV_cont (evalR_cont hk bs _ _ r') h') he
    · cases he
  | .grp its :: bs, fr, s, r, he => by
    simp only [evalR, Option.bind_eq_some_iff] at he ⊢
    obtain ⟨x, h1, h2⟩ := he
    exact ((evalG_cont (kn := fun _ fr s => match outVs fr (outSl need its) with | some l => some (l, s) | none => none) (fun _ _ _ h => .all fun _ => h) its [] fr s x h1).and (evalR_cont hk bs _ _ r h2)).imp fun n hn => ⟨x, hn.1, hn.2⟩

theorem execV_cont {L : Nat → List Nat} {h nt : Nat} : ∀ (c : Code) (fr : VFr) (s : VS) (k : VKC) (kn : Nat → VKC) (r : VOut), (∀ c fr s r, k c fr s = some r → Ev fun n => kn n c fr s = some r) → execV P (callLV P X H) iterLV L h nt c fr s k = some r →
    Ev fun n => execV P (callNV P X H n) (iterNV n) L h nt c fr s (kn n) = some r
  | .skip, fr, s, k, kn, r, hk, he => hk _ _ _ _ he
  | .label _, fr, s, k, kn, r, hk, he => hk _ _ _ _ he
  | .region id ops draw, fr, s, k, kn, r, hk, he => by
    simp only [execV] at he ⊢
    cases draw with
    | true =>
      simp only [if_true, evalDrawV] at he ⊢
      split at he
      · simp only [Option.bind_eq_some_iff] at he
        obtain ⟨its, h1, h2⟩ := he
        simp only [h1, Option.bind_some]
        exact evalR_cont (hk .norm) _ _ _ _ h2
      · cases he
    | false => simp only [Bool.false_eq_true, if_false] at he ⊢; exact evalR_cont (hk .norm) _ _ _ _ he
  | .seq a b, fr, s, k, kn, r, hk, he => by
    simp only [execV] at he ⊢
    refine execV_cont a fr s _ (fun n => kSeqV (fun fr s => execV P (callNV P X H n) (iterNV n) L h nt b fr s (kn n)) (kn n)) r (fun c fr s r h => ?_) he
    cases c with
    | norm => exact execV_cont b fr s k kn r hk h
    | ret => exact hk _ _ _ _ h
    | exit id => exact hk _ _ _ _ h
  | .cond c a b, fr, s, k, kn, r, hk, he => by
    simp only [execV, Option.bind_eq_some_iff] at he ⊢
    obtain ⟨v, h1, h2⟩ := he
    unfold ifVV at h2 ⊢
    split at h2
    · rename_i t
      cases t with
      | true => simp only [if_true] at h2; exact (execV_cont a fr s k kn r hk h2).imp fun n hn => ⟨_, h1, by simpa using hn⟩
      | false => simp only [Bool.false_eq_true, if_false] at h2; exact (execV_cont b fr s k kn r hk h2).imp fun n hn => ⟨_, h1, by simpa using hn⟩
    · cases h2
  | .block id a, fr, s, k, kn, r, hk, he => by
    simp only [execV] at he ⊢
    refine execV_cont a fr s _ (fun n => kBlockV id (kn n)) r (fun c fr s r h => ?_) he
    cases c with
    | norm => exact hk _ _ _ _ h
    | ret => exact hk _ _ _ _ h
    | exit i =>
      simp only [kBlockV] at h ⊢
      split at h
      · rename_i hi; simp only [if_pos hi]; exact hk _ _ _ _ h
      · rename_i hi; simp only [if_neg hi]; exact hk _ _ _ _ h
  | .loop a, fr, s, k, kn, r, hk, he => by
    simp only [execV] at he ⊢
    obtain ⟨m, hm⟩ := lim_inv he
    let step : Nat → VKF → VKF := fun n self fr s => execV P (callNV P X H n) (iterNV n) L h nt a fr s (kLoopV (L (firstReg a)) (L (10000 + firstReg a)) self (kn n))
    have key : ∀ m fr s r, iterNV m (fun self fr s => execV P (callLV P X H) iterLV L h nt a fr s (kLoopV (L (firstReg a)) (L (10000 + firstReg a)) self k)) fr s = some r → Ev fun n => iterNV m (step n) fr s = some r := by
      intro m
      induction m with
      | zero => intro fr s r h; simp [iterNV] at h
      | succ m ih =>
        intro fr s r hh
        simp only [iterNV] at hh ⊢
        refine execV_cont a fr s _ (fun n => kLoopV (L (firstReg a)) (L (10000 + firstReg a)) (iterNV m (step n)) (kn n)) r (fun c fr s r h => ?_) hh
        cases c with
        | norm => exact ih _ _ _ h
        | ret => exact hk _ _ _ _ h
        | exit id => exact hk _ _ _ _ h
    refine ((key m _ _ _ hm).and (.ge m)).imp fun n hn => ?_
    refine iterNV_mono (step := step n) (fun self self' hself fr s r h => ?_) m n hn.2 _ _ _ hn.1
    refine execV_mono a _ _ _ _ (OLeV.refl _) (IMV_N (Nat.le_refl n)) (IMV_N (Nat.le_refl n)) fr s _ _ r (fun c fr s r h => ?_) h
    cases c with
    | norm => exact hself _ _ _ h
    | ret => exact h
    | exit id => exact h
  | .exit id, fr, s, k, kn, r, hk, he => hk _ _ _ _ he
  | .ret, fr, s, k, kn, r, hk, he => hk _ _ _ _ he
  | .rangeFunc .., fr, s, k, kn, r, hk, he => by simp [execV] at he
  | .scope _, fr, s, k, kn, r, hk, he => by simp [execV] at he
  | .goto _, fr, s, k, kn, r, hk, he => by simp [execV] at he
  | .refuse _, fr, s, k, kn, r, hk, he => by simp [execV] at he

/-- **A call is what its text comes to.** -/
theorem callV_intro {f : FuncId} {args : List VV} {σ : List VObj} {r : VOut} (hx : X f = none) (h : bodyV P (callLV P X H) iterLV H f args σ = some r) : callLV P X H f args σ = some r := by
  have : Ev fun n => bodyV P (callNV P X H n) (iterNV n) H f args σ = some r := by
    unfold bodyV at h ⊢
    split at h
    · split at h
      · split at h
        · rename_i hl
          simp only [if_pos hl]
          exact execV_cont _ _ _ _ (fun _ => _) r (fun _ _ _ _ h => .all fun _ => h) h
        · cases h
      · cases h
    · cases h
  obtain ⟨N, hN⟩ := this
  refine lim_some callNV_Mono (n := N + 1) ?_
  simp only [callNV, hx]
  exact hN N (Nat.le_refl _)
theorem callV_stand {f : FuncId} {args : List VV} {σ : List VObj} {g : List VV → List VObj → Option VOut} (hx : X f = some g) {r : VOut} (h : g args σ = some r) : callLV P X H f args σ = some r := by
  refine lim_some callNV_Mono (n := 1) ?_
  simp only [callNV, hx]; exact h
theorem callV_fuel {f : FuncId} {args : List VV} {σ : List VObj} {r : VOut} (n : Nat) (h : callNV P X H n f args σ = some r) : callLV P X H f args σ = some r := lim_some callNV_Mono h

/-- What a loop does in a round. -/
def stepV (P : Program) (C : VOracle) (I : VIter) (L : Nat → List Nat) (h nt : Nat) (a : Code) (k : VKC) : VKF → VKF := fun self fr s => execV P C I L h nt a fr s (kLoopV (L (firstReg a)) (L (10000 + firstReg a)) self k)
theorem stepV_rel {C C' : VOracle} {I I' : VIter} {L : Nat → List Nat} {h nt : Nat} {a : Code} {k : VKC} (hC : OLeV C C') (hI : IMV I I') (hI' : IMV I' I') : RelV (stepV P C I L h nt a k) (stepV P C' I' L h nt a k) := by
  intro self self' hself fr s r hh
  refine execV_mono a _ _ _ _ hC hI hI' fr s _ _ r (fun c fr s r h => ?_) hh
  cases c with
  | norm => exact hself _ _ _ h
  | ret => exact h
  | exit id => exact h
/-- A round of a loop. -/
theorem loopV_intro {L : Nat → List Nat} {h nt : Nat} {a : Code} {fr : VFr} {s : VS} {k : VKC} {r : VOut}
    (he : stepV P (callLV P X H) iterLV L h nt a k (iterLV (stepV P (callLV P X H) iterLV L h nt a k)) fr s = some r) : iterLV (stepV P (callLV P X H) iterLV L h nt a k) fr s = some r := by
  have hrel : RelV (stepV P (callLV P X H) iterLV L h nt a k) (stepV P (callLV P X H) iterLV L h nt a k) := stepV_rel (OLeV.refl _) IMV_L IMV_L
  have : Ev fun n => execV P (callNV P X H n) (iterNV n) L h nt a fr s (kLoopV (L (firstReg a)) (L (10000 + firstReg a)) (iterNV n (stepV P (callLV P X H) iterLV L h nt a k)) k) = some r := by
    refine execV_cont a fr s _ (fun n => kLoopV (L (firstReg a)) (L (10000 + firstReg a)) (iterNV n (stepV P (callLV P X H) iterLV L h nt a k)) k) r (fun c fr s r hh => ?_) he
    cases c with
    | norm =>
      obtain ⟨m, hm⟩ := lim_inv hh
      exact (Ev.ge m).imp fun n hn => (iterNV_Mono hrel _ _).le hm hn
    | ret => exact .all fun _ => hh
    | exit id => exact .all fun _ => hh
  obtain ⟨N, hN⟩ := this
  refine lim_some (iterNV_Mono hrel fr s) (n := N + 1) ?_
  show stepV P (callLV P X H) iterLV L h nt a k (iterNV N _) fr s = some r
  exact execV_mono a _ _ _ _ (callNV_le N) (IMV_NL N) IMV_L fr s _ _ r (fun _ _ _ _ h => h) (hN N (Nat.le_refl N))
end
end
end Go.Vm
