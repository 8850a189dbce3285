/-
  Calls without fuel.
-/
import Derived.Test.YtkpamaplmjlagaaAvm
namespace Go.Ab
open Go

open Classical in
noncomputable def lim {α : Type} (g : Nat → Option α) : Option α := if h : ∃ n, (g n).isSome then g (Classical.choose h) else none

def Mono {α : Type} (g : Nat → Option α) : Prop := ∀ n r, g n = some r → g (n + 1) = some r
theorem Mono.le {α : Type} {g : Nat → Option α} (hm : Mono g) {n m : Nat} {r : α} (h : g n = some r) (hle : n ≤ m) : g m = some r := by
  induction hle with
  | refl => exact h
  | step _ ih => exact hm _ _ ih
theorem lim_some {α : Type} {g : Nat → Option α} (hm : Mono g) {n : Nat} {r : α} (h : g n = some r) : lim g = some r := by
  have hex : ∃ n, (g n).isSome := ⟨n, by rw [h]; rfl⟩
  unfold lim
  rw [dif_pos hex]
  obtain ⟨x, hx⟩ := Option.isSome_iff_exists.1 (Classical.choose_spec hex)
  rw [hx]
  rcases Nat.le_total n (Classical.choose hex) with h1 | h1
  · rw [← hx]; exact hm.le h h1
  · rw [← h]; exact (hm.le hx h1).symm
theorem lim_inv {α : Type} {g : Nat → Option α} {r : α} (h : lim g = some r) : ∃ n, g n = some r := by
  unfold lim at h
  split at h
  · exact ⟨_, h⟩
  · cases h

noncomputable def iterL : Iter := fun step fr s => lim fun n => iterN n step fr s
noncomputable def call (P : Program) (X : FuncId → Option (List Value → List AObj → Option Out)) (H : FuncId → Nat → List Nat) : Oracle := fun f args σ => lim fun n => callN P X H n f args σ

section
variable {P : Program}

theorem evalOp_bind (C : Oracle) (h : Nat) (o : Oper) (fr : Fr) (s : S) (k : K1) : evalOp P C h o fr s k = (evalOp P C h o fr s fun v s => some (v, s)).bind fun x => k x.1 x.2 := by
  unfold evalOp
  split <;> (try simp only [Option.bind_assoc, Option.bind_some, Option.bind_none])
  · congr 1; funext args
    split <;> simp only [Option.bind_assoc, Option.bind_some, Option.bind_none]

/-- Oracles: the second answers where the first does. -/
def OLe (C C' : Oracle) : Prop := ∀ f args σ r, C f args σ = some r → C' f args σ = some r

theorem callV_mono {C C' : Oracle} (h : OLe C C') {f : Value} {args : List Value} {s : S} {r : Out} (k : callV C f args s = some r) : callV C' f args s = some r := by
  unfold callV callF at k ⊢
  split at k
  · simp only [Option.map_eq_some_iff] at k ⊢
    obtain ⟨a, ha, e⟩ := k
    exact ⟨a, h _ _ _ _ ha, e⟩
  · cases k

/-- The call that an operation makes, if it makes one. -/
theorem evalOp_dep (C : Oracle) (h : Nat) (o : Oper) (fr : Fr) (s : S) {x : Value × S} (hx : evalOp P C h o fr s (fun v s => some (v, s)) = some x) :
    (∀ C' : Oracle, evalOp P C' h o fr s (fun v s => some (v, s)) = some x) ∨
    ∃ f args, callV C f args s = some x ∧ ∀ C' : Oracle, callV C' f args s = some x → evalOp P C' h o fr s (fun v s => some (v, s)) = some x := by
  by_cases hc : ∃ c f, o.op = .call c ∧ c.callee = .value f
  · obtain ⟨c, f, h1, h2⟩ := hc
    right
    unfold evalOp at hx
    rw [h1] at hx
    simp only [Option.bind_eq_some_iff] at hx
    obtain ⟨args, g1, g2⟩ := hx
    rw [h2] at g2
    simp only [Option.bind_eq_some_iff, Option.some.injEq] at g2
    obtain ⟨fv, g2, r, g3, g4⟩ := g2
    refine ⟨fv, args, by rw [g3, ← g4], fun C' hC' => ?_⟩
    unfold evalOp
    rw [h1]
    simp only [g1, Option.bind_some, h2, g2, hC']
  · left
    intro C'
    rw [← hx]
    unfold evalOp
    split <;> first | rfl | skip
    rename_i c ho
    congr 1; funext args
    split <;> first | rfl | skip
    rename_i f hf
    exact absurd ⟨c, f, ho, hf⟩ hc

theorem evalOp_mono {C C' : Oracle} (hC : OLe C C') {h : Nat} {o : Oper} {fr : Fr} {s : S} {k k' : K1} {r : Out} (hk : ∀ v s r, k v s = some r → k' v s = some r) (he : evalOp P C h o fr s k = some r) : evalOp P C' h o fr s k' = some r := by
  rw [evalOp_bind] at he ⊢
  simp only [Option.bind_eq_some_iff] at he ⊢
  obtain ⟨x, h1, h2⟩ := he
  refine ⟨x, ?_, hk _ _ _ h2⟩
  rcases evalOp_dep C h o fr s h1 with h3 | ⟨f, args, h3, h4⟩
  · exact h3 C'
  · exact h4 C' (callV_mono hC h3)

theorem evalOps_mono {C C' : Oracle} (hC : OLe C C') {h nt : Nat} {all : List Oper} {k k' : KF} (hk : ∀ fr s r, k fr s = some r → k' fr s = some r) : ∀ (l : List Oper) (fr : Fr) (s : S) (r : Out), evalOps P C h nt all l fr s k = some r → evalOps P C' h nt all l fr s k' = some r
  | [], fr, s, r, he => hk _ _ _ he
  | o :: l, fr, s, r, he => by
    simp only [evalOps] at he ⊢
    split at he
    · rename_i hd
      rw [if_pos hd]
      cases hg : o.guard with
      | none =>
        rw [hg] at he
        exact evalOp_mono hC (fun v s r' h' => evalOps_mono hC hk l _ s r' h') he
      | some g =>
        rw [hg] at he
        simp only [Option.bind_eq_some_iff] at he ⊢
        obtain ⟨b, h1, x, h2, h3⟩ := he
        refine ⟨b, h1, x, ?_, evalOps_mono hC hk l _ _ r h3⟩
        cases b with
        | true => simp only [if_true] at h2 ⊢; exact evalOp_mono hC (fun _ _ _ h => h) h2
        | false => simpa using h2
    · cases he

theorem onB_some {b : Bool} {x : Option Out} {r : Out} (h : onB b x = some r) : b = true ∧ x = some r := by
  cases b with
  | true => exact ⟨rfl, h⟩
  | false => cases h

theorem evalDraw_mono {C C' : Oracle} (hC : OLe C C') {h nt : Nat} {ops : List Oper} {anc : List (List Nat)} {k k' : KF} (hk : ∀ fr s r, k fr s = some r → k' fr s = some r) : ∀ (l c : List Nat) (fr : Fr) (s : S) (r : Out), evalDraw P C h nt ops anc c l fr s k = some r → evalDraw P C' h nt ops anc c l fr s k' = some r
  | [], c, fr, s, r, he => hk _ _ _ he
  | i :: l, c, fr, s, r, he => by
    simp only [evalDraw] at he ⊢
    split at he
    · cases he
    · rename_i o ho
      split at he
      · rename_i hd
        rw [if_pos hd]
        cases hg : o.guard with
        | none =>
          rw [hg] at he
          refine evalOp_mono hC (fun v s r' h' => ?_) he
          obtain ⟨h1, h2⟩ := onB_some h'
          rw [h1]
          exact evalDraw_mono hC hk l _ _ s r' h2
        | some g =>
          rw [hg] at he
          simp only [Option.bind_eq_some_iff] at he ⊢
          obtain ⟨b, h1, x, h2, h3⟩ := he
          obtain ⟨h4, h5⟩ := onB_some h3
          refine ⟨b, h1, x, ?_, by rw [h4]; exact evalDraw_mono hC hk l _ _ _ r h5⟩
          cases b with
          | true => simp only [if_true] at h2 ⊢; exact evalOp_mono hC (fun _ _ _ h => h) h2
          | false => simpa using h2
      · cases he

/-- The second goes on where the first does. -/
def Rel (step step' : KF → KF) : Prop := ∀ self self', (∀ fr s r, self fr s = some r → self' fr s = some r) → ∀ fr s r, step self fr s = some r → step' self' fr s = some r
def IM (I I' : Iter) : Prop := ∀ step step', Rel step step' → Rel step' step' → ∀ fr s r, I step fr s = some r → I' step' fr s = some r

theorem iterN_mono {step step' : KF → KF} (hs : Rel step step') : ∀ (n n' : Nat), n ≤ n' → ∀ fr s r, iterN n step fr s = some r → iterN n' step' fr s = some r
  | 0, _, _, _, _, _, h => by simp [iterN] at h
  | n + 1, 0, hle, _, _, _, _ => by omega
  | n + 1, n' + 1, hle, fr, s, r, h => by
    simp only [iterN] at h ⊢
    exact hs _ _ (iterN_mono hs n n' (by omega)) _ _ _ h
theorem iterN_Mono {step : KF → KF} (hs : Rel step step) (fr : Fr) (s : S) : Mono fun n => iterN n step fr s := fun n r h => iterN_mono hs n (n + 1) (Nat.le_succ n) fr s r h
theorem IM_N {n n' : Nat} (h : n ≤ n') : IM (iterN n) (iterN n') := fun _ _ hs _ fr s r hh => iterN_mono hs n n' h fr s r hh
theorem IM_NL (n : Nat) : IM (iterN n) iterL := fun _ _ hs hs' fr s r hh => lim_some (iterN_Mono hs' fr s) (iterN_mono hs n n (Nat.le_refl n) fr s r hh)
theorem IM_L : IM iterL iterL := fun _ _ hs hs' fr s r hh => by
  obtain ⟨n, hn⟩ := lim_inv hh
  exact lim_some (iterN_Mono hs' fr s) (iterN_mono hs n n (Nat.le_refl n) fr s r hn)
theorem OLe.refl (C : Oracle) : OLe C C := fun _ _ _ _ h => h

theorem exec_mono {L : Nat → List Nat} {h nt : Nat} : ∀ (c : Code) (C C' : Oracle) (I I' : Iter), OLe C C' → IM I I' → IM I' I' → ∀ (fr : Fr) (s : S) (k k' : KC) (r : Out), (∀ c fr s r, k c fr s = some r → k' c fr s = some r) → exec P C I L h nt c fr s k = some r → exec P C' I' L h nt c fr s k' = some r
  | .skip, C, C', I, I', hC, hI, hI', fr, s, k, k', r, hk, he => hk _ _ _ _ he
  | .label _, C, C', I, I', hC, hI, hI', fr, s, k, k', r, hk, he => hk _ _ _ _ he
  | .region id ops draw, C, C', I, I', hC, hI, hI', fr, s, k, k', r, hk, he => by
    simp only [exec] at he ⊢
    cases draw with
    | true =>
      simp only [if_true, evalDraw0] at he ⊢
      obtain ⟨h4, h5⟩ := onB_some he
      rw [h4]
      exact evalDraw_mono hC (hk .norm) _ _ _ _ _ h5
    | false => simp only [Bool.false_eq_true, if_false] at he ⊢; exact evalOps_mono hC (hk .norm) _ _ _ _ he
  | .seq a b, C, C', I, I', hC, hI, hI', fr, s, k, k', r, hk, he => by
    simp only [exec] at he ⊢
    refine exec_mono a C C' I I' hC hI hI' fr s _ _ r (fun c fr s r h => ?_) he
    cases c with
    | norm => exact exec_mono b C C' I I' hC hI hI' fr s k k' r hk h
    | ret => exact hk _ _ _ _ h
    | exit id => exact hk _ _ _ _ h
  | .cond c a b, C, C', I, I', hC, hI, hI', fr, s, k, k', r, hk, he => by
    simp only [exec, Option.bind_eq_some_iff] at he ⊢
    obtain ⟨v, h1, h2⟩ := he
    refine ⟨v, h1, ?_⟩
    unfold ifV at h2 ⊢
    split at h2
    · rename_i t
      cases t with
      | true => simp only [if_true] at h2 ⊢; exact exec_mono a C C' I I' hC hI hI' fr s k k' r hk h2
      | false => simp only [Bool.false_eq_true, if_false] at h2 ⊢; exact exec_mono b C C' I I' hC hI hI' fr s k k' r hk h2
    · cases h2
  | .block id a, C, C', I, I', hC, hI, hI', fr, s, k, k', r, hk, he => by
    simp only [exec] at he ⊢
    refine exec_mono a C C' I I' hC hI hI' fr s _ _ r (fun c fr s r h => ?_) he
    cases c with
    | norm => exact hk _ _ _ _ h
    | ret => exact hk _ _ _ _ h
    | exit i =>
      simp only [kBlock] at h ⊢
      split at h
      · rename_i hi; rw [if_pos hi]; exact hk _ _ _ _ h
      · rename_i hi; rw [if_neg hi]; exact hk _ _ _ _ h
  | .loop a, C, C', I, I', hC, hI, hI', fr, s, k, k', r, hk, he => by
    simp only [exec] at he ⊢
    refine hI _ _ (fun self self' hself fr s r h => ?_) (fun self self' hself fr s r h => ?_) _ _ _ he
    · refine exec_mono a C C' I I' hC hI hI' fr s _ _ r (fun c fr s r h => ?_) h
      cases c with
      | norm => exact hself _ _ _ h
      | ret => exact hk _ _ _ _ h
      | exit id => exact hk _ _ _ _ h
    · refine exec_mono a C' C' I' I' (OLe.refl _) hI' hI' fr s _ _ r (fun c fr s r h => ?_) h
      cases c with
      | norm => exact hself _ _ _ h
      | ret => exact h
      | exit id => exact h
  | .exit id, C, C', I, I', hC, hI, hI', fr, s, k, k', r, hk, he => hk _ _ _ _ he
  | .ret, C, C', I, I', hC, hI, hI', fr, s, k, k', r, hk, he => hk _ _ _ _ he
  | .rangeFunc .., C, C', I, I', hC, hI, hI', fr, s, k, k', r, hk, he => by simp [exec] at he
  | .scope _, C, C', I, I', hC, hI, hI', fr, s, k, k', r, hk, he => by simp [exec] at he
  | .goto _, C, C', I, I', hC, hI, hI', fr, s, k, k', r, hk, he => by simp [exec] at he
  | .refuse _, C, C', I, I', hC, hI, hI', fr, s, k, k', r, hk, he => by simp [exec] at he

theorem body_mono {C C' : Oracle} (hC : OLe C C') {n n' : Nat} (hn : n ≤ n') {H : FuncId → Nat → List Nat} : OLe (bodyOf P C (iterN n) H) (bodyOf P C' (iterN n') H) := by
  intro f args σ r h
  unfold bodyOf at h ⊢
  split at h
  · split at h
    · split at h
      · rename_i hl
        rw [if_pos hl]
        exact exec_mono _ _ _ _ _ hC (IM_N hn) (IM_N (Nat.le_refl _)) _ _ _ _ r (fun _ _ _ _ h => h) h
      · cases h
    · cases h
  · cases h

theorem callN_mono {X : FuncId → Option (List Value → List AObj → Option Out)} {H : FuncId → Nat → List Nat} : ∀ n, OLe (callN P X H n) (callN P X H (n + 1))
  | 0 => fun f args σ r h => by simp [callN] at h
  | n + 1 => fun f args σ r h => by
    have h' : (match X f with | some g => g args σ | none => bodyOf P (callN P X H n) (iterN n) H f args σ) = some r := h
    show (match X f with | some g => g args σ | none => bodyOf P (callN P X H (n + 1)) (iterN (n + 1)) H f args σ) = some r
    cases hx : X f with
    | some g => rw [hx] at h'; exact h'
    | none => rw [hx] at h'; exact body_mono (callN_mono n) (Nat.le_succ n) f args σ r h'
theorem callN_Mono {X : FuncId → Option (List Value → List AObj → Option Out)} {H : FuncId → Nat → List Nat} {f : FuncId} {args : List Value} {σ : List AObj} : Mono fun n => callN P X H n f args σ := fun n r h => callN_mono n f args σ r h
theorem callN_le {X : FuncId → Option (List Value → List AObj → Option Out)} {H : FuncId → Nat → List Nat} (n : Nat) : OLe (callN P X H n) (call P X H) := fun _ _ _ _ h => lim_some callN_Mono h

/-- From some number on. -/
def Ev (p : Nat → Prop) : Prop := ∃ N, ∀ n, N ≤ n → p n
theorem Ev.and {p q : Nat → Prop} (h : Ev p) (k : Ev q) : Ev fun n => p n ∧ q n := by
  obtain ⟨a, ha⟩ := h
  obtain ⟨b, hb⟩ := k
  exact ⟨max a b, fun n hn => ⟨ha n (by omega), hb n (by omega)⟩⟩
theorem Ev.imp {p q : Nat → Prop} (h : Ev p) (k : ∀ n, p n → q n) : Ev q := let ⟨N, hN⟩ := h; ⟨N, fun n hn => k n (hN n hn)⟩
theorem Ev.all {p : Nat → Prop} (h : ∀ n, p n) : Ev p := ⟨0, fun n _ => h n⟩
theorem Ev.ge (m : Nat) : Ev fun n => m ≤ n := ⟨m, fun _ h => h⟩

section
variable {X : FuncId → Option (List Value → List AObj → Option Out)} {H : FuncId → Nat → List Nat}

theorem call_ev {f : FuncId} {args : List Value} {σ : List AObj} {r : Out} (h : call P X H f args σ = some r) : Ev fun n => callN P X H n f args σ = some r := by
  obtain ⟨n, hn⟩ := lim_inv h
  exact ⟨n, fun m hm => callN_Mono.le hn hm⟩

theorem callV_ev {f : Value} {args : List Value} {s : S} {r : Out} (h : callV (call P X H) f args s = some r) : Ev fun n => callV (callN P X H n) f args s = some r := by
  unfold callV callF at h ⊢
  split at h
  · simp only [Option.map_eq_some_iff] at h
    obtain ⟨a, ha, e⟩ := h
    refine (call_ev ha).imp fun n hn => ?_
    simp only [Option.map_eq_some_iff]
    exact ⟨a, hn, e⟩
  · cases h

theorem evalOp_cont {h : Nat} {o : Oper} {fr : Fr} {s : S} {k : K1} {kn : Nat → K1} {r : Out} (hk : ∀ v s r, k v s = some r → Ev fun n => kn n v s = some r) (he : evalOp P (call P X H) h o fr s k = some r) : Ev fun n => evalOp P (callN P X H n) h o fr s (kn n) = some r := by
  rw [evalOp_bind] at he
  simp only [Option.bind_eq_some_iff] at he
  obtain ⟨x, h1, h2⟩ := he
  have h3 : Ev fun n => evalOp P (callN P X H n) h o fr s (fun v s => some (v, s)) = some x := by
    rcases evalOp_dep (call P X H) h o fr s h1 with h3 | ⟨f, args, h3, h4⟩
    · exact .all fun n => h3 _
    · exact (callV_ev h3).imp fun n hn => h4 _ hn
  refine (h3.and (hk _ _ _ h2)).imp fun n hn => ?_
  rw [evalOp_bind, hn.1]; exact hn.2

theorem evalOps_cont {h nt : Nat} {all : List Oper} {k : KF} {kn : Nat → KF} (hk : ∀ fr s r, k fr s = some r → Ev fun n => kn n fr s = some r) : ∀ (l : List Oper) (fr : Fr) (s : S) (r : Out), evalOps P (call P X H) h nt all l fr s k = some r → Ev fun n => evalOps P (callN P X H n) h nt all l fr s (kn n) = some r
  | [], fr, s, r, he => hk _ _ _ he
  | o :: l, fr, s, r, he => by
    simp only [evalOps] at he ⊢
    split at he
    · rename_i hd
      simp only [if_pos hd]
      cases hg : o.guard with
      | none =>
        rw [hg] at he
        exact evalOp_cont (fun v s r' h' => evalOps_cont hk l _ s r' h') he
      | some g =>
        rw [hg] at he
        simp only [Option.bind_eq_some_iff] at he
        obtain ⟨b, h1, x, h2, h3⟩ := he
        have h4 : Ev fun n => (if b = true then evalOp P (callN P X H n) h o fr s (fun v s => some (v, s)) else some (undef, s)) = some x := by
          cases b with
          | true => simp only [if_true] at h2 ⊢; exact evalOp_cont (fun _ _ _ h => .all fun _ => h) h2
          | false => exact .all fun _ => by simpa using h2
        refine (h4.and (evalOps_cont hk l _ _ r h3)).imp fun n hn => ?_
        simp only [Option.bind_eq_some_iff]
        exact ⟨b, h1, x, hn.1, hn.2⟩
    · cases he

theorem evalDraw_cont {h nt : Nat} {ops : List Oper} {anc : List (List Nat)} {k : KF} {kn : Nat → KF} (hk : ∀ fr s r, k fr s = some r → Ev fun n => kn n fr s = some r) : ∀ (l c : List Nat) (fr : Fr) (s : S) (r : Out), evalDraw P (call P X H) h nt ops anc c l fr s k = some r → Ev fun n => evalDraw P (callN P X H n) h nt ops anc c l fr s (kn n) = some r
  | [], c, fr, s, r, he => hk _ _ _ he
  | i :: l, c, fr, s, r, he => by
    simp only [evalDraw] at he ⊢
    split at he
    · cases he
    · rename_i o ho
      split at he
      · rename_i hd
        simp only [if_pos hd]
        cases hg : o.guard with
        | none =>
          rw [hg] at he
          refine evalOp_cont (fun v s r' h' => ?_) he
          obtain ⟨h1, h2⟩ := onB_some h'
          rw [h1]
          exact evalDraw_cont hk l _ _ s r' h2
        | some g =>
          rw [hg] at he
          simp only [Option.bind_eq_some_iff] at he
          obtain ⟨b, h1, x, h2, h3⟩ := he
          obtain ⟨h5, h6⟩ := onB_some h3
          have h4 : Ev fun n => (if b = true then evalOp P (callN P X H n) h o fr s (fun v s => some (v, s)) else some (undef, s)) = some x := by
            cases b with
            | true => simp only [if_true] at h2 ⊢; exact evalOp_cont (fun _ _ _ h => .all fun _ => h) h2
            | false => exact .all fun _ => by simpa using h2
          refine (h4.and (evalDraw_cont hk l _ _ _ r h6)).imp fun n hn => ?_
          simp only [Option.bind_eq_some_iff]
          exact ⟨b, h1, x, hn.1, by rw [h5]; exact hn.2⟩
      · cases he

theorem exec_cont {L : Nat → List Nat} {h nt : Nat} : ∀ (c : Code) (fr : Fr) (s : S) (k : KC) (kn : Nat → KC) (r : Out), (∀ c fr s r, k c fr s = some r → Ev fun n => kn n c fr s = some r) → exec P (call P X H) iterL L h nt c fr s k = some r →
    Ev fun n => exec P (callN P X H n) (iterN n) L h nt c fr s (kn n) = some r
  | .skip, fr, s, k, kn, r, hk, he => hk _ _ _ _ he
  | .label _, fr, s, k, kn, r, hk, he => hk _ _ _ _ he
  | .region id ops draw, fr, s, k, kn, r, hk, he => by
    simp only [exec] at he ⊢
    cases draw with
    | true =>
      simp only [if_true, evalDraw0] at he ⊢
      obtain ⟨h4, h5⟩ := onB_some he
      rw [h4]
      exact evalDraw_cont (hk .norm) _ _ _ _ _ h5
    | false => simp only [Bool.false_eq_true, if_false] at he ⊢; exact evalOps_cont (hk .norm) _ _ _ _ he
  | .seq a b, fr, s, k, kn, r, hk, he => by
    simp only [exec] at he ⊢
    refine exec_cont a fr s _ (fun n => kSeq (fun fr s => exec P (callN P X H n) (iterN n) L h nt b fr s (kn n)) (kn n)) r (fun c fr s r h => ?_) he
    cases c with
    | norm => exact exec_cont b fr s k kn r hk h
    | ret => exact hk _ _ _ _ h
    | exit id => exact hk _ _ _ _ h
  | .cond c a b, fr, s, k, kn, r, hk, he => by
    simp only [exec, Option.bind_eq_some_iff] at he ⊢
    obtain ⟨v, h1, h2⟩ := he
    unfold ifV at h2 ⊢
    split at h2
    · rename_i t
      cases t with
      | true => simp only [if_true] at h2; exact (exec_cont a fr s k kn r hk h2).imp fun n hn => ⟨_, h1, by simpa using hn⟩
      | false => simp only [Bool.false_eq_true, if_false] at h2; exact (exec_cont b fr s k kn r hk h2).imp fun n hn => ⟨_, h1, by simpa using hn⟩
    · cases h2
  | .block id a, fr, s, k, kn, r, hk, he => by
    simp only [exec] at he ⊢
    refine exec_cont a fr s _ (fun n => kBlock id (kn n)) r (fun c fr s r h => ?_) he
    cases c with
    | norm => exact hk _ _ _ _ h
    | ret => exact hk _ _ _ _ h
    | exit i =>
      simp only [kBlock] at h ⊢
      split at h
      · rename_i hi; simp only [if_pos hi]; exact hk _ _ _ _ h
      · rename_i hi; simp only [if_neg hi]; exact hk _ _ _ _ h
  | .loop a, fr, s, k, kn, r, hk, he => by
    simp only [exec] at he ⊢
    obtain ⟨m, hm⟩ := lim_inv he
    let step : Nat → KF → KF := fun n self fr s => exec P (callN P X H n) (iterN n) L h nt a fr s (kLoop (L (firstReg a)) (L (10000 + firstReg a)) self (kn n))
    have key : ∀ m fr s r, iterN m (fun self fr s => exec P (call P X H) iterL L h nt a fr s (kLoop (L (firstReg a)) (L (10000 + firstReg a)) self k)) fr s = some r → Ev fun n => iterN m (step n) fr s = some r := by
      intro m
      induction m with
      | zero => intro fr s r h; simp [iterN] at h
      | succ m ih =>
        intro fr s r hh
        simp only [iterN] at hh ⊢
        refine exec_cont a fr s _ (fun n => kLoop (L (firstReg a)) (L (10000 + firstReg a)) (iterN m (step n)) (kn n)) r (fun c fr s r h => ?_) hh
        cases c with
        | norm => exact ih _ _ _ h
        | ret => exact hk _ _ _ _ h
        | exit id => exact hk _ _ _ _ h
    refine ((key m _ _ _ hm).and (.ge m)).imp fun n hn => ?_
    refine iterN_mono (step := step n) (fun self self' hself fr s r h => ?_) m n hn.2 _ _ _ hn.1
    refine exec_mono a _ _ _ _ (OLe.refl _) (IM_N (Nat.le_refl n)) (IM_N (Nat.le_refl n)) fr s _ _ r (fun c fr s r h => ?_) h
    cases c with
    | norm => exact hself _ _ _ h
    | ret => exact h
    | exit id => exact h
  | .exit id, fr, s, k, kn, r, hk, he => hk _ _ _ _ he
  | .ret, fr, s, k, kn, r, hk, he => hk _ _ _ _ he
  | .rangeFunc .., fr, s, k, kn, r, hk, he => by simp [exec] at he
  | .scope _, fr, s, k, kn, r, hk, he => by simp [exec] at he
  | .goto _, fr, s, k, kn, r, hk, he => by simp [exec] at he
  | .refuse _, fr, s, k, kn, r, hk, he => by simp [exec] at he

/-- **A call is what its text comes to.** -/
theorem call_intro {f : FuncId} {args : List Value} {σ : List AObj} {r : Out} (hx : X f = none) (h : bodyOf P (call P X H) iterL H f args σ = some r) : call P X H f args σ = some r := by
  have : Ev fun n => bodyOf P (callN P X H n) (iterN n) H f args σ = some r := by
    unfold bodyOf at h ⊢
    split at h
    · split at h
      · split at h
        · rename_i hl
          simp only [if_pos hl]
          exact exec_cont _ _ _ _ (fun _ => _) r (fun _ _ _ _ h => .all fun _ => h) h
        · cases h
      · cases h
    · cases h
  obtain ⟨N, hN⟩ := this
  refine lim_some callN_Mono (n := N + 1) ?_
  simp only [callN, hx]
  exact hN N (Nat.le_refl _)
theorem call_stand {f : FuncId} {args : List Value} {σ : List AObj} {g : List Value → List AObj → Option Out} (hx : X f = some g) {r : Out} (h : g args σ = some r) : call P X H f args σ = some r := by
  refine lim_some callN_Mono (n := 1) ?_
  simp only [callN, hx]; exact h
theorem call_fuel {f : FuncId} {args : List Value} {σ : List AObj} {r : Out} (n : Nat) (h : callN P X H n f args σ = some r) : call P X H f args σ = some r := lim_some callN_Mono h

/-- What a loop does in a round. -/
def stepOf (P : Program) (C : Oracle) (I : Iter) (L : Nat → List Nat) (h nt : Nat) (a : Code) (k : KC) : KF → KF := fun self fr s => exec P C I L h nt a fr s (kLoop (L (firstReg a)) (L (10000 + firstReg a)) self k)

theorem stepOf_rel {C C' : Oracle} {I I' : Iter} {L : Nat → List Nat} {h nt : Nat} {a : Code} {k : KC} (hC : OLe C C') (hI : IM I I') (hI' : IM I' I') : Rel (stepOf P C I L h nt a k) (stepOf P C' I' L h nt a k) := by
  intro self self' hself fr s r hh
  refine exec_mono a _ _ _ _ hC hI hI' fr s _ _ r (fun c fr s r h => ?_) hh
  cases c with
  | norm => exact hself _ _ _ h
  | ret => exact h
  | exit id => exact h

/-- A round of a loop. -/
theorem loop_intro {L : Nat → List Nat} {h nt : Nat} {a : Code} {fr : Fr} {s : S} {k : KC} {r : Out}
    (he : stepOf P (call P X H) iterL L h nt a k (iterL (stepOf P (call P X H) iterL L h nt a k)) fr s = some r) : iterL (stepOf P (call P X H) iterL L h nt a k) fr s = some r := by
  have hrel : Rel (stepOf P (call P X H) iterL L h nt a k) (stepOf P (call P X H) iterL L h nt a k) := stepOf_rel (OLe.refl _) IM_L IM_L
  -- some number of rounds serves
  have : Ev fun n => exec P (callN P X H n) (iterN n) L h nt a fr s (kLoop (L (firstReg a)) (L (10000 + firstReg a)) (iterN n (stepOf P (call P X H) iterL L h nt a k)) k) = some r := by
    refine exec_cont a fr s _ (fun n => kLoop (L (firstReg a)) (L (10000 + firstReg a)) (iterN n (stepOf P (call P X H) iterL L h nt a k)) k) r (fun c fr s r hh => ?_) he
    cases c with
    | norm =>
      obtain ⟨m, hm⟩ := lim_inv hh
      exact (Ev.ge m).imp fun n hn => (iterN_Mono hrel _ _).le hm hn
    | ret => exact .all fun _ => hh
    | exit id => exact .all fun _ => hh
  obtain ⟨N, hN⟩ := this
  refine lim_some (iterN_Mono hrel fr s) (n := N + 1) ?_
  show stepOf P (call P X H) iterL L h nt a k (iterN N _) fr s = some r
  exact exec_mono a _ _ _ _ (callN_le N) (IM_NL N) IM_L fr s _ _ r (fun _ _ _ _ h => h) (hN N (Nat.le_refl N))

end
end
end Go.Ab
