/-
  Regions that leave their order open.
-/
import Derived.Test.YtkpamaplmjlagaaDraw1
import Derived.Orders
namespace Go.Ab
open Go
section
variable {P : Program}

theorem eqv_sound {x y : Value} (h : eqv x y = true) : x = y := by
  unfold eqv at h
  split at h <;> simp_all
theorem eqvL_sound : ∀ {x y : List Value}, eqvL x y = true → x = y
  | [], [], _ => rfl
  | x :: r, y :: q, h => by
    simp only [eqvL, Bool.and_eq_true] at h
    rw [eqv_sound h.1, eqvL_sound h.2]
  | [], y :: q, h => by cases h
  | x :: r, [], h => by cases h
theorem sameRow_sound {s s' : S} {b : Nat} (h : sameRow s s' b = true) : row s' b = row s b := by
  unfold sameRow at h
  split at h
  · rename_i h1 h2
    unfold row
    rw [h1, h2, eqvL_sound h]
  · cases h
theorem sameObj_sound {s s' : S} {b : Nat} (h : sameObj s s' b = true) : s'.σ[b]? = s.σ[b]? := by
  unfold sameObj at h
  split at h
  · rename_i h1 h2
    simp only [Bool.and_eq_true, beq_iff_eq] at h
    obtain ⟨⟨h3, rfl⟩, rfl⟩ := h
    rw [h1, h2, eqvL_sound h3]
  · cases h

theorem Step.ghost {ρ0 ρ : Ren} {σi σ : List AObj} {wi w : World} (h : Step ρ0 σi wi ρ σ w) (o : AObj) : Step ρ0 σi wi ρ (σ ++ [o]) w := by
  have hn := h.inv.new
  have old : ∀ {b x p}, (σ ++ [o])[b]? = some x → ρ b = some p → σ[b]? = some x := by
    intro b x p h1 h2
    rcases snoc_get h1 with ⟨_, h3⟩ | ⟨h3, _⟩
    · exact h3
    · rw [hn b (by omega)] at h2; cases h2
  refine ⟨h.le, by have := h.len; simp; omega, h.old, h.ext, ?_, ⟨fun b hb => hn b (by simp at hb; omega), h.inv.blk, ?_, ?_⟩⟩
  · rintro β i hβ ⟨b, r, lo, s, N, h1, h2, h3⟩
    exact h.opn β i hβ ⟨b, r, lo, s, N, old h1 h2, h2, h3⟩
  · intro b r lo op β s N h1 h2
    exact h.inv.arr _ _ _ _ _ _ _ (old h1 h2) h2
  · intro b b' r lo r' lo' op' β s N s' N' hne h1 h2 h3 h4
    exact h.inv.own _ _ _ _ _ _ _ _ _ _ _ _ hne (old h1 h3) (old h2 h4) h3 h4

theorem Step.fill {ρ0 ρ : Ren} {σi σ : List AObj} {wi w : World} (h : Step ρ0 σi wi ρ σ w) {n : Nat} {r : List Value} {c : Array Value} (e : TypeId) (hσ : σ[n]? = some (.arr r 0 true)) (hρ : ρ n = none) (hn : σi.length ≤ n) (hl : r.length ≤ c.size)
    (hr : ∀ (i : Nat) (x : Value), r[i]? = some x → ∃ y, c[i]? = some y ∧ V1 ρ x y) : Step ρ0 σi wi (ρ.snoc n (w.heap.size, 0, c.size)) σ (w.alloc (.cells c e)) := by
  have hI := h.inv
  have hle : ρ.le (ρ.snoc n (w.heap.size, 0, c.size)) := Ren.snoc_le hρ
  have hnlt := get_lt hσ
  have hold : ∀ (β : Nat) (o : Obj), w.heap[β]? = some o → (w.alloc (.cells c e)).heap[β]? = some o := fun β o h => by
    show (w.heap.push _)[β]? = _
    rw [Array.getElem?_push, if_neg (by have := lt_of_get h; omega)]; exact h
  have hren : ∀ b β s N, (ρ.snoc n (w.heap.size, 0, c.size)) b = some (β, s, N) → (b = n ∧ β = w.heap.size ∧ s = 0 ∧ N = c.size) ∨ (b ≠ n ∧ ρ b = some (β, s, N)) := by
    intro b β s N h
    unfold Ren.snoc at h
    split at h
    · cases h; exact .inl ⟨‹_›, rfl, rfl, rfl⟩
    · exact .inr ⟨‹_›, h⟩
  have hsz : wi.heap.size ≤ w.heap.size := h.ext.size
  refine ⟨h.le.trans hle, h.len, fun b hb => by unfold Ren.snoc; rw [if_neg (by omega)]; exact h.old b hb, ⟨h.ext.os, h.ext.tape, h.ext.output, by simp; omega, fun β c' e' fz h1 => ?_, fun β o h1 h2 => hold _ _ (h.ext.other β o h1 h2)⟩, ?_, ?_⟩
  · obtain ⟨c1, k1, k2, k3⟩ := h.ext.cells β c' e' fz h1
    exact ⟨c1, hold _ _ k1, k2, k3⟩
  · rintro β i hβ ⟨b, r', lo', s, N, hb, hρ', hi⟩
    rcases hren _ _ _ _ hρ' with ⟨h1, h2, h3, h4⟩ | ⟨h1, h2⟩
    · omega
    · exact h.opn β i hβ ⟨b, r', lo', s, N, hb, h2, hi⟩
  · refine ⟨?_, ?_, ?_, ?_⟩
    · intro b hb
      unfold Ren.snoc
      rw [if_neg (by omega)]
      exact hI.new b hb
    · intro b β s N h
      rcases hren _ _ _ _ h with ⟨h1, h2, h3, h4⟩ | ⟨h1, h2⟩
      · simp; omega
      · have := hI.blk _ _ _ _ h2; simp; omega
    · intro b r' lo' op' β s N hb hρ'
      rcases hren _ _ _ _ hρ' with ⟨h1, h2, h3, h4⟩ | ⟨h1, h2⟩
      · subst h1 h2 h3 h4
        rw [hσ] at hb; cases hb
        refine ⟨c, e, (0, 0), ?_, rfl, by omega, Nat.zero_le _, fun i x hx => ?_, fun _ i _ _ => by simp⟩
        · show (w.heap.push _)[_]? = _
          simp
        · obtain ⟨y, hy, hv⟩ := hr i x hx
          exact ⟨y, by simpa using hy, hv.mono hle⟩
      · obtain ⟨c', e', fz, k1, k2, k3, k4, k5, k6⟩ := hI.arr _ _ _ _ _ _ _ hb h2
        exact ⟨c', e', fz, hold _ _ k1, k2, k3, k4, fun i x hx => let ⟨y, hy, hv⟩ := k5 i x hx; ⟨y, hy, hv.mono hle⟩, k6⟩
    · intro b b' r1 lo1 r2 lo2 op2 β s N s' N' hne hb hb' hρ1 hρ2
      rcases hren _ _ _ _ hρ1 with ⟨h1, h2, h3, h4⟩ | ⟨h1, h2⟩
      · rcases hren _ _ _ _ hρ2 with ⟨k1, _⟩ | ⟨k1, k2⟩
        · omega
        · have := hI.blk _ _ _ _ k2; omega
      · rcases hren _ _ _ _ hρ2 with ⟨k1, k2, _⟩ | ⟨k1, k2⟩
        · have := hI.blk _ _ _ _ h2; omega
        · exact hI.own _ _ _ _ _ _ _ _ _ _ _ _ hne hb hb' h2 k2

/-! ### What the check says -/

structure Stat (ops : List Oper) (anc : List (List Nat)) (od : List Nat) : Prop where
  lt : ∀ i ∈ od, i < ops.length
  cov : ∀ i, i < ops.length → i ∈ od
  nodup : ∀ c i r, od = c ++ i :: r → i ∉ c ∧ i ∉ r
  anc_le : ∀ c i r, od = c ++ i :: r → ∀ k ∈ anc.getD i [], k ∈ c
  spine : ∀ c i r o, od = c ++ i :: r → ops[i]? = some o → isSpine o = true → ∀ j ∈ r, i ∈ anc.getD j []
  dir : ∀ i o, ops[i]? = some o → ∀ k ∈ directs o, k ∈ anc.getD i []
  clo : ∀ i o, ops[i]? = some o → ∀ k ∈ anc.getD i [], k ∈ directs o ∨ ∃ e ∈ directs o, k ∈ anc.getD e []
  dst : ∀ (i j : Nat) (oi oj : Oper) t, i ≠ j → ops[i]? = some oi → ops[j]? = some oj → oi.dst = some t → oj.dst ≠ some t
  slot : ∀ (i j : Nat) (oi oj : Oper) t, i ≠ j → ops[i]? = some oi → ops[j]? = some oj → oi.dst = some t → t ∈ readsOf ops oj → i ∈ anc.getD j [] ∨ (j ∈ anc.getD i [] ∧ isLm oj = false)
  self : ∀ (i : Nat) (oi : Oper) t, ops[i]? = some oi → oi.dst = some t → t ∈ readsOf ops oi → isLm oi = false

theorem ordOk_spec {ops : List Oper} {anc : List (List Nat)} : ∀ {r c0 : List Nat}, ordOk ops anc c0 r = true → ∀ c i r', r = c ++ i :: r' →
    i < ops.length ∧ (∀ k ∈ anc.getD i [], k ∈ c0 ++ c) ∧ i ∉ c0 ++ c ∧ i ∉ r' ∧ (∀ o, ops[i]? = some o → isSpine o = true → ∀ j ∈ r', i ∈ anc.getD j [])
  | [], c0, _, c, i, r', h => by simp at h
  | x :: r, c0, hk, c, i, r', h => by
    simp only [ordOk, Bool.and_eq_true, Bool.or_eq_true, Bool.not_eq_true', decide_eq_true_eq, List.all_eq_true, List.contains_iff_mem] at hk
    obtain ⟨⟨⟨⟨⟨h1, h2⟩, h3⟩, h4⟩, h5⟩, h6⟩ := hk
    cases c with
    | nil =>
      simp only [List.nil_append, List.cons.injEq] at h
      obtain ⟨rfl, rfl⟩ := h
      refine ⟨h1, fun k hk => by simpa using h2 k hk, by simpa using h3, by simpa using h4, fun o ho hs j hj => ?_⟩
      rcases h5 with h5 | h5
      · simp [ho, hs] at h5
      · exact h5 j hj
    | cons y c =>
      simp only [List.cons_append, List.cons.injEq] at h
      obtain ⟨rfl, rfl⟩ := h
      have := ordOk_spec h6 c i r' rfl
      simpa [List.append_assoc] using this

theorem stat_of {ops : List Oper} {anc : List (List Nat)} {od : List Nat} (h : drawOk ops anc od = true) : Stat ops anc od := by
  unfold drawOk at h
  simp only [Bool.and_eq_true, List.all_eq_true, List.mem_range, List.contains_iff_mem] at h
  obtain ⟨h1, h2⟩ := h
  have spec := fun c i r (he : od = c ++ i :: r) => ordOk_spec h1 c i r he
  have one : ∀ i o, ops[i]? = some o → ancOk anc i o = true ∧ slotOk ops anc i o = true := by
    intro i o ho
    have := (h2 i (get_lt ho)).2
    rw [ho] at this
    simpa using this
  refine ⟨fun i hi => ?_, fun i hi => (h2 i hi).1, fun c i r he => ?_, fun c i r he => ?_, fun c i r o he => ?_, fun i o ho k hk => ?_, fun i o ho k hk => ?_, fun i j oi oj t hne hi hj ht => ?_, fun i j oi oj t hne hi hj ht hr => ?_, fun i oi t hi ht hr => ?_⟩
  · obtain ⟨c, r, rfl⟩ := List.append_of_mem hi
    exact (spec c i r rfl).1
  · have := spec c i r he; simp at this; exact ⟨this.2.2.1, this.2.2.2.1⟩
  · have := spec c i r he; simpa using this.2.1
  · exact (spec c i r he).2.2.2.2 o
  · have := (one i o ho).1
    unfold ancOk at this
    simp only [Bool.and_eq_true, List.all_eq_true, List.contains_iff_mem] at this
    exact this.1 k hk
  · have := (one i o ho).1
    unfold ancOk at this
    simp only [Bool.and_eq_true, List.all_eq_true, List.contains_iff_mem, Bool.or_eq_true, List.any_eq_true] at this
    exact this.2 k hk
  · have := (one i oi hi).2
    unfold slotOk at this
    rw [ht] at this
    simp only [Bool.and_eq_true, List.all_eq_true, List.mem_range] at this
    have := this.2 j (get_lt hj)
    rw [hj] at this
    simp only [Bool.or_eq_true, beq_iff_eq, Bool.and_eq_true, bne_iff_ne, ne_eq] at this
    rcases this with h | h
    · exact absurd h.symm hne
    · exact h.1
  · have := (one i oi hi).2
    unfold slotOk at this
    rw [ht] at this
    simp only [Bool.and_eq_true, List.all_eq_true, List.mem_range] at this
    have := this.2 j (get_lt hj)
    rw [hj] at this
    simp only [Bool.or_eq_true, beq_iff_eq, Bool.and_eq_true, Bool.not_eq_true', List.contains_iff_mem] at this
    rcases this with h | h
    · exact absurd h.symm hne
    · rcases h.2 with (h3 | h3) | h3
      · have : (readsOf ops oj).contains t = true := by simpa using hr
        rw [this] at h3; cases h3
      · exact .inl h3
      · exact .inr h3
  · have := (one i oi hi).2
    unfold slotOk at this
    rw [ht] at this
    simp only [Bool.and_eq_true, Bool.or_eq_true, Bool.not_eq_true'] at this
    rcases this.1 with h3 | h3
    · have : (readsOf ops oi).contains t = true := by simpa using hr
      rw [this] at h3; cases h3
    · exact h3

section stat
variable {ops : List Oper} {anc : List (List Nat)} {od : List Nat} (hS : Stat ops anc od)
include hS
theorem Stat.ancc {c r : List Nat} (he : c ++ r = od) {i : Nat} (hi : i ∈ c) : ∀ k ∈ anc.getD i [], k ∈ c := by
  obtain ⟨c1, c2, rfl⟩ := List.append_of_mem hi
  intro k hk
  have := hS.anc_le c1 i (c2 ++ r) (by rw [← he]; simp) k hk
  simp [this]
theorem Stat.irr {i : Nat} (hi : i ∈ od) : i ∉ anc.getD i [] := by
  obtain ⟨c, r, rfl⟩ := List.append_of_mem hi
  intro h
  exact (hS.nodup c i r rfl).1 (hS.anc_le c i r rfl i h)
end stat

/-- An operation put off. -/
structure Rec where
  i : Nat
  o : Oper
  fr : Fr
  s : S
  v : Value
  s1 : S
  g : Bool

def Rec.ok (P : Program) (C : Oracle) (h : Nat) (ops : List Oper) (ρ : Ren) (σi : List AObj) (s : S) (e : Rec) : Prop :=
  wants ops e.o e.fr = some e.g ∧ (e.g = false → e.v = undef) ∧
  (e.g = true → (classOf e.o.op = .maker → evalOp P C h e.o e.fr e.s K0 = some (e.v, e.s1) ∧ σi.length ≤ e.s.σ.length ∧ ρ e.s.σ.length = none ∧ s.σ[e.s.σ.length]? = e.s1.σ[e.s.σ.length]? ∧ e.s.σ.length < s.σ.length) ∧
    (classOf e.o.op ≠ .maker → evalOp P C h e.o e.fr s K0 = some (e.v, s)))

structure J (P : Program) (C : Oracle) (σ0 : List AObj) (nt : Nat) (ops : Array Oper) (anc : List (List Nat)) (od : List Nat) (k : KF) (out : Out) (ρ0 : Ren) (σi : List AObj) (wi : World)
    (c r : List Nat) (E : List Rec) (listed : Array Bool) (fr : Fr) (s : S) (a : Act) (w : World) (ρ : Ren) : Prop where
  od : c ++ r = od
  get : ∀ e ∈ E, ops.toList[e.i]? = some e.o
  mem : ∀ e ∈ E, e.i ∈ c
  nsp : ∀ e ∈ E, isSpine e.o = false
  pw : E.Pairwise fun e e' => e.i ≠ e'.i ∧ e'.i ∉ anc.getD e.i []
  lsz : listed.size = ops.size
  lst : ∀ i, listed.getD i false = true ↔ i ∈ c ∧ ∀ e ∈ E, e.i ≠ i
  dn : ∀ i, i ∈ c → (∀ e ∈ E, e.i ≠ i) → ∀ k ∈ anc.getD i [], ∀ e ∈ E, e.i ≠ k
  f1 : ∀ t v, lk t fr = some v → (∀ e ∈ E, e.o.dst ≠ some t) → V ρ v (a.tmps.getD t undef)
  f2a : ∀ e ∈ E, ∀ t ∈ readsOf ops.toList e.o, ∀ v, lk t e.fr = some v → ∀ e' ∈ E, e'.o.dst = some t → e'.i ∈ anc.getD e.i [] → v = e'.v
  f2b : ∀ e ∈ E, ∀ t ∈ readsOf ops.toList e.o, ∀ v, lk t e.fr = some v → (∀ e' ∈ E, e'.o.dst = some t → e'.i ∉ anc.getD e.i []) → V ρ v (a.tmps.getD t undef)
  f3 : ∀ e ∈ E, ∀ t, e.o.dst = some t → lk t fr = some e.v
  f4 : ∀ e ∈ E, isLm e.o = true → ∀ t ∈ readsOf ops.toList e.o, lk t fr = lk t e.fr
  f5 : ∀ e ∈ E, ∀ e' ∈ E, e.g = true → e'.g = true → classOf e.o.op = .maker → classOf e'.o.op = .maker → e.i ≠ e'.i → e.s.σ.length ≠ e'.s.σ.length
  dok : ∀ e ∈ E, dstOk nt e.o.dst = true
  rok : ∀ e ∈ E, e.ok P C σ0.length ops.toList ρ σi s
  stp : Step ρ0 σi wi ρ s.σ w
  prs : Pres σ0 s
  tsz : a.tmps.size = nt
  dfs : a.defers = []
  cont : evalDraw P C σ0.length nt ops.toList anc c r fr s k = some out

theorem evalDraw_inv {C : Oracle} {h nt : Nat} {ops : List Oper} {anc : List (List Nat)} {c r : List Nat} {i : Nat} {fr : Fr} {s : S} {k : KF} {out : Out} (he : evalDraw P C h nt ops anc c (i :: r) fr s k = some out) :
    ∃ o g v s', ops[i]? = some o ∧ dstOk nt o.dst = true ∧ wants ops o fr = some g ∧ (g = true → evalOp P C h o fr s K0 = some (v, s')) ∧ (g = false → v = undef ∧ s' = s) ∧
      (isSpine o = true → floatOk ops fr s s' (floats ops anc c i) = true) ∧ evalDraw P C h nt ops anc (c ++ [i]) r (putF fr o.dst v) s' k = some out := by
  simp only [evalDraw] at he
  split at he
  · cases he
  · rename_i o ho
    split at he
    · rename_i hd
      have fl : ∀ {b : Bool}, (!isSpine o || b) = true → isSpine o = true → b = true := by
        intro b h1 h2; simpa [h2] using h1
      split at he
      · rename_i hg
        rw [evalOp_bind] at he
        simp only [Option.bind_eq_some_iff] at he
        obtain ⟨x, h1, h2⟩ := he
        obtain ⟨h3, h4⟩ := onB_some h2
        exact ⟨o, true, x.1, x.2, ho, hd, by unfold wants; rw [hg], fun _ => h1, fun h => (Bool.noConfusion h), fl h3, h4⟩
      · simp only [Option.bind_eq_some_iff] at he
        obtain ⟨g, hg, x, hx, he⟩ := he
        obtain ⟨h3, h4⟩ := onB_some he
        refine ⟨o, g, x.1, x.2, ho, hd, hg, fun h => ?_, fun h => ?_, fl h3, h4⟩
        · subst h; simpa using hx
        · subst h; simp at hx; rw [← hx]; exact ⟨rfl, rfl⟩
    · cases he

theorem lk_putF {t : Nat} {fr : Fr} {dst : Option Nat} {v : Value} (h : dst ≠ some t) : lk t (putF fr dst v) = lk t fr := by
  cases dst with
  | none => rfl
  | some d => simp only [putF, lk]; rw [if_neg (by intro h'; exact h (by rw [h']))]
theorem lk_putF_self {t : Nat} {fr : Fr} {v : Value} : lk t (putF fr (some t) v) = some v := by simp [putF, lk]
theorem get_put {a : Act} {t : Nat} {dst : Option Nat} {v : Value} (h : dst ≠ some t) : (a.put dst v).tmps.getD t undef = a.tmps.getD t undef := by
  cases dst with
  | none => rfl
  | some d =>
    have : d ≠ t := fun h' => h (by rw [h'])
    simp [Act.put, Array.getD_eq_getD_getElem?, this]
theorem get_put_self {a : Act} {nt t : Nat} {v : Value} (hs : a.tmps.size = nt) (hd : dstOk nt (some t) = true) : (a.put (some t) v).tmps.getD t undef = v := by
  simp only [dstOk, decide_eq_true_eq] at hd
  simp [Act.put, Array.getD_eq_getD_getElem?, hs, hd]

theorem lk_kill_mem {t : Nat} {fr : Fr} : ∀ {l : List Nat}, t ∈ l → lk t (kill l fr) = lk t fr
  | [], h => by simp at h
  | u :: l, h => by
    simp only [kill, List.filterMap_cons]
    by_cases hut : u = t
    · subst hut
      cases hu : lk u fr with
      | none =>
        simp only [Option.map_none]
        by_cases hm : u ∈ l
        · have := lk_kill_mem (fr := fr) hm; rw [hu] at this; exact this
        · cases hh : lk u (kill l fr) with
          | none => exact hh
          | some x => rw [lk_kill' hh] at hu; cases hu
      | some x => simp [lk]
    · have hm : t ∈ l := by simpa [Ne.symm hut] using h
      cases hu : lk u fr with
      | none => simp only [Option.map_none]; exact lk_kill_mem hm
      | some x => simp only [Option.map_some, lk, if_neg hut]; exact lk_kill_mem hm
where
  lk_kill' {t : Nat} {v : Value} {fr : Fr} : ∀ {l : List Nat}, lk t (kill l fr) = some v → lk t fr = some v
  | [], h => by simp [kill, lk] at h
  | u :: l, h => by
    simp only [kill, List.filterMap_cons] at h
    cases hu : lk u fr with
    | none => simp only [hu, Option.map_none] at h; exact lk_kill' (l := l) h
    | some x =>
      simp only [hu, Option.map_some, lk] at h
      split at h
      · subst_vars; cases h; exact hu
      · exact lk_kill' (l := l) h
theorem lk_kill_in {t : Nat} {v : Value} {fr : Fr} : ∀ {l : List Nat}, lk t (kill l fr) = some v → t ∈ l ∧ lk t fr = some v
  | [], h => by simp [kill, lk] at h
  | u :: l, h => by
    simp only [kill, List.filterMap_cons] at h
    cases hu : lk u fr with
    | none => simp only [hu, Option.map_none] at h; have := lk_kill_in (l := l) h; exact ⟨by simp [this.1], this.2⟩
    | some x =>
      simp only [hu, Option.map_some, lk] at h
      split at h
      · subst_vars; cases h; exact ⟨by simp, hu⟩
      · have := lk_kill_in (l := l) h; exact ⟨by simp [this.1], this.2⟩

theorem tmp_reads {ops : List Oper} {o : Oper} {t : Nat} (h : Operand.tmp t ∈ o.op.operands) : t ∈ readsOf ops o := by
  unfold readsOf tmpsOf
  exact List.mem_append_left _ (List.mem_filterMap.2 ⟨.tmp t, by simpa using h, rfl⟩)

theorem opnd_kill {ops : List Oper} {o : Oper} {fr : Fr} {x : Operand} (h : x ∈ o.op.operands) : opnd (kill (readsOf ops o) fr) x = opnd fr x := by
  cases x with
  | tmp t => exact lk_kill_mem (tmp_reads h)
  | _ => rfl
theorem evalOp_kill {C : Oracle} {h : Nat} {ops : List Oper} {o : Oper} {fr : Fr} {s : S} {k : K1} : evalOp P C h o (kill (readsOf ops o) fr) s k = evalOp P C h o fr s k := evalOp_congr fun _ hx => opnd_kill hx
theorem wants_kill {ops : List Oper} {o : Oper} {fr : Fr} : wants ops o (kill (readsOf ops o) fr) = wants ops o fr := by
  unfold wants
  split
  · rfl
  · rename_i j want hg
    cases hd : (ops[j]?).bind (·.dst) with
    | none => rfl
    | some t =>
      simp only
      rw [lk_kill_mem]
      unfold readsOf
      rw [hg]
      simp [hd]

section main
variable {C : Oracle} {σ0 : List AObj} {nt : Nat} {ops : Array Oper} {anc : List (List Nat)} {od : List Nat} {k : KF} {out : Out} {ρ0 : Ren} {σi : List AObj} {wi : World} {Q : Exit → Act → World → Prop}

theorem isLm_of {o : Oper} (h : isSpine o = false) : classOf o.op = .pure ∨ classOf o.op = .load ∨ classOf o.op = .maker := by
  unfold isSpine at h
  cases hc : classOf o.op <;> simp_all
theorem lm_load {o : Oper} (h : classOf o.op = .load) : isLm o = true := by unfold isLm; rw [h]; rfl
theorem lm_maker {o : Oper} (h : classOf o.op = .maker) : isLm o = true := by unfold isLm; rw [h]; rfl

theorem delay (hS : Stat ops.toList anc od) {c r : List Nat} {i : Nat} {E : List Rec} {listed : Array Bool} {fr : Fr} {s : S} {a : Act} {w : World} {ρ : Ren} {o : Oper}
    (hJ : J P C σ0 nt ops anc od k out ρ0 σi wi c (i :: r) E listed fr s a w ρ) (ho : ops.toList[i]? = some o) (hns : isSpine o = false) :
    ∃ e fr' s', e.i = i ∧ J P C σ0 nt ops anc od k out ρ0 σi wi (c ++ [i]) r (E ++ [e]) listed fr' s' a w ρ := by
  obtain ⟨o', g, v, s', h1, h2, h3, h4, h5, _, h7⟩ := evalDraw_inv hJ.cont
  rw [ho] at h1; cases h1
  have hic : i ∉ c := (hS.nodup c i r hJ.od.symm).1
  have hanc : ∀ k ∈ anc.getD i [], k ∈ c := hS.anc_le c i r hJ.od.symm
  have hE : ∀ e ∈ E, e.i ≠ i := fun e he h => hic (h ▸ hJ.mem e he)
  have hEanc : ∀ e ∈ E, i ∉ anc.getD e.i [] := fun e he h => hic (hS.ancc hJ.od (hJ.mem e he) i h)
  -- its slot is none of theirs
  have hdd : ∀ e ∈ E, ∀ t, o.dst = some t → e.o.dst ≠ some t := fun e he t ht => hS.dst i e.i o e.o t (Ne.symm (hE e he)) ho (hJ.get e he) ht
  -- nor do they look at it
  have hdr : ∀ e ∈ E, isLm e.o = true → ∀ t ∈ readsOf ops.toList e.o, o.dst ≠ some t := fun e he hl t ht hd => by
    rcases hS.slot i e.i o e.o t (Ne.symm (hE e he)) ho (hJ.get e he) hd ht with h | h
    · exact hEanc e he h
    · rw [hl] at h; cases h.2
  -- what its evaluation does to the store
  have hst : Step ρ0 σi wi ρ s'.σ w ∧ Pres σ0 s' ∧ (∀ e ∈ E, e.ok P C σ0.length ops.toList ρ σi s') ∧
      (g = true → (classOf o.op = .maker → evalOp P C σ0.length o fr s K0 = some (v, s') ∧ σi.length ≤ s.σ.length ∧ ρ s.σ.length = none ∧ s'.σ[s.σ.length]? = s'.σ[s.σ.length]? ∧ s.σ.length < s'.σ.length) ∧ (classOf o.op ≠ .maker → evalOp P C σ0.length o fr s' K0 = some (v, s'))) := by
    cases g with
    | false => obtain ⟨_, rfl⟩ := h5 rfl; exact ⟨hJ.stp, hJ.prs, hJ.rok, fun h => by cases h⟩
    | true =>
      have h4 := h4 rfl
      rcases isLm_of hns with hc | hc | hc
      · obtain ⟨rfl, hh⟩ := evalOp_pure hc h4
        exact ⟨hJ.stp, hJ.prs, hJ.rok, fun _ => ⟨fun h => by simp [hc] at h, fun _ => h4⟩⟩
      · obtain ⟨rfl, hh⟩ := evalOp_load hc h4
        exact ⟨hJ.stp, hJ.prs, hJ.rok, fun _ => ⟨fun h => by simp [hc] at h, fun _ => h4⟩⟩
      · obtain ⟨row, rfl, hb, _, _⟩ := evalOp_maker hc h4
        refine ⟨hJ.stp.ghost _, hJ.prs.snoc _, fun e he => ?_, fun _ => ⟨fun _ => ⟨h4, hJ.stp.len, hJ.stp.inv.new _ (Nat.le_refl _), rfl, by simp⟩, fun h => absurd hc h⟩⟩
        obtain ⟨e1, e2, e3⟩ := hJ.rok e he
        refine ⟨e1, e2, fun hg => ⟨fun hm => ?_, fun hm => ?_⟩⟩
        · obtain ⟨m1, m2, m3, m4, m5⟩ := (e3 hg).1 hm
          refine ⟨m1, m2, m3, ?_, by simp; omega⟩
          rw [← m4]
          exact List.getElem?_append_left m5
        · have hev := (e3 hg).2 hm
          rcases isLm_of (hJ.nsp e he) with hc' | hc' | hc'
          · exact (evalOp_pure hc' hev).2 _
          · obtain ⟨_, x, p, _, _, _, hh⟩ := evalOp_load hc' hev
            refine hh _ fun b c hb hrow => ?_
            unfold Ab.row at hrow ⊢
            simp only
            split at hrow
            · rename_i hb'
              rw [List.getElem?_append_left (get_lt hb'), hb']; exact hrow
            · cases hrow
          · exact absurd hc' hm
  obtain ⟨g1, g2, g3, g4⟩ := hst
  refine ⟨⟨i, o, fr, s, v, s', g⟩, putF fr o.dst v, s', rfl, ⟨by rw [← hJ.od]; simp, ?_, ?_, ?_, ?_, hJ.lsz, ?_, ?_, ?_, ?_, ?_, ?_, ?_, ?_, ?_, ?_, g1, g2, hJ.tsz, hJ.dfs, h7⟩⟩
  · -- get
    intro e he
    simp only [List.mem_append, List.mem_singleton] at he
    rcases he with he | rfl
    · exact hJ.get e he
    · exact ho
  · intro e he
    simp only [List.mem_append, List.mem_singleton] at he ⊢
    rcases he with he | rfl
    · exact .inl (hJ.mem e he)
    · exact .inr rfl
  · intro e he
    simp only [List.mem_append, List.mem_singleton] at he
    rcases he with he | rfl
    · exact hJ.nsp e he
    · exact hns
  · -- pw
    rw [List.pairwise_append]
    refine ⟨hJ.pw, by simp, fun e he e' he' => ?_⟩
    simp only [List.mem_singleton] at he'
    subst he'
    exact ⟨hE e he, hEanc e he⟩
  · -- lst
    intro j
    rw [hJ.lst j]
    simp only [List.mem_append, List.mem_singleton]
    constructor
    · rintro ⟨h1, h2⟩
      refine ⟨.inl h1, fun e he => ?_⟩
      rcases he with he | rfl
      · exact h2 e he
      · intro h; simp only at h; subst h; exact hic h1
    · rintro ⟨h1, h2⟩
      have hne := h2 _ (.inr rfl)
      simp only at hne
      exact ⟨h1.resolve_right fun h => hne h.symm, fun e he => h2 e (.inl he)⟩
  · -- dn
    intro j hj hjE l hl e he
    simp only [List.mem_append, List.mem_singleton] at hj he
    have hne := hjE _ (by simp : (⟨i, o, fr, s, v, s', g⟩ : Rec) ∈ E ++ [⟨i, o, fr, s, v, s', g⟩])
    simp only at hne
    have hj' : j ∈ c := hj.resolve_right fun h => hne h.symm
    rcases he with he | rfl
    · exact hJ.dn j hj' (fun e he => hjE e (by simp [he])) l hl e he
    · intro h; simp only at h; subst h; exact hic (hS.ancc hJ.od hj' _ hl)
  · -- f1
    intro t u hu hd
    have h0 := hd _ (by simp : (⟨i, o, fr, s, v, s', g⟩ : Rec) ∈ E ++ [⟨i, o, fr, s, v, s', g⟩])
    simp only at h0
    rw [lk_putF h0] at hu
    exact hJ.f1 t u hu fun e he => hd e (by simp [he])
  · -- f2a
    intro e he t ht u hu e' he' hd hin
    simp only [List.mem_append, List.mem_singleton] at he he'
    rcases he with he | rfl
    · rcases he' with he' | rfl
      · exact hJ.f2a e he t ht u hu e' he' hd hin
      · exact absurd hin (hEanc e he)
    · rcases he' with he' | rfl
      · have := hJ.f3 e' he' t hd
        simp only at hu
        rw [hu] at this; cases this; rfl
      · exact absurd (hS.ancc (c := c) (r := i :: r) hJ.od (hanc _ hin) _ hin) (fun _ => absurd (hanc _ hin) hic)
  · -- f2b
    intro e he t ht u hu hd
    simp only [List.mem_append, List.mem_singleton] at he
    rcases he with he | rfl
    · exact hJ.f2b e he t ht u hu fun e' he' hd' => hd e' (by simp [he']) hd'
    · refine hJ.f1 t u hu fun e' he' hd' => ?_
      rcases hS.slot e'.i i e'.o o t (hE e' he') (hJ.get e' he') ho hd' ht with h | h
      · exact hd e' (by simp [he']) hd' h
      · exact hEanc e' he' h.1
  · -- f3
    intro e he t ht
    simp only [List.mem_append, List.mem_singleton] at he
    rcases he with he | rfl
    · rw [lk_putF fun h => hdd e he t h ht]
      exact hJ.f3 e he t ht
    · simp only at ht ⊢
      rw [ht]; exact lk_putF_self
  · -- f4
    intro e he hl t ht
    simp only [List.mem_append, List.mem_singleton] at he
    rcases he with he | rfl
    · rw [lk_putF (hdr e he hl t ht)]
      exact hJ.f4 e he hl t ht
    · simp only at hl ht ⊢
      refine lk_putF fun h => ?_
      have := hS.self i o t ho h ht
      rw [hl] at this; cases this
  · -- f5
    intro e he e' he' hg hg' hm hm' hne
    simp only [List.mem_append, List.mem_singleton] at he he'
    rcases he with he | rfl
    · rcases he' with he' | rfl
      · exact hJ.f5 e he e' he' hg hg' hm hm' hne
      · have := (((hJ.rok e he).2.2 hg).1 hm).2.2.2.2
        simp only; omega
    · rcases he' with he' | rfl
      · have := (((hJ.rok e' he').2.2 hg').1 hm').2.2.2.2
        simp only; omega
      · exact absurd rfl hne
  · intro e he
    simp only [List.mem_append, List.mem_singleton] at he
    rcases he with he | rfl
    · exact hJ.dok e he
    · exact h2
  · intro e he
    simp only [List.mem_append, List.mem_singleton] at he
    rcases he with he | rfl
    · exact g3 e he
    · refine ⟨h3, fun h => ?_, g4⟩
      simp only at h ⊢
      exact (h5 h).1

theorem wpOp_of {K : Act → World → Prop} {i : Nat} {o : Oper} {a : Act} {w : World} {g : Bool} (ho : ops.toList[i]? = some o) (hg : Region.wanted o (yielded ops a.tmps) = g)
    (h1 : g = true → o.wp P a w K Q) (h2 : g = false → K (a.put o.dst undef) w) : wpOp P ops Q i K a w := by
  have ho' : ops[i]? = some o := by simpa using ho
  unfold wpOp
  rw [ho']
  simp only
  rw [hg]
  cases g with
  | true => simp only [if_true]; exact .inl (h1 rfl)
  | false => simp only [Bool.false_eq_true, if_false]; exact h2 rfl

theorem listed_set {listed : Array Bool} {i j : Nat} (hi : i < listed.size) : (listed.setIfInBounds i true).getD j false = true ↔ j = i ∨ listed.getD j false = true := by
  simp only [Array.getD_eq_getD_getElem?, Array.getElem?_setIfInBounds]
  by_cases h : i = j
  · subst h; simp [hi]
  · rw [if_neg h]
    constructor
    · exact .inr
    · rintro (h' | h')
      · exact absurd h'.symm h
      · exact h'

/-- What was put off is done. -/
theorem fire (hC : OracleOk P C) (hN : NamesOk P) (hS : Stat ops.toList anc od) {c r : List Nat} {E1 E2 : List Rec} {e0 : Rec} {listed : Array Bool} {fr : Fr} {s : S} {a : Act} {w : World} {ρ : Ren} {K : Act → World → Prop}
    (hJ : J P C σ0 nt ops anc od k out ρ0 σi wi c r (E1 ++ e0 :: E2) listed fr s a w ρ) (hr : ∀ l ∈ anc.getD e0.i [], ∀ e ∈ E1 ++ e0 :: E2, e.i ≠ l)
    (hK : ∀ a' w' ρ', J P C σ0 nt ops anc od k out ρ0 σi wi c r (E1 ++ E2) (listed.setIfInBounds e0.i true) fr s a' w' ρ' → K a' w') : wpOp P ops Q e0.i K a w := by
  have he0 : e0 ∈ E1 ++ e0 :: E2 := by simp
  have hsub : ∀ e, e ∈ E1 ++ E2 → e ∈ E1 ++ e0 :: E2 := fun e he => by simp at he ⊢; rcases he with h | h <;> simp [h]
  have hcase : ∀ e, e ∈ E1 ++ e0 :: E2 → e = e0 ∨ e ∈ E1 ++ E2 := fun e he => by simp at he ⊢; rcases he with h | h | h <;> simp [h]
  have hne : ∀ e ∈ E1 ++ E2, e.i ≠ e0.i := by
    have := hJ.pw
    rw [List.pairwise_append, List.pairwise_cons] at this
    obtain ⟨p1, ⟨p2, p3⟩, p4⟩ := this
    intro e he
    simp only [List.mem_append] at he
    rcases he with he | he
    · exact (p4 e he e0 (by simp)).1
    · exact (p2 e he).1.symm
  have hi : e0.i < ops.size := by have := get_lt (hJ.get e0 he0); simpa using this
  obtain ⟨w1, w2, w3⟩ := hJ.rok e0 he0
  -- what it looks at is there
  have hF : FrOk ρ (kill (readsOf ops.toList e0.o) e0.fr) a := by
    intro t u hu
    obtain ⟨h1, h2⟩ := lk_kill_in hu
    exact hJ.f2b e0 he0 t h1 u h2 fun e' he' _ hin => hr _ hin e' he' rfl
  -- how it goes on, in whatever world
  have go : ∀ (v' : Value) (w' : World) (ρ' : Ren), ρ.le ρ' → Step ρ0 σi wi ρ' s.σ w' → V ρ' e0.v v' → (∀ e ∈ E1 ++ E2, e.ok P C σ0.length ops.toList ρ' σi s) → K (a.put e0.o.dst v') w' := by
    intro v' w' ρ' hle hst hv hok
    refine hK _ _ ρ' ⟨hJ.od, fun e he => hJ.get e (hsub e he), fun e he => hJ.mem e (hsub e he), fun e he => hJ.nsp e (hsub e he), ?_, by simp [hJ.lsz], ?_, ?_, ?_, ?_, ?_, ?_, ?_, ?_, fun e he => hJ.dok e (hsub e he), hok, hst, hJ.prs, by rw [put_size]; exact hJ.tsz, by rw [put_defers]; exact hJ.dfs, hJ.cont⟩
    · exact hJ.pw.sublist (List.Sublist.append (List.Sublist.refl _) (List.sublist_cons_self _ _))
    · intro j
      rw [listed_set (by rw [hJ.lsz]; exact hi), hJ.lst j]
      constructor
      · rintro (rfl | ⟨h1, h2⟩)
        · exact ⟨hJ.mem e0 he0, hne⟩
        · exact ⟨h1, fun e he => h2 e (hsub e he)⟩
      · rintro ⟨h1, h2⟩
        by_cases hj : j = e0.i
        · exact .inl hj
        · refine .inr ⟨h1, fun e he => ?_⟩
          rcases hcase e he with rfl | he
          · exact Ne.symm hj
          · exact h2 e he
    · intro j hj hjE l hl e he
      by_cases hj0 : j = e0.i
      · subst hj0; exact hr l hl e (hsub e he)
      · refine hJ.dn j hj (fun e he => ?_) l hl e (hsub e he)
        rcases hcase e he with rfl | he
        · exact Ne.symm hj0
        · exact hjE e he
    · intro t u hu hd
      by_cases ht : e0.o.dst = some t
      · have := hJ.f3 e0 he0 t ht
        rw [hu] at this; cases this
        rw [ht, get_put_self hJ.tsz (by rw [← ht]; exact hJ.dok e0 he0)]
        exact hv
      · rw [get_put ht]
        refine (hJ.f1 t u hu fun e he => ?_).mono hle
        rcases hcase e he with rfl | he
        · exact ht
        · exact hd e he
    · intro e he t ht u hu e' he' hd hin
      exact hJ.f2a e (hsub e he) t ht u hu e' (hsub e' he') hd hin
    · intro e he t ht u hu hd
      by_cases htd : e0.o.dst = some t
      · rw [htd, get_put_self hJ.tsz (by rw [← htd]; exact hJ.dok e0 he0)]
        rcases hS.slot e0.i e.i e0.o e.o t (hne e he).symm (hJ.get e0 he0) (hJ.get e (hsub e he)) htd ht with h | h
        · rw [hJ.f2a e (hsub e he) t ht u hu e0 he0 htd h]; exact hv
        · exact absurd rfl (hr _ h.1 e (hsub e he))
      · rw [get_put htd]
        refine (hJ.f2b e (hsub e he) t ht u hu fun e' he' hd' => ?_).mono hle
        rcases hcase e' he' with rfl | he'
        · exact absurd hd' htd
        · exact hd e' he' hd'
    · exact fun e he => hJ.f3 e (hsub e he)
    · exact fun e he => hJ.f4 e (hsub e he)
    · exact fun e he e' he' => hJ.f5 e (hsub e he) e' (hsub e' he')
  refine wpOp_of (hJ.get e0 he0) (wants_sim (by rw [wants_kill]; exact w1) hF) (fun hg => ?_) (fun hg => ?_)
  · by_cases hm : classOf e0.o.op = .maker
    · obtain ⟨m1, m2, m3, m4, m5⟩ := (w3 hg).1 hm
      rw [← evalOp_kill (ops := ops.toList)] at m1
      obtain ⟨row, hrow, hb, _, hmk⟩ := evalOp_maker hm m1
      obtain ⟨cells, ty, v', q1, q2, q3, q4⟩ := hmk w hF
      have hσ : s.σ[e0.s.σ.length]? = some (.arr row 0 true) := by rw [m4, hrow]; simp
      refine wp_value q1 (go v' _ (ρ.snoc e0.s.σ.length (w.heap.size, 0, cells.size)) (Ren.snoc_le m3) (hJ.stp.fill ty hσ m3 m2 q2 q3) (q4 _ (Ren.snoc_self _ _ _)) fun e he => ?_)
      obtain ⟨x1, x2, x3⟩ := hJ.rok e (hsub e he)
      refine ⟨x1, x2, fun hg' => ⟨fun hm' => ?_, (x3 hg').2⟩⟩
      obtain ⟨n1, n2, n3, n4, n5⟩ := (x3 hg').1 hm'
      refine ⟨n1, n2, ?_, n4, n5⟩
      unfold Ren.snoc
      rw [if_neg (hJ.f5 e (hsub e he) e0 he0 hg' hg hm' hm (hne e he))]
      exact n3
    · have hev := (w3 hg).2 hm
      rw [← evalOp_kill (ops := ops.toList)] at hev
      refine evalOp_sim hC hN hev hJ.stp.inv hJ.prs hF fun v s' ρ' v' w' hk' hst' hP' hV => ?_
      cases hk'
      refine go v' w' ρ' hst'.le (hJ.stp.trans hst') hV fun e he => ?_
      obtain ⟨x1, x2, x3⟩ := hJ.rok e (hsub e he)
      refine ⟨x1, x2, fun hg' => ⟨fun hm' => ?_, (x3 hg').2⟩⟩
      obtain ⟨n1, n2, n3, n4, n5⟩ := (x3 hg').1 hm'
      exact ⟨n1, n2, by rw [hst'.old _ n5]; exact n3, n4, n5⟩
  · refine go undef w ρ (Ren.le.refl _) hJ.stp (by rw [w2 hg]; exact V_undef) fun e he => hJ.rok e (hsub e he)

theorem floatOk_spec {ops : List Oper} {fr : Fr} {s s' : S} : ∀ {fl : List Nat}, floatOk ops fr s s' fl = true → ∀ i ∈ fl, ∀ o, ops[i]? = some o →
    (∀ x p, loadArg o.op = some x → opnd fr x = some p → sameL s s' p = true) ∧ (loadArg o.op = none → ∃ t v, o.dst = some t ∧ lk t fr = some v ∧ sameM s s' v = true)
  | [], _, i, hi, o, ho => by simp at hi
  | j :: fl, h, i, hi, o, ho => by
    simp only [floatOk, Bool.and_eq_true] at h
    rcases List.mem_cons.1 hi with rfl | hi
    · have h1 := h.1
      rw [ho] at h1
      simp only at h1
      refine ⟨fun x p hx hp => ?_, fun hx => ?_⟩
      · rw [hx] at h1
        simp only [hp] at h1
        exact h1
      · rw [hx] at h1
        simp only at h1
        split at h1
        · rename_i t ht
          split at h1
          · rename_i v hv
            exact ⟨t, v, ht, hv, h1⟩
          · cases h1
        · cases h1
    · exact floatOk_spec h.2 i hi o ho

theorem loadArg_none {o : Op} (h : classOf o = .maker) : loadArg o = none := by
  cases o <;> simp only [classOf] at h <;> first | rfl | (cases h; done)

/-- An operation of the spine. -/
theorem spineStep (hC : OracleOk P C) (hN : NamesOk P) (hS : Stat ops.toList anc od) {c r : List Nat} {i : Nat} {o : Oper} {E : List Rec} {listed : Array Bool} {fr : Fr} {s : S} {a : Act} {w : World} {ρ : Ren} {K : Act → World → Prop}
    (hJ : J P C σ0 nt ops anc od k out ρ0 σi wi c (i :: r) E listed fr s a w ρ) (ho : ops.toList[i]? = some o) (hsp : isSpine o = true) (hr : ∀ l ∈ anc.getD i [], ∀ e ∈ E, e.i ≠ l)
    (hK : ∀ fr' s' a' w' ρ', J P C σ0 nt ops anc od k out ρ0 σi wi (c ++ [i]) r E (listed.setIfInBounds i true) fr' s' a' w' ρ' → K a' w') : wpOp P ops Q i K a w := by
  obtain ⟨o', g, v, s', h1, h2, h3, h4, h5, h6, h7⟩ := evalDraw_inv hJ.cont
  rw [ho] at h1; cases h1
  have hi : i < ops.size := by have := get_lt ho; simpa using this
  have hic : i ∉ c := (hS.nodup c i r hJ.od.symm).1
  have hanc : ∀ k ∈ anc.getD i [], k ∈ c := hS.anc_le c i r hJ.od.symm
  have hE : ∀ e ∈ E, e.i ≠ i := fun e he h => hic (h ▸ hJ.mem e he)
  have hEanc : ∀ e ∈ E, i ∉ anc.getD e.i [] := fun e he h => hic (hS.ancc hJ.od (hJ.mem e he) i h)
  have hdd : ∀ e ∈ E, ∀ t, o.dst = some t → e.o.dst ≠ some t := fun e he t ht => hS.dst i e.i o e.o t (Ne.symm (hE e he)) ho (hJ.get e he) ht
  have hdr : ∀ e ∈ E, ∀ t ∈ readsOf ops.toList e.o, o.dst ≠ some t := fun e he t ht hd => by
    rcases hS.slot i e.i o e.o t (Ne.symm (hE e he)) ho (hJ.get e he) hd ht with h | h
    · exact hEanc e he h
    · exact hr _ h.1 e he rfl
  have hF : FrOk ρ (kill (readsOf ops.toList o) fr) a := by
    intro t u hu
    obtain ⟨h1, h2⟩ := lk_kill_in hu
    refine hJ.f1 t u h2 fun e he hd => ?_
    rcases hS.slot e.i i e.o o t (hE e he) (hJ.get e he) ho hd h1 with h | h
    · exact hr _ h e he rfl
    · exact hEanc e he h.1
  have go : ∀ (v' : Value) (w' : World) (ρ' : Ren), Step ρ s.σ w ρ' s'.σ w' → Pres σ0 s' → V ρ' v v' → (∀ e ∈ E, e.ok P C σ0.length ops.toList ρ' σi s') → K (a.put o.dst v') w' := by
    intro v' w' ρ' hst hP hv hok
    refine hK _ _ _ _ ρ' ⟨by rw [← hJ.od]; simp, hJ.get, fun e he => by simp [hJ.mem e he], hJ.nsp, hJ.pw, by simp [hJ.lsz], ?_, ?_, ?_, ?_, ?_, ?_, ?_, hJ.f5, hJ.dok, hok, hJ.stp.trans hst, hP, by rw [put_size]; exact hJ.tsz, by rw [put_defers]; exact hJ.dfs, h7⟩
    · intro j
      rw [listed_set (by rw [hJ.lsz]; exact hi), hJ.lst j]
      simp only [List.mem_append, List.mem_singleton]
      constructor
      · rintro (rfl | ⟨h1, h2⟩)
        · exact ⟨.inr rfl, hE⟩
        · exact ⟨.inl h1, h2⟩
      · rintro ⟨h1 | h1, h2⟩
        · exact .inr ⟨h1, h2⟩
        · exact .inl h1
    · intro j hj hjE l hl e he
      simp only [List.mem_append, List.mem_singleton] at hj
      rcases hj with hj | rfl
      · exact hJ.dn j hj hjE l hl e he
      · exact hr l hl e he
    · intro t u hu hd
      by_cases ht : o.dst = some t
      · rw [ht, lk_putF_self] at hu; cases hu
        rw [ht, get_put_self hJ.tsz (by rw [← ht]; exact h2)]
        exact hv
      · rw [lk_putF ht] at hu
        rw [get_put ht]
        exact (hJ.f1 t u hu hd).mono hst.le
    · exact hJ.f2a
    · intro e he t ht u hu hd
      rw [get_put (hdr e he t ht)]
      exact (hJ.f2b e he t ht u hu hd).mono hst.le
    · intro e he t ht
      rw [lk_putF fun h => hdd e he t h ht]
      exact hJ.f3 e he t ht
    · intro e he hl t ht
      rw [lk_putF (hdr e he t ht)]
      exact hJ.f4 e he hl t ht
  -- what was put off stays as it is
  have keep : ∀ ρ' : Ren, (∀ b, b < s.σ.length → ρ' b = ρ b) → s.σ.length ≤ s'.σ.length → ∀ e ∈ E, e.ok P C σ0.length ops.toList ρ' σi s' := by
    intro ρ' hold hlen e he
    obtain ⟨x1, x2, x3⟩ := hJ.rok e he
    have hfl : isLm e.o = true → e.i ∈ floats ops.toList anc c i := by
      intro hl
      unfold floats
      rw [List.mem_filter]
      refine ⟨hJ.mem e he, ?_⟩
      rw [hJ.get e he]
      simp only [Option.map_some, Option.getD_some, hl, Bool.true_and, Bool.not_eq_true']
      have : e.i ∉ anc.getD i [] := fun h => hr _ h e he rfl
      simpa using this
    refine ⟨x1, x2, fun hg => ⟨fun hm => ?_, fun hm => ?_⟩⟩
    · obtain ⟨m1, m2, m3, m4, m5⟩ := (x3 hg).1 hm
      obtain ⟨row, hrow, hb, hla, _⟩ := evalOp_maker hm m1
      obtain ⟨t, u, t1, t2, t3⟩ := (floatOk_spec (h6 hsp) e.i (hfl (lm_maker hm)) e.o (hJ.get e he)).2 hla
      rw [hJ.f3 e he t t1] at t2; cases t2
      unfold sameM at t3
      rw [hb] at t3
      exact ⟨m1, m2, by rw [hold _ m5]; exact m3, by rw [sameObj_sound t3]; exact m4, by omega⟩
    · have hev := (x3 hg).2 hm
      rcases isLm_of (hJ.nsp e he) with hc | hc | hc
      · exact (evalOp_pure hc hev).2 _
      · obtain ⟨_, x, p, l1, l2, l3, l4⟩ := evalOp_load hc hev
        refine l4 _ fun b cc hb hrow => ?_
        have hp : opnd fr x = some p := by
          rw [← l3]
          cases x with
          | tmp t => exact hJ.f4 e he (lm_load hc) t (tmp_reads l2)
          | _ => rfl
        have := (floatOk_spec (h6 hsp) e.i (hfl (lm_load hc)) e.o (hJ.get e he)).1 x p l1 hp
        unfold sameL at this
        rw [hb] at this
        rw [sameRow_sound this]; exact hrow
      · exact absurd hc hm
  refine wpOp_of ho (wants_sim (by rw [wants_kill]; exact h3) hF) (fun hg => ?_) (fun hg => ?_)
  · have hev := h4 hg
    rw [← evalOp_kill (ops := ops.toList)] at hev
    refine evalOp_sim hC hN hev hJ.stp.inv hJ.prs hF fun v1 s1 ρ' v' w' hk' hst' hP' hV => ?_
    cases hk'
    exact go v' w' ρ' hst' hP' hV (keep ρ' hst'.old hst'.len)
  · obtain ⟨rfl, rfl⟩ := h5 hg
    exact go undef w ρ (Step.refl hJ.stp.inv) hJ.prs V_undef hJ.rok

/-- Whichever operation comes next. -/
theorem reach (hC : OracleOk P C) (hN : NamesOk P) (hS : Stat ops.toList anc od) {listed : Array Bool} {a : Act} {w : World} {ρ : Ren} {K : Act → World → Prop} {i : Nat} {fuel : Nat}
    (hK : ∀ c r E fr' s' a' w' ρ', J P C σ0 nt ops anc od k out ρ0 σi wi c r E (listed.setIfInBounds i true) fr' s' a' w' ρ' → E.length + r.length = fuel → K a' w') :
    ∀ (r c : List Nat) (E : List Rec) (fr : Fr) (s : S), J P C σ0 nt ops anc od k out ρ0 σi wi c r E listed fr s a w ρ → E.length + r.length = fuel + 1 → (i ∈ r ∨ ∃ e ∈ E, e.i = i) → (∀ l ∈ anc.getD i [], l ∈ c ∧ ∀ e ∈ E, e.i ≠ l) → wpOp P ops Q i K a w := by
  have inE : ∀ (r c : List Nat) (E : List Rec) (fr : Fr) (s : S), J P C σ0 nt ops anc od k out ρ0 σi wi c r E listed fr s a w ρ → E.length + r.length = fuel + 1 → (∃ e ∈ E, e.i = i) → (∀ l ∈ anc.getD i [], l ∈ c ∧ ∀ e ∈ E, e.i ≠ l) → wpOp P ops Q i K a w := by
    rintro r c E fr s hJ hf ⟨e, he, rfl⟩ hr
    obtain ⟨E1, E2, rfl⟩ := List.append_of_mem he
    exact fire hC hN hS hJ (fun l hl => (hr l hl).2) fun a' w' ρ' hJ' => hK _ _ _ _ _ _ _ _ hJ' (by simp at hf ⊢; omega)
  intro r
  induction r with
  | nil =>
    intro c E fr s hJ hf hi hr
    exact inE [] c E fr s hJ hf (hi.resolve_left (by simp)) hr
  | cons h r ih =>
    intro c E fr s hJ hf hi hr
    rcases hi with hi | hi
    · have hlt := hS.lt h (by rw [← hJ.od]; simp)
      obtain ⟨o, ho⟩ : ∃ o, ops.toList[h]? = some o := ⟨_, List.getElem?_eq_getElem hlt⟩
      have hhc : h ∉ c := (hS.nodup c h r hJ.od.symm).1
      cases hsp : isSpine o with
      | true =>
        by_cases hhi : h = i
        · subst hhi
          exact spineStep hC hN hS hJ ho hsp (fun l hl => (hr l hl).2) fun fr' s' a' w' ρ' hJ' => hK _ _ _ _ _ _ _ _ hJ' (by simp at hf ⊢; omega)
        · have hir : i ∈ r := by simpa [Ne.symm hhi] using hi
          exact absurd (hr h (hS.spine c h r o hJ.od.symm ho hsp i hir)).1 hhc
      | false =>
        obtain ⟨e, fr', s', e1, hJ'⟩ := delay hS hJ ho hsp
        refine ih (c ++ [h]) (E ++ [e]) fr' s' hJ' (by simp at hf ⊢; omega) ?_ fun l hl => ⟨by simp [(hr l hl).1], fun e' he' => ?_⟩
        · rcases List.mem_cons.1 hi with rfl | hi
          · exact .inr ⟨e, by simp, e1⟩
          · exact .inl hi
        · simp only [List.mem_append, List.mem_singleton] at he'
          rcases he' with he' | rfl
          · exact (hr l hl).2 e' he'
          · rw [e1]; rintro rfl; exact hhc (hr _ hl).1
    · exact inE _ c E fr s hJ hf hi hr

theorem getD_flip {listed : Array Bool} {i : Nat} (hi : i < listed.size) : listed.getD i true = listed.getD i false := by
  simp [Array.getD_eq_getD_getElem?, hi]

theorem ready_iff {listed : Array Bool} {i : Nat} {o : Oper} (hs : listed.size = ops.size) (ho : ops.toList[i]? = some o) :
    i ∈ Region.ready .any ops listed ↔ listed.getD i false = false ∧ ∀ k ∈ directs o, listed.getD k false = true := by
  have hi : i < ops.size := by have := get_lt ho; simpa using this
  have ho' : ops[i]? = some o := by simpa using ho
  unfold Region.ready
  rw [List.mem_filter, ho', getD_flip (by omega)]
  simp only [List.mem_range, hi, true_and, Option.map_some, Option.getD_some, Bool.and_eq_true, Bool.not_eq_true', Array.all_eq_true', Bool.or_eq_true]
  refine and_congr_right fun _ => ⟨fun h k hk => ?_, fun h e he => ?_⟩
  · unfold directs at hk
    rw [List.mem_filterMap] at hk
    obtain ⟨e, he, hk⟩ := hk
    split at hk
    · rename_i hb
      cases hk
      rcases h e (by simpa using he) with h' | h'
      · rw [hb] at h'; cases h'
      · exact h'
    · cases hk
  · by_cases hb : Region.binds .any e = true
    · right
      exact h _ (by unfold directs; rw [List.mem_filterMap]; exact ⟨e, by simpa using he, by rw [if_pos hb]⟩)
    · left; simpa using hb

theorem draw_main (hC : OracleOk P C) (hN : NamesOk P) (hS : Stat ops.toList anc od)
    (hQ : ∀ fr' s' ρ' a' w', k fr' s' = some out → Step ρ0 σi wi ρ' s'.σ w' → Pres σ0 s' → FrOk ρ' fr' a' → a'.tmps.size = nt → a'.defers = [] → Q .normal a' w') :
    ∀ (fuel : Nat) (c r : List Nat) (E : List Rec) (listed : Array Bool) (fr : Fr) (s : S) (a : Act) (w : World) (ρ : Ren), J P C σ0 nt ops anc od k out ρ0 σi wi c r E listed fr s a w ρ → E.length + r.length = fuel → wpAny P .any ops Q fuel listed a w := by
  intro fuel
  induction fuel with
  | zero =>
    intro c r E listed fr s a w ρ hJ hf
    have hE : E = [] := List.eq_nil_of_length_eq_zero (by omega)
    have hr : r = [] := List.eq_nil_of_length_eq_zero (by omega)
    subst hE hr
    refine ⟨?_, hQ fr s ρ a w hJ.cont hJ.stp hJ.prs (fun t v hv => hJ.f1 t v hv (by simp)) hJ.tsz hJ.dfs⟩
    rw [List.eq_nil_iff_forall_not_mem]
    intro i hi
    have hlt : i < ops.size := by
      unfold Region.ready at hi
      rw [List.mem_filter, List.mem_range] at hi
      exact hi.1
    obtain ⟨o, ho⟩ : ∃ o, ops.toList[i]? = some o := ⟨_, List.getElem?_eq_getElem (by simpa using hlt)⟩
    have h1 := ((ready_iff hJ.lsz ho).1 hi).1
    have h2 : listed.getD i false = true := (hJ.lst i).2 ⟨by have := hS.cov i (by simpa using hlt); rw [← hJ.od] at this; simpa using this, by simp⟩
    rw [h1] at h2; cases h2
  | succ fuel ih =>
    intro c r E listed fr s a w ρ hJ hf
    refine ⟨fun h0 => ?_, fun i hi => ?_⟩
    · -- something is left to do
      exfalso
      have : ∃ i, i ∈ Region.ready .any ops listed := by
        cases E with
        | cons e E' =>
          refine ⟨e.i, (ready_iff hJ.lsz (hJ.get e (by simp))).2 ⟨?_, fun l hl => ?_⟩⟩
          · cases hl : listed.getD e.i false with
            | false => rfl
            | true => exact absurd rfl (((hJ.lst e.i).1 hl).2 e (by simp))
          · rw [hJ.lst]
            have hl' := hS.dir e.i e.o (hJ.get e (by simp)) l hl
            refine ⟨hS.ancc hJ.od (hJ.mem e (by simp)) l hl', fun e' he' h => ?_⟩
            subst h
            rcases List.mem_cons.1 he' with rfl | he'
            · exact hS.irr (by rw [← hJ.od]; simp [hJ.mem e' (by simp)]) hl'
            · have := hJ.pw
              rw [List.pairwise_cons] at this
              exact (this.1 e' he').2 hl'
        | nil =>
          cases r with
          | nil => simp at hf
          | cons h r =>
            have hlt := hS.lt h (by rw [← hJ.od]; simp)
            obtain ⟨o, ho⟩ : ∃ o, ops.toList[h]? = some o := ⟨_, List.getElem?_eq_getElem hlt⟩
            refine ⟨h, (ready_iff hJ.lsz ho).2 ⟨?_, fun l hl => ?_⟩⟩
            · cases hl : listed.getD h false with
              | false => rfl
              | true => exact absurd ((hJ.lst h).1 hl).1 (hS.nodup c h r hJ.od.symm).1
            · rw [hJ.lst]
              exact ⟨hS.anc_le c h r hJ.od.symm l (hS.dir h o ho l hl), by simp⟩
      obtain ⟨i, hi⟩ := this
      rw [h0] at hi; simp at hi
    · have hlt : i < ops.size := by
        unfold Region.ready at hi
        rw [List.mem_filter, List.mem_range] at hi
        exact hi.1
      obtain ⟨o, ho⟩ : ∃ o, ops.toList[i]? = some o := ⟨_, List.getElem?_eq_getElem (by simpa using hlt)⟩
      obtain ⟨h1, h2⟩ := (ready_iff hJ.lsz ho).1 hi
      have hod : i ∈ c ++ r := by rw [hJ.od]; exact hS.cov i (by simpa using hlt)
      have hnl : ¬(i ∈ c ∧ ∀ e ∈ E, e.i ≠ i) := fun h => by rw [(hJ.lst i).2 h] at h1; cases h1
      refine reach hC hN hS (fun c r E fr' s' a' w' ρ' hJ' hf' => ih c r E _ fr' s' a' w' ρ' hJ' hf') r c E fr s hJ hf ?_ fun l hl => ?_
      · rcases List.mem_append.1 hod with h | h
        · right
          rcases Classical.em (∃ e ∈ E, e.i = i) with hh | hh
          · exact hh
          · exact absurd ⟨h, fun e he he' => hh ⟨e, he, he'⟩⟩ hnl
        · exact .inl h
      · rcases hS.clo i o ho l hl with h | ⟨e, he, h⟩
        · exact (hJ.lst l).1 (h2 l h)
        · have := (hJ.lst e).1 (h2 e he)
          exact ⟨hS.ancc hJ.od this.1 l h, hJ.dn e this.1 this.2 l h⟩

/-- A region that leaves its order open. -/
theorem evalDraw_sim (hC : OracleOk P C) (hN : NamesOk P) (hm : P.follows .mixedOrders = true) {id : Nat} {fr : Fr} {s : S} {a : Act} {w : World} {ρ : Ren}
    (h : evalDraw0 P C σ0.length nt od ops.toList fr s k = some out) (hst : Step ρ0 σi wi ρ s.σ w) (hP : Pres σ0 s) (hF : FrOk ρ fr a) (hs : a.tmps.size = nt) (hd : a.defers = [])
    (hQ : ∀ fr' s' ρ' a' w', k fr' s' = some out → Step ρ0 σi wi ρ' s'.σ w' → Pres σ0 s' → FrOk ρ' fr' a' → a'.tmps.size = nt → a'.defers = [] → Q .normal a' w') :
    (Code.region id ops true).wp P Q a w := by
  obtain ⟨h1, h2⟩ := onB_some h
  have hS := stat_of h1
  have hlen : od.length = ops.size := by
    have hnd : od.Nodup := by
      rw [List.nodup_iff_pairwise_ne]
      have : ∀ l1 l2 : List Nat, od = l1 ++ l2 → l2.Pairwise (· ≠ ·) := by
        intro l1 l2
        induction l2 generalizing l1 with
        | nil => intro _; exact List.Pairwise.nil
        | cons x l2 ih =>
          intro he
          refine List.Pairwise.cons (fun y hy hxy => ?_) (ih (l1 ++ [x]) (by rw [he]; simp))
          subst hxy
          exact (hS.nodup l1 x l2 he).2 hy
      exact this [] od rfl
    have hp : od.Perm (List.range ops.size) := by
      rw [List.perm_ext_iff_of_nodup hnd List.nodup_range]
      intro i
      rw [List.mem_range]
      exact ⟨fun h => by simpa using hS.lt i h, fun h => hS.cov i (by simpa using h)⟩
    rw [hp.length_eq, List.length_range]
  refine wp_region_any hm (draw_main hC hN hS hQ ops.size [] od [] _ fr s a _ ρ ⟨rfl, by simp, by simp, by simp, List.Pairwise.nil, by simp, fun i => by simp [Array.getD_eq_getD_getElem?, Array.getElem?_replicate]; split <;> simp, by simp, fun t v hv _ => hF t v hv, by simp, by simp, by simp, by simp, by simp, by simp, by simp, hst.trans (Step.drew hst.inv), hP, hs, hd, h2⟩ (by simpa using hlen))

end main
end
end Go.Ab
