/-
  The document's check of points (layer 9), in the machine of values.
-/
import Derived.Test.YtkpamaplmjlagaaHV
import Derived.Test.YtkpamaplmjlagaaVEqs
namespace Go.Proofs.Ytkpamaplmjlagaa.Hoas
open Go Go.Vm
attribute [local congr] bind_congr1 ifVV_congr1
attribute [local irreducible] Cl

def inB (x l h : Int) : Bool := decide (l ≤ x) && decide (x ≤ h)
@[simp] theorem in_run (σ : List VObj) (x l h : Int) : Cl id_triuneref09_in [VI .i64 x, VI .i64 l, VI .i64 h] σ = some (VB (inB x l h), ⟨σ, [], []⟩) := by
  apply call_triuneref09_in
  simp [F_triuneref09_in, inB]
/-- A point. -/
structure Pt where
  k : Int
  a : Int
  t : Int
  b : Int
  s : Int
def Pt.v (p : Pt) : VV := .agg [VI .i64 p.k, VI .i64 p.a, VI .i64 p.t, VI .i64 p.b, VI .i64 p.s]
@[simp] theorem ldn_Pt (s : VS) (p : Pt) : ldnV 5 s (.pt p.v) = some p.v := by simp [Pt.v]
@[simp] theorem cls_Pt (p : Pt) : cls p.v = p.v := rfl
/-- May a point be? -/
def Pt.may (p : Pt) : Bool := inB p.k 0 3 && inB p.a 0 65535 && inB p.t 0 899 && (if p.k ≤ 1 then inB p.b 0 65535 && inB p.s 0 65535 else (p.b == 0) && inB p.s 0 1)
@[simp] theorem may_run (σ : List VObj) (p : Pt) : Cl id_triuneref09_may [p.v] σ = some (VB p.may, ⟨σ, [], []⟩) := by
  apply call_triuneref09_may
  simp [F_triuneref09_may, Pt.v, ifVV_bool]
  split
  · rename_i h
    simp [Pt.may]
    intro h1 h2 h3; simp [h1, h2, h3] at h
  · rename_i h
    simp at h
    split
    · rename_i hk; simp [Pt.may, h, hk]
    · rename_i hk; simp [Pt.may, h, hk]

/-- Do two points stand in each other's way? -/
def Pt.conf (p q : Pt) : Bool := p.k == q.k && (p.a == q.a || p.t == q.t)
def cfgV (v : VV) : List VV := [VI .u8 1, VI .u8 1, VI .u8 1, VI .i64 1, VI .i64 1, VI .i64 1, VI .i64 1, VI .i64 1, VI .i64 1, VI .u16 0, v]
def pvs (pts : List Pt) : List VV := pts.map Pt.v

section
variable {σ : List VObj} {v : VV} {pts : List Pt} (hv : IsSl 5 (pvs pts) v) (hn : pts.length ≤ 48)
include hv hn

theorem inner_run {self : VKF} {r : VOut} {i : Nat} {p : Pt} (hp : pts[i]? = some p) : ∀ (m k : Nat), i - k = m → k ≤ i → (((pts.take i).drop k).any p.conf = true → r = (VI .i64 9, ⟨σ, [], []⟩)) →
    (((pts.take i).drop k).any p.conf = false → ∀ l, self [(1, .ptr σ.length 0), (5, VI .i64 ((i + 1 : Nat) : Int))] ⟨σ ++ .arr (cfgV v) 0 true :: l, [], []⟩ = some r) →
    ∀ l, S_triuneref09_Check_19 Cl iterLV σ self [(1, .ptr σ.length 0), (5, VI .i64 i), (6, VI .i64 k)] ⟨σ ++ .arr (cfgV v) 0 true :: l, [], []⟩ = some r := by
  intro m
  have hi : i < 48 := by have := getlt hp; omega
  induction m with
  | zero =>
    intro k hm hk h1 h2 l
    obtain rfl : k = i := by omega
    refine S_triuneref09_Check_19_intro ?_
    simp [B_triuneref09_Check_19, wrap_succ (show k < 2 ^ 62 by omega)]
    refine h2 ?_ l
    rw [List.drop_eq_nil_of_le (by simp; omega)]; rfl
  | succ m ih =>
    intro k hm hk h1 h2 l
    have hki : k < i := by omega
    obtain ⟨q, hq⟩ : ∃ q, pts[k]? = some q := ⟨_, List.getElem?_eq_getElem (by have := getlt hp; omega)⟩
    have hd : (pts.take i).drop k = q :: (pts.take i).drop (k + 1) := by
      rw [List.drop_eq_getElem_cons (by simp; have := getlt hp; omega)]
      congr 1
      rw [List.getElem_take]
      exact Option.some.inj ((List.getElem?_eq_getElem _).symm.trans hq)
    rw [hd, List.any_cons] at h1 h2
    refine S_triuneref09_Check_19_intro ?_
    simp [B_triuneref09_Check_19, hki, cfgV, hv.cls, hv.idx, hv.isC, pvs, hp, hq, Pt.v, ifVV_bool]
    have hc : p.conf q = decide (p.k = q.k ∧ (p.a = q.a ∨ p.t = q.t)) := by
      unfold Pt.conf
      rw [Bool.eq_iff_iff]; simp
    split
    · rename_i hcc
      rw [h1 (by rw [hc, decide_eq_true hcc]; rfl)]
    · rename_i hcc
      rw [hc, decide_eq_false hcc, Bool.false_or] at h1 h2
      rw [wrap_succ (show k < 2 ^ 62 by omega)]
      exact ih (k + 1) (by omega) (by omega) h1 h2 _

/-- Is no point in the way of another one, from some point on? -/
def freeFrom (pts : List Pt) : Nat → Nat → Bool
  | 0, _ => true
  | n + 1, i => match pts[i]? with
    | some p => !(pts.take i).any p.conf && freeFrom pts n (i + 1)
    | none => true
theorem pairs_run {r : VOut} : ∀ (m i : Nat), pts.length - i = m → (freeFrom pts m i = false → r = (VI .i64 9, ⟨σ, [], []⟩)) → (freeFrom pts m i = true → r = (VI .i64 0, ⟨σ, [], []⟩)) →
    ∀ l, S_triuneref09_Check_16 Cl iterLV σ [(1, .ptr σ.length 0), (5, VI .i64 i)] ⟨σ ++ .arr (cfgV v) 0 true :: l, [], []⟩ = some r := by
  intro m
  induction m with
  | zero =>
    intro i hm h1 h2 l
    refine S_triuneref09_Check_16_intro ?_
    simp [B_triuneref09_Check_16, cfgV, hv.cls, hv.len, pvs, show ¬i < pts.length by omega]
    exact (h2 rfl).symm
  | succ m ih =>
    intro i hm h1 h2 l
    obtain ⟨p, hp⟩ : ∃ p, pts[i]? = some p := ⟨_, List.getElem?_eq_getElem (by omega)⟩
    simp only [freeFrom, hp] at h1 h2
    refine S_triuneref09_Check_16_intro ?_
    have hin := inner_run (σ := σ) hv hn (self := S_triuneref09_Check_16 Cl iterLV σ) (r := r) hp i 0 (by omega) (by omega) (fun h => h1 (by simp only [List.drop_zero] at h; rw [h]; rfl)) (fun h l => by
      simp only [List.drop_zero] at h
      rw [h] at h1 h2
      exact ih (i + 1) (by omega) (by simpa using h1) (by simpa using h2) l) l
    simp [B_triuneref09_Check_16, cfgV, hv.cls, hv.len, pvs, show i < pts.length by omega]
    simpa [cfgV] using hin

theorem points_run {r : VOut} : ∀ (m i : Nat), pts.length - i = m → ((pts.drop i).all Pt.may = false → r = (VI .i64 1, ⟨σ, [], []⟩)) → ((pts.drop i).all Pt.may = true → freeFrom pts pts.length 0 = false → r = (VI .i64 9, ⟨σ, [], []⟩)) →
    ((pts.drop i).all Pt.may = true → freeFrom pts pts.length 0 = true → r = (VI .i64 0, ⟨σ, [], []⟩)) → S_triuneref09_Check_11 Cl iterLV σ [(1, .ptr σ.length 0), (4, VI .i64 i)] ⟨σ ++ [.arr (cfgV v) 0 true], [], []⟩ = some r := by
  intro m
  induction m with
  | zero =>
    intro i hm h1 h2 h3
    have hnil : pts.drop i = [] := List.drop_eq_nil_of_le (by omega)
    rw [hnil] at h2 h3
    refine S_triuneref09_Check_11_intro ?_
    simp [B_triuneref09_Check_11, cfgV, hv.cls, hv.len, pvs, show ¬i < pts.length by omega]
    have := pairs_run (σ := σ) hv hn (r := r) pts.length 0 (by omega) (h2 rfl) (h3 rfl) []
    simpa [cfgV] using this
  | succ m ih =>
    intro i hm h1 h2 h3
    obtain ⟨p, hp⟩ : ∃ p, pts[i]? = some p := ⟨_, List.getElem?_eq_getElem (by omega)⟩
    have hd : pts.drop i = p :: pts.drop (i + 1) := by
      rw [List.drop_eq_getElem_cons (by omega)]
      congr 1
      exact Option.some.inj ((List.getElem?_eq_getElem _).symm.trans hp)
    rw [hd, List.all_cons] at h1 h2 h3
    have hgp : pts[i]'(by omega) = p := Option.some.inj ((List.getElem?_eq_getElem _).symm.trans hp)
    refine S_triuneref09_Check_11_intro ?_
    simp [B_triuneref09_Check_11, cfgV, hv.cls, hv.len, hv.idx, pvs, show i < pts.length by omega, hgp, ifVV_bool]
    split
    · rename_i hc
      rw [h1 (by rw [hc]; rfl)]
    · rename_i hc
      have hc : p.may = true := by simpa using hc
      rw [hc, Bool.true_and] at h1 h2 h3
      rw [wrap_succ (show i < 2 ^ 62 by omega)]
      simpa [cfgV] using ih (i + 1) (by omega) h1 h2 h3
/-- What the document's check says of points (of a configuration whose numbers may be). -/
def checkN (pts : List Pt) : Int := if pts.length < 1 ∨ 48 < pts.length then 4 else if pts.all Pt.may = false then 1 else if freeFrom pts pts.length 0 = false then 9 else 0
end
theorem check_run (σ : List VObj) {v : VV} {pts : List Pt} (hv : IsSl 5 (pvs pts) v) (hlen : pts.length < 2 ^ 46) : Cl id_triuneref09_Check [.agg (cfgV v)] σ = some (VI .i64 (checkN pts), ⟨σ, [], []⟩) := by
  apply call_triuneref09_Check
  have i1 : inB 1 1 247 = true := by decide
  have i2 : inB 1 1 20 = true := by decide
  have i3 : inB 1 1 1000 = true := by decide
  have i4 : inB 1 1 5 = true := by decide
  have i5 : inB 1 1 8 = true := by decide
  have i6 : inB 1 1 65535 = true := by decide
  by_cases hb : pts.length < 1 ∨ 48 < pts.length
  · have hB : inB (pts.length : Int) 1 48 = false := by simp [inB]; omega
    have h4 : checkN pts = 4 := if_pos hb
    simp [F_triuneref09_Check, cfgV, hv.cls, hv.len, hv.isC, pvs, hB, h4]
  · have hB : inB (pts.length : Int) 1 48 = true := by simp [inB]; omega
    simp [F_triuneref09_Check, cfgV, hv.cls, hv.len, hv.isC, pvs, hB]
    refine S_triuneref09_Check_4_intro ?_
    simp [B_triuneref09_Check_4, i1, wrap64]
    refine S_triuneref09_Check_4_intro ?_
    simp [B_triuneref09_Check_4, i1, wrap64]
    refine S_triuneref09_Check_4_intro ?_
    simp [B_triuneref09_Check_4, i1, wrap64]
    refine S_triuneref09_Check_4_intro ?_
    simp [B_triuneref09_Check_4, i1, i2, i3, i4, i5, i6, wrap64]
    have := points_run (σ := σ) hv (by omega) (r := (VI .i64 (checkN pts), ⟨σ, [], []⟩)) pts.length 0 (by omega) (fun h => ?_) (fun h h' => ?_) (fun h h' => ?_)
    · simpa [cfgV] using this
    · simp only [List.drop_zero] at h; unfold checkN; rw [if_neg hb, if_pos h]
    · simp only [List.drop_zero] at h; unfold checkN; rw [if_neg hb, if_neg (by rw [h]; decide), if_pos h']
    · simp only [List.drop_zero] at h; unfold checkN; rw [if_neg hb, if_neg (by rw [h]; decide), if_neg (by rw [h']; decide)]
/-- May points be looked at? -/
def mayL (pts : List Pt) : Bool := checkN pts == 0
theorem May_run (σ : List VObj) {v : VV} {pts : List Pt} (hv : IsSl 5 (pvs pts) v) (hlen : pts.length < 2 ^ 46) : Cl id_triunelaw10_May [v] σ = some (VB (mayL pts), ⟨σ, [], []⟩) := by
  apply call_triunelaw10_May
  have hch := check_run σ hv hlen
  simp only [cfgV] at hch
  by_cases hb : (pts.length : Int) ≤ 48
  · simp [F_triunelaw10_May, hv.len, pvs, hb, bldV, fillV, setV, hv.cells, hv.isC, hch, mayL]
  · have h4 : checkN pts = 4 := if_pos (by omega)
    simp [F_triunelaw10_May, hv.len, pvs, hb, mayL, h4]
end Go.Proofs.Ytkpamaplmjlagaa.Hoas
