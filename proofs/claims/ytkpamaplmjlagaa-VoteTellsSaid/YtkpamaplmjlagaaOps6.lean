/-
  What only computes; function values.
-/
import Derived.Test.YtkpamaplmjlagaaOps5
namespace Go.Ab
open Go

section
variable {P : Program} {w : World}

theorem guard_any {op : BinOp} {t : TypeId} {x y : Operand} {a b : Value} (h : a ≠ .nilIface) : eqGuard op t x y a b = eqGuard op t (.tmp 0) (.tmp 0) a b := by
  unfold eqGuard
  cases a <;> cases b <;> first | rfl | exact absurd rfl h

theorem isNilIface {v : Value} (h : notNilI v = true) : v ≠ .nilIface := by rintro rfl; simp [notNilI] at h

def nilNe' (P : Program) (t : TypeId) (x y : Value) : Bool :=
  match P.underlying t with
  | some (.pointer _) => nilP x y
  | some (.slice _) => nilS x y
  | some (.map _ _) => nilM x y
  | some (.func _ _ _) => nilF x y
  | _ => false

theorem equalIn_run {d : Nat} {t : TypeId} {a b a' b' : Value} {ρ : Ren} (hn : nilNe' P t a b = true) (ha : V ρ a a') (hb : V ρ b b') :
    (Op.equalIn (d + 1) t a' b').run P w = .ok false w ∧ (∀ op x y, (eqGuard op t x y a' b').run P w = .ok () w) ∧ (∀ op, op = .eql ∨ op = .neq → binOp op t a' b' = (match op with | .neq => (do pure (.bool (!(← Op.equal t a' b')))) | _ => do pure (.bool (← Op.equal t a' b')))) := by
  have fin : ∀ (c d' : Value), c ≠ .nilIface → (∀ cs, c ≠ .agg cs) → ∀ op x y, (eqGuard op t x y c d').run P w = .ok () w := by
    intro c d' h1 h2 op x y
    unfold eqGuard
    cases c <;> first | exact absurd rfl h1 | exact absurd rfl (h2 _) | (cases op <;> rfl)
  unfold nilNe' at hn
  split at hn
  · rename_i hu
    unfold nilP at hn
    split at hn
    · obtain ⟨β, s, N, _, rfl⟩ := ptr_inv ha
      obtain rfl := plain_V (by rfl) hb
      exact ⟨by simp [Op.equalIn, run_underlying hu], fin _ _ (by simp) (by simp), by rintro op (rfl | rfl) <;> rfl⟩
    · obtain ⟨β, s, N, _, rfl⟩ := ptr_inv hb
      obtain rfl := plain_V (by rfl) ha
      exact ⟨by simp [Op.equalIn, run_underlying hu], fin _ _ (by simp) (by simp), by rintro op (rfl | rfl) <;> rfl⟩
    · cases hn
  · rename_i hu
    unfold nilS at hn
    split at hn
    · obtain ⟨_, _, _, _, _, _, _, _, _, _, _, _, _, rfl⟩ := sl_inv ha
      obtain rfl := plain_V (by rfl) hb
      exact ⟨by simp [Op.equalIn, run_underlying hu], fin _ _ (by simp) (by simp), by rintro op (rfl | rfl) <;> rfl⟩
    · obtain ⟨_, _, _, _, _, _, _, _, _, _, _, _, _, rfl⟩ := sl_inv hb
      obtain rfl := plain_V (by rfl) ha
      exact ⟨by simp [Op.equalIn, run_underlying hu], fin _ _ (by simp) (by simp), by rintro op (rfl | rfl) <;> rfl⟩
    · cases hn
  · rename_i hu
    have hm : ∀ {m : Nat} {p : Value}, V ρ (.map (some m)) p → ∃ β, p = .map (some β) := by
      intro m p h
      cases h with
      | val h => cases h with
        | cell h => cases h with
          | base h => cases h with
            | plain h => simp [plain1] at h
            | map h => exact ⟨_, rfl⟩
    unfold nilM at hn
    split at hn
    · obtain ⟨β, rfl⟩ := hm ha
      obtain rfl := plain_V (by rfl) hb
      exact ⟨by simp [Op.equalIn, run_underlying hu], fin _ _ (by simp) (by simp), by rintro op (rfl | rfl) <;> rfl⟩
    · obtain ⟨β, rfl⟩ := hm hb
      obtain rfl := plain_V (by rfl) ha
      exact ⟨by simp [Op.equalIn, run_underlying hu], fin _ _ (by simp) (by simp), by rintro op (rfl | rfl) <;> rfl⟩
    · cases hn
  · rename_i hu
    have hm : ∀ {fn : Fn} {x y : Array Value} {p : Value}, V ρ (.func fn x y) p → ∃ x' y', p = .func fn x' y' := by
      intro fn x y p h
      cases h with
      | val h => cases h with
        | cell h => cases h with
          | base h => cases h with
            | plain h => simp [plain1] at h
          | func => exact ⟨_, _, rfl⟩
    unfold nilF at hn
    split at hn
    · obtain ⟨_, _, rfl⟩ := hm ha
      obtain rfl := plain_V (by rfl) hb
      exact ⟨by simp [Op.equalIn, run_underlying hu], fin _ _ (by simp) (by simp), by rintro op (rfl | rfl) <;> rfl⟩
    · obtain ⟨_, _, rfl⟩ := hm hb
      obtain rfl := plain_V (by rfl) ha
      exact ⟨by simp [Op.equalIn, run_underlying hu], fin _ _ (by simp) (by simp), by rintro op (rfl | rfl) <;> rfl⟩
    · cases hn
  · cases hn

theorem binq_sim {ρ : Ren} {op : BinOp} {t : TypeId} {x y : Operand} {a b a' b' v : Value} (h : binq P op t a b = some v) (ha : V ρ a a') (hb : V ρ b b') :
    (do eqGuard op t x y a' b'; binOp op t a' b' : Sem Value).run P w = .ok v w ∧ plain v = true := by
  unfold binq at h
  split at h
  · rename_i hc
    simp only [Bool.and_eq_true] at hc
    obtain ⟨⟨c1, c2⟩, c3⟩ := hc
    obtain rfl := plain_V c1 ha
    obtain rfl := plain_V c2 hb
    have hne : a ≠ .nilIface := isNilIface c3
    obtain ⟨h1, h2⟩ := quietP_run (w := w) h
    rw [guard_any hne]
    exact ⟨h1, h2⟩
  · cases h

theorem binn_sim {ρ : Ren} {nf : Value → Value → Bool} {op : BinOp} {t : TypeId} {x y : Operand} {a b a' b' v : Value} (hnf : nf a b = true → nilNe' P t a b = true) (h : binn P nf op t a b = some v) (ha : V ρ a a') (hb : V ρ b b') :
    (do eqGuard op t x y a' b'; binOp op t a' b' : Sem Value).run P w = .ok v w ∧ plain v = true := by
  unfold binn at h
  split at h
  · rename_i hn
    obtain ⟨h1, h2, h3⟩ := equalIn_run (P := P) (w := w) (d := 9999) (hnf hn) ha hb
    have h1' : (Op.equal t a' b').run P w = .ok false w := h1
    split at h
    · cases h
      refine ⟨?_, rfl⟩
      rw [Sem.run_bind, h2, Result.andThen_ok, h3 _ (.inl rfl)]
      show (do pure (.bool (← Op.equal t a' b')) : Sem Value).run P w = _
      rw [Sem.run_bind, h1']; rfl
    · cases h
      refine ⟨?_, rfl⟩
      rw [Sem.run_bind, h2, Result.andThen_ok, h3 _ (.inr rfl)]
      show (do pure (.bool (!(← Op.equal t a' b'))) : Sem Value).run P w = _
      rw [Sem.run_bind, h1']; rfl
    · cases h
  · exact binq_sim h ha hb

theorem bin_sim {ρ : Ren} {op : BinOp} {t : TypeId} {x y : Operand} {a b a' b' v : Value} (h : pBin P op t a b = some v) (ha : V ρ a a') (hb : V ρ b b') :
    (do eqGuard op t x y a' b'; binOp op t a' b' : Sem Value).run P w = .ok v w ∧ plain v = true := by
  unfold pBin at h
  split at h
  · rename_i hu; exact binn_sim (fun hh => by unfold nilNe'; rw [hu]; exact hh) h ha hb
  · rename_i hu; exact binn_sim (fun hh => by unfold nilNe'; rw [hu]; exact hh) h ha hb
  · rename_i hu; exact binn_sim (fun hh => by unfold nilNe'; rw [hu]; exact hh) h ha hb
  · rename_i hu; exact binn_sim (fun hh => by unfold nilNe'; rw [hu]; exact hh) h ha hb
  · exact binq_sim h ha hb

theorem un_sim {ρ : Ren} {op : UnOp} {a a' v : Value} (h : pUn P op a = some v) (ha : V ρ a a') : (Op.unary op a').run P w = .ok v w ∧ plain v = true := by
  unfold pUn at h
  split at h
  · obtain rfl := plain_V ‹_› ha
    exact quietP_run h
  · cases h
theorem conv_sim {ρ : Ren} {src dst : TypeId} {a a' v : Value} (h : pConv P src dst a = some v) (ha : V ρ a a') : (convert src dst a').run P w = .ok v w ∧ plain v = true := by
  unfold pConv at h
  split at h
  · rename_i k1 k2 h1 h2
    unfold cvI at h
    split at h
    · cases h
      obtain rfl := int_inv ha
      exact ⟨by simp [convert, run_underlying h1, run_underlying h2, Conv.intToInt], rfl⟩
    · cases h
  · split at h
    · obtain rfl := plain_V ‹_› ha
      exact quietP_run h
    · cases h

theorem AllL_V_plain {ρ : Ren} {xs xs' : List Value} (hp : xs.all plain = true) (h : AllL (V ρ) xs xs') : xs = xs' := by
  apply List.ext_getElem?
  intro i
  cases ha : xs[i]? with
  | none =>
    rw [List.getElem?_eq_none_iff] at ha
    rw [eq_comm, List.getElem?_eq_none_iff, ← h.1]; exact ha
  | some x =>
    obtain ⟨y, hy, hxy⟩ := h.get ha
    rw [hy, plain_V (List.all_eq_true.1 hp x (List.mem_of_getElem? ha)) hxy]

theorem mm_sim {ρ : Ren} {m : Bool} {ts : Array TypeId} {t : TypeId} {xs xs' : List Value} {v : Value} (h : pMM P m ts t xs = some v) (hx : AllL (V ρ) xs xs') :
    (if m then Builtin.max_ ts t xs'.toArray else Builtin.min_ ts t xs'.toArray).run P w = .ok v w ∧ plain v = true := by
  unfold pMM at h
  split at h
  · obtain rfl := AllL_V_plain ‹_› hx
    exact quietP_run h
  · cases h

theorem extract_sim {ρ : Ren} {i : Nat} {x x' v : Value} (h : pExtract i x = some v) (hx : V ρ x x') : ∃ v', (Instr.extract x' i).run P w = .ok v' w ∧ V ρ v v' := by
  unfold pExtract at h
  split at h
  · rename_i vs
    cases hx with
    | val hx => cases hx with
      | cell hx => cases hx with
        | base hx => cases hx with
          | plain h => simp [plain1] at h
    | tuple hx =>
      rename_i vs'
      obtain ⟨y, hy, hv⟩ := hx.get (show vs.toList[i]? = some v by simpa using h)
      have hy' : vs'[i]? = some y := by simpa using hy
      exact ⟨y, by simp [Instr.extract, hy'], .val hv⟩
  · cases h

theorem simple0_V0 {ρ : Ren} {v v' : Value} (hs : simple0 v = true) (h : V ρ v v') : V0 ρ v v' := by
  cases h with
  | val h => cases h with
    | cell h => cases h with
      | base h => exact h
      | func => simp [simple0, plain1] at hs
    | agg => simp [simple0, plain1] at hs
  | tuple => simp [simple0, plain1] at hs

theorem makeFunc_V {ρ : Ren} {fn : Fn} {a b a' b' : List Value} (ha : AllL (V ρ) a a') (hb : AllL (V ρ) b b') (h : (a.all simple0 && b.all simple0) = true) : V ρ (.func fn a.toArray b.toArray) (.func fn a'.toArray b'.toArray) := by
  simp only [Bool.and_eq_true] at h
  refine .val (.cell (.func ⟨by simpa using ha.1, fun i x y hx hy => ?_⟩ ⟨by simpa using hb.1, fun i x y hx hy => ?_⟩))
  · exact simple0_V0 (List.all_eq_true.1 h.1 x (List.mem_of_getElem? hx)) (ha.2 i x y hx hy)
  · exact simple0_V0 (List.all_eq_true.1 h.2 x (List.mem_of_getElem? hx)) (hb.2 i x y hx hy)

theorem func_inv {ρ : Ren} {fn : Fn} {a b : Array Value} {p : Value} (h : V ρ (.func fn a b) p) : ∃ a' b', p = .func fn a' b' ∧ AllL (V ρ) a.toList a'.toList ∧ AllL (V ρ) b.toList b'.toList := by
  cases h with
  | val h => cases h with
    | cell h => cases h with
      | base h => cases h with
        | plain h => simp [plain1] at h
      | func ha hb => exact ⟨_, _, rfl, ha.imp fun _ _ h => .val (.cell (.base h)), hb.imp fun _ _ h => .val (.cell (.base h))⟩

theorem nilCheck_inv {ρ : Ren} {v v' u : Value} (h : pNilCheck v = some u) (hv : V ρ v v') : u = v ∧ v' ≠ .pointer none ∧ v' ≠ .nilIface ∧ v' ≠ .nilFunc ∧ (∀ n a b, v' ≠ .func (.method n) a b) := by
  unfold pNilCheck at h
  split at h <;> first | (cases h; done) | skip
  rename_i h1 h2 h3 h4
  cases h
  refine ⟨rfl, ?_, ?_, ?_, ?_⟩
  · rintro rfl
    cases hv with
    | val hv => cases hv with
      | cell hv => cases hv with
        | base hv => cases hv with
          | plain => exact h1 rfl
  · rintro rfl
    cases hv with
    | val hv => cases hv with
      | cell hv => cases hv with
        | base hv => cases hv with
          | plain => exact h2 rfl
  · rintro rfl
    cases hv with
    | val hv => cases hv with
      | cell hv => cases hv with
        | base hv => cases hv with
          | plain => exact h3 rfl
  · rintro n a b rfl
    cases hv with
    | val hv => cases hv with
      | cell hv => cases hv with
        | base hv => cases hv with
          | plain h => simp [plain1] at h
        | func => exact h4 _ _ _ rfl

end
end Go.Ab
