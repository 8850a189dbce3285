/-
  What slices.AppendSeq makes of slices.Values, at integers of sixteen bits.
-/
import Derived.Test.YtkpamaplmjlagaaAVa
namespace Go.Proofs.Ytkpamaplmjlagaa.Va
open Go Go.RowKit Go.Shelf
attribute [local go_sem] Oper.semAt_some

theorem info43 : (Try.prog.info? 43).map (fun i => (i.zero, i.size, i.bytes)) = some (some (.int .u16 0), 1, 2) := by kernel_rfl

set_option maxRecDepth 100000 in
set_option maxHeartbeats 2000000 in
theorem append_in (F : Fence) (n : Nat) (h3 : F.fn 140) (h5 : F.fn 120) (hro : F.round = none) (hn : 3 ≤ n) (Bs Bo b off cap : Nat) (zs : List Int) (hlen : zs.length ≤ maxLen) (hbytes : zs.length * 2 ≤ 140737488351232) (w : World)
    (hBs : Bs < w.heap.size) (hb : b < w.heap.size) (hbox : w.cell? ⟨Bs, Bo, none⟩ = some (.slice (some ⟨b, off, none⟩) zs.length cap)) (hI : ∀ j, j < zs.length → w.cell? ⟨b, off + j, none⟩ = some (.int .u16 (zs[j]?.getD 0))) :
    CallsIn F n Try.prog 140 #[.slice none 0 0, .func (.func 120) #[] #[.pointer (some ⟨Bs, Bo, none⟩)]] w fun e W' => ∃ v, e = .returned v ∧ W'.ownsRow w.heap.size 43 1 v zs.length (zs.map (Value.int .u16)) ∧ (v = .slice none 0 0 ↔ zs = []) ∧ Below w.heap.size w W' := by
  have h1 : 1 ≤ n := by omega
  obtain ⟨i0, hi, hz0, hz1, hz2⟩ := info_parts info43
  refine callsIn_of_wp_marks Try.func140 rfl h3 ?_ hro
  simp only [Try.ntmps140, List.size_toArray, List.length_cons, List.length_nil, Nat.reduceAdd, Nat.reduceSub, Array.replicate_succ, Array.replicate_zero, List.push_toArray, List.append_toArray, List.nil_append, List.cons_append]
  gi_wp2
  have bO := Boxed.new w 28 (.slice none 0 0)
  have hB0 : Below w.heap.size w (w.alloc (.cells #[.slice none 0 0] 28)) := (Below.refl _ w).alloc (Nat.le_refl _) _
  refine wpIn_rangeFunc_ownG hro h1 (gf := 120) (lb := #[.pointer (some ⟨Bs, Bo, none⟩)]) rfl h5 (enters_of Try.func120 (by kernel_rfl) rfl)
    (values_stops F (n - 1) h5 hro (by omega) Bs Bo w.heap.size b off cap zs hbytes _ (by simp; omega) (by simp) hb ((hB0.cell (p := ⟨Bs, Bo, none⟩) hBs).trans hbox) (fun j hj => (hB0.cell (p := ⟨b, off + j, none⟩) hb).trans (hI j hj))) belowK_t (belowK_b (by simp)) (Below.refl _ _) (fun _ => rfl)
    (fun pre W => (∃ v, Boxed W w.heap.size 28 v ∧ W.ownsRow w.heap.size 43 1 v pre.length (pre.map (Value.int .u16)) ∧ (v = .slice none 0 0 ↔ pre = [])) ∧ Below w.heap.size w W)
    (fun _ _ _ => False)
    (OwnFrom.and (Own.from (holdsRow_own w.heap.size w.heap.size 28 43 1 (fun pre => pre.length) (fun pre => pre.map (Value.int .u16)) (fun pre v => v = .slice none 0 0 ↔ pre = [])) _) (ownFrom_below (Nat.le_refl _) (by simp)))
    (fun _ _ _ _ _ hs _ _ => hs)
    ⟨⟨_, bO, World.ownsRow_nil _ _ _ _, by simp⟩, hB0⟩
    (fun x => { tmps := #[.slice none 0 0, .func (.func 120) #[] #[.pointer (some ⟨Bs, Bo, none⟩)], .pointer (some ⟨w.heap.size, 0, none⟩), undef, .slice none 0 0, .int .u16 x, .func (.func 120) #[] #[.pointer (some ⟨Bs, Bo, none⟩)], .int .u16 x, undef, undef, undef, undef, undef], defers := [] }) ?assign ?body ?done ?stop
  case assign =>
    intro l x W K hK
    gi_wp2
    exact hK
  case body =>
    rintro l pre x W ⟨⟨v, hv, hrow, hnil⟩, hB⟩ hlt
    have hc := hv.cell
    gi_wp2_with (gi_at_builtin; refine wpListIn_append_own _ rfl _ _ 28 rfl w.heap.size 43 i0 (.int .u16 0) 1 2 Try.underlying28 hi hz0 hz1 hz2 rfl (by decide) _ _ _ rfl (hrow.alloc _) ⟨W.heap.size, 0, none⟩ 1 1 [.int .u16 x] rfl rfl (cell_one_new _ _ _) (by simp [Value.oneCell']) (by omega) (by omega) (by have := hB.size; simp; omega) ?_; intro v' w1 hown' hgrow _; obtain ⟨g', cap', rfl⟩ := ownsRow_succ hown'; obtain ⟨hv1, hv2, hr2, hk2, hb2⟩ := hv.appended (by decide) hrow hB.size (Nat.le_refl _) hown' hgrow; have hc1 := hv1.cell; have hf1 := hv1.frozen)
    exact ⟨hk2.from _, hb2, ⟨_, hv2, by simpa using hr2, by simp⟩, hB.trans hb2⟩
  case done =>
    rintro D ys W hD rfl ⟨⟨v, hv, hrow, hnil⟩, hB⟩ hK
    have hc := hv.cell
    gi_wp2
    refine ⟨by simp, .inl ⟨_, _, rfl, run_takeDeferred hK, ?_⟩⟩
    exact ⟨_, results_tmp rfl _ _ _, v, rfl, ownsRow_putObj hrow _ hK rfl, hnil, hB.trans (belowK_b (w := w) (Nat.le_refl _) W D _ _ (by simp at hD; omega) hK rfl rfl)⟩
  case stop =>
    rintro D c pre W _ _ h _
    exact h.elim

theorem append_run (Bs Bo b off cap : Nat) (zs : List Int) (hlen : zs.length ≤ maxLen) (hbytes : zs.length * 2 ≤ 140737488351232) (w : World)
    (hBs : Bs < w.heap.size) (hb : b < w.heap.size) (hbox : w.cell? ⟨Bs, Bo, none⟩ = some (.slice (some ⟨b, off, none⟩) zs.length cap)) (hI : ∀ j, j < zs.length → w.cell? ⟨b, off + j, none⟩ = some (.int .u16 (zs[j]?.getD 0))) :
    Calls Try.prog 140 #[.slice none 0 0, .func (.func 120) #[] #[.pointer (some ⟨Bs, Bo, none⟩)]] w fun e W' => ∃ v, e = .returned v ∧ W'.ownsRow w.heap.size 43 1 v zs.length (zs.map (Value.int .u16)) ∧ (v = .slice none 0 0 ↔ zs = []) ∧ Below w.heap.size w W' :=
  callsIn_wide.1 (append_in Fence.wide 3 trivial trivial rfl (Nat.le_refl _) Bs Bo b off cap zs hlen hbytes w hBs hb hbox hI)
end Go.Proofs.Ytkpamaplmjlagaa.Va
