/-
  The Go functions of the seat, printed by program as functions of the abstract machine, each with its equality to the machine.
-/
import Derived.Test.YtaelaaimbkpmdaaProg
import Derived.Test.YtaelaaimbkpmdaaLim
import Derived.Test.YtaelaaimbkpmdaaSorted
import Derived.KernelRfl
namespace Go.Proofs.Ytaelaaimbkpmdaa.Hoas
open Go Go.Ab
set_option maxRecDepth 100000
set_option linter.unusedVariables false
def hintTable : List (Nat × Nat × List Nat) := [(3, 20011, [0, 1, 2, 3, 4, 5, 6, 7, 8, 9, 10, 11, 12, 13, 14, 15, 16, 17, 18, 19, 20, 21, 22, 23, 24, 25, 26, 27, 28, 29, 30, 31, 32, 33, 34, 35, 36, 38, 39, 40, 41, 42, 37, 43, 44, 45, 46]), (4, 11, [2, 5, 7, 8, 10, 11, 12, 13]), (4, 10011, [2, 4, 5, 7, 8]), (4, 20013, [0, 1, 2, 3, 4, 5, 6, 7, 8, 9, 10]), (4, 20018, [0, 1, 2, 3, 4, 5, 6, 7, 8, 9, 10, 11, 12, 13, 14, 15, 16, 17, 18, 19, 20, 21, 23, 24, 25, 22, 26, 27, 28, 29]), (8, 20005, [0, 1, 2, 3, 4, 5, 6, 7, 8, 9, 10, 11, 12, 13, 14, 15, 16, 17]), (9, 20004, [0, 1, 2, 3, 4, 5, 6, 7, 8, 9, 10, 11, 12]), (9, 8, [0, 4]), (9, 10008, [2, 3]), (9, 13, [0, 4, 5, 6, 7]), (9, 10013, [0, 4, 5, 6]), (9, 20015, [0, 1, 2, 3, 4, 5, 6, 7, 8]), (9, 20017, [0, 1, 2, 3, 4, 5, 6, 7, 8]), (10, 3, [0, 4, 7, 8, 9]), (10, 10003, [0, 2, 3, 4]), (11, 3, [0, 4, 5]), (11, 10003, [0, 2, 3, 4]), (16, 4, [1, 3]), (16, 10004, [1, 2]), (16, 11, [1, 4]), (16, 10011, [1, 2]), (16, 16, [1, 5]), (16, 10016, [2]), (16, 19, [1, 5, 6]), (16, 10019, [1, 2, 5]), (26, 2, [0, 1, 2, 3, 8, 9]), (26, 10002, []), (26, 20017, [0, 1, 2, 3, 4, 5, 6, 7, 8, 9, 10, 11, 12, 13, 14]), (28, 1, [0, 1, 2, 6]), (28, 10001, []), (28, 4, [0, 1, 2, 6, 7]), (28, 10004, [0, 1, 2, 6]), (28, 20004, [0, 1, 2, 3, 4, 5, 6, 7, 8, 9, 10, 11, 12, 13, 14]), (28, 20006, [0, 1, 2, 3, 4, 5, 6, 7, 8, 9, 10, 11, 12, 13, 14, 15, 16, 17])]
def Hints (f r : Nat) : List Nat := ((hintTable.find? fun x => x.1 == f && x.2.1 == r).map (·.2.2)).getD []
def Xs : FuncId → Option (List Value → List AObj → Option Out) := fun f => if f = 25 then some (appendX 24) else none
noncomputable def Cl : Oracle := call Go.Proofs.Try.prog Xs Hints
noncomputable def c3 : Code := (Go.Proofs.Try.f3.body).getD .skip
/-- triune/triunelaw12.VoteTells -/
noncomputable def F3 (C : Oracle) (I : Iter) (σ : List AObj) (x0 : Value) (x1 : Value) (x2 : Value) : Option Out :=
(boxc (⟨σ, []⟩ : S) (Value.cells x0).toList).bind fun r1 =>
(boxc r1.2 (Value.cells x2).toList).bind fun r2 =>
(callF C 6 [] r2.2).bind fun r3 =>
(ldn 5 r3.2 r1.1).bind fun v4 =>
(bldSl 5 (.agg #[.int .i64 0, .int .i64 0, .int .i64 0, .int .i64 0, .int .i64 0]) 1 [(0, v4)] r3.2).bind fun r5 =>
(callF C 7 [r5.1] r5.2).bind fun r6 =>
(pUn Go.Proofs.Try.prog .not r6.1).bind fun v7 =>
(if gd false v7 then some (x1, r6.2) else some (undef, r6.2)).bind fun g8 =>
(if gd false v7 then (lenSl g8.1).bind fun v9 => some (v9, g8.2) else some (undef, g8.2)).bind fun g10 =>
(if gd false v7 then (binq Go.Proofs.Try.prog .gtr 3 g10.1 (Go.Value.int Go.IntKind.i64 100)).bind fun v11 => some (v11, g10.2) else some (undef, g10.2)).bind fun g12 =>
(pPick (some (Go.Value.bool true)) (some g12.1) v7).bind fun v13 =>
ifV v13 (
some (gc σ.length r3.1 g12.2)) (
(callF C 8 [x1] g12.2).bind fun r14 =>
(pExtract 0 r14.1).bind fun v15 =>
(pExtract 1 r14.1).bind fun v16 =>
(callF C 9 [x1] r14.2).bind fun r17 =>
(pExtract 0 r17.1).bind fun v18 =>
(pExtract 1 r17.1).bind fun v19 =>
(callF C 10 [x1] r17.2).bind fun r20 =>
(pExtract 0 r20.1).bind fun v21 =>
(pExtract 1 r20.1).bind fun v22 =>
(callF C 11 [x1] r20.2).bind fun r23 =>
(pExtract 0 r23.1).bind fun v24 =>
(pExtract 1 r23.1).bind fun v25 =>
(ldn 5 r23.2 r1.1).bind fun v26 =>
(callF C 12 [v26, x1] r23.2).bind fun r27 =>
(pExtract 0 r27.1).bind fun v28 =>
(pExtract 1 r27.1).bind fun v29 =>
(ldn 5 r27.2 r1.1).bind fun v30 =>
(callF C 13 [v30, x1] r27.2).bind fun r31 =>
(pExtract 0 r31.1).bind fun v32 =>
(pExtract 1 r31.1).bind fun v33 =>
(if gd true r3.1 then some (v15, r31.2) else some (undef, r31.2)).bind fun g34 =>
(if gd true r3.1 then some (v18, g34.2) else some (undef, g34.2)).bind fun g35 =>
(if gd true r3.1 then (binq Go.Proofs.Try.prog .eql 25 g34.1 g35.1).bind fun v36 => some (v36, g35.2) else some (undef, g35.2)).bind fun g37 =>
(pPick (some g37.1) (some (Go.Value.bool false)) r3.1).bind fun v38 =>
(if gd true v38 then some (v16, g37.2) else some (undef, g37.2)).bind fun g39 =>
(if gd true v38 then some (v19, g39.2) else some (undef, g39.2)).bind fun g40 =>
(if gd true v38 then (binq Go.Proofs.Try.prog .eql 4 g39.1 g40.1).bind fun v41 => some (v41, g40.2) else some (undef, g40.2)).bind fun g42 =>
(pPick (some g42.1) (some (Go.Value.bool false)) v38).bind fun v43 =>
(if gd true v43 then some (v21, g42.2) else some (undef, g42.2)).bind fun g44 =>
(if gd true v43 then some (v24, g44.2) else some (undef, g44.2)).bind fun g45 =>
(if gd true v43 then (binq Go.Proofs.Try.prog .eql 25 g44.1 g45.1).bind fun v46 => some (v46, g45.2) else some (undef, g45.2)).bind fun g47 =>
(pPick (some g47.1) (some (Go.Value.bool false)) v43).bind fun v48 =>
(if gd true v48 then some (v22, g47.2) else some (undef, g47.2)).bind fun g49 =>
(if gd true v48 then some (v25, g49.2) else some (undef, g49.2)).bind fun g50 =>
(if gd true v48 then (binq Go.Proofs.Try.prog .eql 4 g49.1 g50.1).bind fun v51 => some (v51, g50.2) else some (undef, g50.2)).bind fun g52 =>
(pPick (some g52.1) (some (Go.Value.bool false)) v48).bind fun v53 =>
(if gd true v53 then some (v28, g52.2) else some (undef, g52.2)).bind fun g54 =>
(if gd true v53 then some (v32, g54.2) else some (undef, g54.2)).bind fun g55 =>
(if gd true v53 then (binq Go.Proofs.Try.prog .eql 25 g54.1 g55.1).bind fun v56 => some (v56, g55.2) else some (undef, g55.2)).bind fun g57 =>
(pPick (some g57.1) (some (Go.Value.bool false)) v53).bind fun v58 =>
(if gd true v58 then some (v29, g57.2) else some (undef, g57.2)).bind fun g59 =>
(if gd true v58 then some (v33, g59.2) else some (undef, g59.2)).bind fun g60 =>
(if gd true v58 then (binq Go.Proofs.Try.prog .eql 4 g59.1 g60.1).bind fun v61 => some (v61, g60.2) else some (undef, g60.2)).bind fun g62 =>
(pPick (some g62.1) (some (Go.Value.bool false)) v58).bind fun v63 =>
(if gd true v63 then (ldn 5 g62.2 r1.1).bind fun v64 => some (v64, g62.2) else some (undef, g62.2)).bind fun g65 =>
(if gd true v63 then (idxArr 2 1 r2.1 (Go.Value.int Go.IntKind.i64 0)).bind fun v66 => some (v66, g65.2) else some (undef, g65.2)).bind fun g67 =>
(if gd true v63 then (ld1 g67.2 g67.1).bind fun v68 => some (v68, g67.2) else some (undef, g67.2)).bind fun g69 =>
(if gd true v63 then (idxArr 2 1 r2.1 (Go.Value.int Go.IntKind.i64 1)).bind fun v70 => some (v70, g69.2) else some (undef, g69.2)).bind fun g71 =>
(if gd true v63 then (ld1 g71.2 g71.1).bind fun v72 => some (v72, g71.2) else some (undef, g71.2)).bind fun g73 =>
(if gd true v63 then (ldn 5 g73.2 r1.1).bind fun v74 => some (v74, g73.2) else some (undef, g73.2)).bind fun g75 =>
(if gd true v63 then (idxArr 2 1 r2.1 (Go.Value.int Go.IntKind.i64 0)).bind fun v76 => some (v76, g75.2) else some (undef, g75.2)).bind fun g77 =>
(if gd true v63 then (ld1 g77.2 g77.1).bind fun v78 => some (v78, g77.2) else some (undef, g77.2)).bind fun g79 =>
(if gd true v63 then (idxArr 2 1 r2.1 (Go.Value.int Go.IntKind.i64 1)).bind fun v80 => some (v80, g79.2) else some (undef, g79.2)).bind fun g81 =>
(if gd true v63 then (ld1 g81.2 g81.1).bind fun v82 => some (v82, g81.2) else some (undef, g81.2)).bind fun g83 =>
(if gd true v63 then (callF C 14 [g65.1, g69.1, g73.1] g83.2).bind fun r84 => some (r84.1, r84.2) else some (undef, g83.2)).bind fun g85 =>
onB (sameL g83.2 g85.2 r1.1 && (sameL g83.2 g85.2 g77.1 && (sameL g83.2 g85.2 g81.1 && (true)))) (
(if gd true v63 then (callF C 15 [g75.1, g79.1, g83.1] g85.2).bind fun r86 => some (r86.1, r86.2) else some (undef, g85.2)).bind fun g87 =>
(if gd true v63 then (binq Go.Proofs.Try.prog .eql 4 g85.1 g87.1).bind fun v88 => some (v88, g87.2) else some (undef, g87.2)).bind fun g89 =>
(pPick (some g89.1) (some (Go.Value.bool false)) v63).bind fun v90 =>
some (gc σ.length v90 g89.2)))
theorem F3_eq (C : Oracle) (I : Iter) (σ : List AObj) (x0 : Value) (x1 : Value) (x2 : Value) : bodyOf Go.Proofs.Try.prog C I Hints 3 [x0, x1, x2] σ = F3 C I σ x0 x1 x2 := by kernel_rfl
theorem F3_call {σ : List AObj} {x0 : Value} {x1 : Value} {x2 : Value} {r : Out} (h : F3 Cl iterL σ x0 x1 x2 = some r) : Cl 3 [x0, x1, x2] σ = some r := call_intro (by kernel_rfl) ((F3_eq _ _ _ _ _ _).trans h)
noncomputable def c4 : Code := (Go.Proofs.Try.f4.body).getD .skip
noncomputable def k4_0 (C : Oracle) (I : Iter) (σ : List AObj) : KC := kRet Go.Proofs.Try.prog Go.Proofs.Try.f4.results.toList σ.length
noncomputable def k4_1 (C : Oracle) (I : Iter) (σ : List AObj) : KC := kSeq (fun fr s => exec Go.Proofs.Try.prog C I (Hints 4) σ.length 131 (at_ [1, 1, 1, 1, 1, 1, 1, 1, 1, 1] c4) fr s (k4_0 C I σ)) (k4_0 C I σ)
noncomputable def k4_2 (C : Oracle) (I : Iter) (σ : List AObj) : KC := kBlock 0 (k4_1 C I σ)
noncomputable def S4_11 (C : Oracle) (I : Iter) (σ : List AObj) : KF := I (stepOf Go.Proofs.Try.prog C I (Hints 4) σ.length 131 (at_ [1, 1, 1, 1, 1, 1, 1, 1, 1, 0, 1, 0, 0] c4) (k4_2 C I σ))
noncomputable def B4_11 (C : Oracle) (I : Iter) (σ : List AObj) (self11 : KF) (x2 : Value) (x5 : Value) (x7 : Value) (x8 : Value) (x10 : Value) (x11 : Value) (x12 : Value) (x13 : Value) (s : S) : Option Out :=
(lenSl x12).bind fun v25 =>
(binq Go.Proofs.Try.prog .lss 3 x13 v25).bind fun v26 =>
ifV v26 (
(ldn 5 s x2).bind fun v27 =>
(idxSl 1 x12 x13).bind fun v28 =>
(ld1 s v28).bind fun v29 =>
(callF C 12 [v27, v29] s).bind fun r30 =>
(pExtract 0 r30.1).bind fun v31 =>
(pExtract 1 r30.1).bind fun v32 =>
(binq Go.Proofs.Try.prog .neq 25 x10 v31).bind fun v33 =>
(if gd false v33 then some (x11, r30.2) else some (undef, r30.2)).bind fun g34 =>
(if gd false v33 then some (v32, g34.2) else some (undef, g34.2)).bind fun g35 =>
(if gd false v33 then (binq Go.Proofs.Try.prog .neq 4 g34.1 g35.1).bind fun v36 => some (v36, g35.2) else some (undef, g35.2)).bind fun g37 =>
(pPick (some (Go.Value.bool true)) (some g37.1) v33).bind fun v38 =>
ifV v38 (
some (gc σ.length (Go.Value.bool false) g37.2)) (
(binq Go.Proofs.Try.prog .add 3 x13 (Go.Value.int Go.IntKind.i64 1)).bind fun v39 =>
self11 [(2, x2), (5, x5), (7, x7), (8, x8), (10, x10), (11, x11), (12, x12), (13, v39)] g37.2)) (
(ldn 5 s x2).bind fun v40 =>
(bldSl 1 (.int .u16 0) 2 [(0, x7), (1, x8)] s).bind fun r41 =>
(callF C 12 [v40, r41.1] r41.2).bind fun r42 =>
(pExtract 0 r42.1).bind fun v43 =>
(pExtract 1 r42.1).bind fun v44 =>
(ldn 5 r42.2 x2).bind fun v45 =>
(bldSl 1 (.int .u16 0) 2 [(0, x8), (1, x7)] r42.2).bind fun r46 =>
(callF C 12 [v45, r46.1] r46.2).bind fun r47 =>
(pExtract 0 r47.1).bind fun v48 =>
(pExtract 1 r47.1).bind fun v49 =>
(if gd true x5 then some (v43, r47.2) else some (undef, r47.2)).bind fun g50 =>
(if gd true x5 then some (v48, g50.2) else some (undef, g50.2)).bind fun g51 =>
(if gd true x5 then (binq Go.Proofs.Try.prog .eql 25 g50.1 g51.1).bind fun v52 => some (v52, g51.2) else some (undef, g51.2)).bind fun g53 =>
(pPick (some g53.1) (some (Go.Value.bool false)) x5).bind fun v54 =>
(if gd true v54 then some (v44, g53.2) else some (undef, g53.2)).bind fun g55 =>
(if gd true v54 then some (v49, g55.2) else some (undef, g55.2)).bind fun g56 =>
(if gd true v54 then (binq Go.Proofs.Try.prog .eql 4 g55.1 g56.1).bind fun v57 => some (v57, g56.2) else some (undef, g56.2)).bind fun g58 =>
(pPick (some g58.1) (some (Go.Value.bool false)) v54).bind fun v59 =>
(if gd true v59 then (ldn 5 g58.2 x2).bind fun v60 => some (v60, g58.2) else some (undef, g58.2)).bind fun g61 =>
(if gd true v59 then some (x7, g61.2) else some (undef, g61.2)).bind fun g62 =>
(if gd true v59 then some (x7, g62.2) else some (undef, g62.2)).bind fun g63 =>
(if gd true v59 then (callF C 14 [g61.1, g62.1, g63.1] g63.2).bind fun r64 => some (r64.1, r64.2) else some (undef, g63.2)).bind fun g65 =>
(if gd true v59 then (pUn Go.Proofs.Try.prog .not g65.1).bind fun v66 => some (v66, g65.2) else some (undef, g65.2)).bind fun g67 =>
(pPick (some g67.1) (some (Go.Value.bool false)) v59).bind fun v68 =>
(if gd true v68 then (ldn 5 g67.2 x2).bind fun v69 => some (v69, g67.2) else some (undef, g67.2)).bind fun g70 =>
(if gd true v68 then some (x7, g70.2) else some (undef, g70.2)).bind fun g71 =>
(if gd true v68 then some (x8, g71.2) else some (undef, g71.2)).bind fun g72 =>
(if gd true v68 then (ldn 5 g72.2 x2).bind fun v73 => some (v73, g72.2) else some (undef, g72.2)).bind fun g74 =>
(if gd true v68 then some (x8, g74.2) else some (undef, g74.2)).bind fun g75 =>
(if gd true v68 then some (x7, g75.2) else some (undef, g75.2)).bind fun g76 =>
(if gd true v68 then (callF C 14 [g70.1, g71.1, g72.1] g76.2).bind fun r77 => some (r77.1, r77.2) else some (undef, g76.2)).bind fun g78 =>
onB (sameL g76.2 g78.2 x2 && (true)) (
(if gd true v68 then (callF C 14 [g74.1, g75.1, g76.1] g78.2).bind fun r79 => some (r79.1, r79.2) else some (undef, g78.2)).bind fun g80 =>
(if gd true v68 then (binq Go.Proofs.Try.prog .eql 4 g78.1 g80.1).bind fun v81 => some (v81, g80.2) else some (undef, g80.2)).bind fun g82 =>
(pPick (some g82.1) (some (Go.Value.bool false)) v68).bind fun v83 =>
some (gc σ.length v83 g82.2)))
theorem S4_11_intro {σ : List AObj} {x2 x5 x7 x8 x10 x11 x12 x13 : Value} {s : S} {r : Out} (h : B4_11 Cl iterL σ (S4_11 Cl iterL σ) x2 x5 x7 x8 x10 x11 x12 x13 s = some r) : S4_11 Cl iterL σ [(2, x2), (5, x5), (7, x7), (8, x8), (10, x10), (11, x11), (12, x12), (13, x13)] s = some r := by
  have e : stepOf Go.Proofs.Try.prog Cl iterL (Hints 4) σ.length 131 (at_ [1, 1, 1, 1, 1, 1, 1, 1, 1, 0, 1, 0, 0] c4) (k4_2 Cl iterL σ) (S4_11 Cl iterL σ) [(2, x2), (5, x5), (7, x7), (8, x8), (10, x10), (11, x11), (12, x12), (13, x13)] s = B4_11 Cl iterL σ (S4_11 Cl iterL σ) x2 x5 x7 x8 x10 x11 x12 x13 s := by kernel_rfl
  exact loop_intro (e.trans h)
/-- triune/triunelaw12.VoteTurned -/
noncomputable def F4 (C : Oracle) (I : Iter) (σ : List AObj) (x0 : Value) (x1 : Value) : Option Out :=
(boxc (⟨σ, []⟩ : S) (Value.cells x0).toList).bind fun r1 =>
(boxc r1.2 (Value.cells x1).toList).bind fun r2 =>
(callF C 6 [] r2.2).bind fun r3 =>
(ldn 5 r3.2 r1.1).bind fun v4 =>
(bldSl 5 (.agg #[.int .i64 0, .int .i64 0, .int .i64 0, .int .i64 0, .int .i64 0]) 1 [(0, v4)] r3.2).bind fun r5 =>
(callF C 7 [r5.1] r5.2).bind fun r6 =>
(pUn Go.Proofs.Try.prog .not r6.1).bind fun v7 =>
ifV v7 (
some (gc σ.length r3.1 r6.2)) (
(idxArr 3 1 r2.1 (Go.Value.int Go.IntKind.i64 0)).bind fun v8 =>
(ld1 r6.2 v8).bind fun v9 =>
(idxArr 3 1 r2.1 (Go.Value.int Go.IntKind.i64 1)).bind fun v10 =>
(ld1 r6.2 v10).bind fun v11 =>
(idxArr 3 1 r2.1 (Go.Value.int Go.IntKind.i64 2)).bind fun v12 =>
(ld1 r6.2 v12).bind fun v13 =>
(ldn 5 r6.2 r1.1).bind fun v14 =>
(bldSl 1 (.int .u16 0) 3 [(0, v9), (1, v11), (2, v13)] r6.2).bind fun r15 =>
(callF C 12 [v14, r15.1] r15.2).bind fun r16 =>
(pExtract 0 r16.1).bind fun v17 =>
(pExtract 1 r16.1).bind fun v18 =>
(bldSl 1 (.int .u16 0) 3 [(0, v9), (1, v13), (2, v11)] r16.2).bind fun r19 =>
(bldSl 1 (.int .u16 0) 3 [(0, v11), (1, v9), (2, v13)] r19.2).bind fun r20 =>
(bldSl 1 (.int .u16 0) 3 [(0, v11), (1, v13), (2, v9)] r20.2).bind fun r21 =>
(bldSl 1 (.int .u16 0) 3 [(0, v13), (1, v9), (2, v11)] r21.2).bind fun r22 =>
(bldSl 1 (.int .u16 0) 3 [(0, v13), (1, v11), (2, v9)] r22.2).bind fun r23 =>
(bldSl 1 (.slice none 0 0) 5 [(0, r19.1), (1, r20.1), (2, r21.1), (3, r22.1), (4, r23.1)] r23.2).bind fun r24 =>
S4_11 C I σ [(2, r1.1), (5, r3.1), (7, v9), (8, v11), (10, v17), (11, v18), (12, r24.1), (13, (Go.Value.int Go.IntKind.i64 0))] r24.2)
theorem F4_eq (C : Oracle) (I : Iter) (σ : List AObj) (x0 : Value) (x1 : Value) : bodyOf Go.Proofs.Try.prog C I Hints 4 [x0, x1] σ = F4 C I σ x0 x1 := by kernel_rfl
theorem F4_call {σ : List AObj} {x0 : Value} {x1 : Value} {r : Out} (h : F4 Cl iterL σ x0 x1 = some r) : Cl 4 [x0, x1] σ = some r := call_intro (by kernel_rfl) ((F4_eq _ _ _ _ _).trans h)
noncomputable def c5 : Code := (Go.Proofs.Try.f5.body).getD .skip
/-- triune/triunelaw12.VoteBetween -/
noncomputable def F5 (C : Oracle) (I : Iter) (σ : List AObj) (x0 : Value) : Option Out :=
(boxc (⟨σ, []⟩ : S) (Value.cells x0).toList).bind fun r1 =>
(callF C 6 [] r1.2).bind fun r2 =>
(idxArr 3 1 r1.1 (Go.Value.int Go.IntKind.i64 0)).bind fun v3 =>
(ld1 r2.2 v3).bind fun v4 =>
(idxArr 3 1 r1.1 (Go.Value.int Go.IntKind.i64 1)).bind fun v5 =>
(ld1 r2.2 v5).bind fun v6 =>
(idxArr 3 1 r1.1 (Go.Value.int Go.IntKind.i64 2)).bind fun v7 =>
(ld1 r2.2 v7).bind fun v8 =>
(bldSl 1 (.int .u16 0) 3 [(0, v4), (1, v6), (2, v8)] r2.2).bind fun r9 =>
(callF C 8 [r9.1] r9.2).bind fun r10 =>
(pExtract 0 r10.1).bind fun v11 =>
(pExtract 1 r10.1).bind fun v12 =>
(bldSl 1 (.int .u16 0) 2 [(0, v4), (1, v6)] r10.2).bind fun r13 =>
(callF C 8 [r13.1] r13.2).bind fun r14 =>
(pExtract 0 r14.1).bind fun v15 =>
(pExtract 1 r14.1).bind fun v16 =>
(binq Go.Proofs.Try.prog .rem 25 v4 (Go.Value.int Go.IntKind.u16 2)).bind fun v17 =>
(binq Go.Proofs.Try.prog .rem 25 v4 (Go.Value.int Go.IntKind.u16 2)).bind fun v18 =>
(idxArr 3 1 r1.1 (Go.Value.int Go.IntKind.i64 2)).bind fun v19 =>
(ld1 r14.2 v19).bind fun v20 =>
(binq Go.Proofs.Try.prog .rem 25 v20 (Go.Value.int Go.IntKind.u16 2)).bind fun v21 =>
(bldSl 1 (.int .u16 0) 3 [(0, v17), (1, v18), (2, v21)] r14.2).bind fun r22 =>
(callF C 10 [r22.1] r22.2).bind fun r23 =>
(pExtract 0 r23.1).bind fun v24 =>
(pExtract 1 r23.1).bind fun v25 =>
(if gd true r2.1 then some (v12, r23.2) else some (undef, r23.2)).bind fun g26 =>
(pPick (some g26.1) (some (Go.Value.bool false)) r2.1).bind fun v27 =>
(if gd true v27 then some (v16, g26.2) else some (undef, g26.2)).bind fun g28 =>
(pPick (some g28.1) (some (Go.Value.bool false)) v27).bind fun v29 =>
(if gd true v29 then some (v11, g28.2) else some (undef, g28.2)).bind fun g30 =>
(if gd true v29 then some (v4, g30.2) else some (undef, g30.2)).bind fun g31 =>
(if gd true v29 then some (v6, g31.2) else some (undef, g31.2)).bind fun g32 =>
(if gd true v29 then (pMM Go.Proofs.Try.prog false #[25, 25] 25 [g31.1, g32.1]).bind fun v33 => some (v33, g32.2) else some (undef, g32.2)).bind fun g34 =>
(if gd true v29 then (binq Go.Proofs.Try.prog .geq 25 g30.1 g34.1).bind fun v35 => some (v35, g34.2) else some (undef, g34.2)).bind fun g36 =>
(pPick (some g36.1) (some (Go.Value.bool false)) v29).bind fun v37 =>
(if gd true v37 then some (v11, g36.2) else some (undef, g36.2)).bind fun g38 =>
(if gd true v37 then some (v4, g38.2) else some (undef, g38.2)).bind fun g39 =>
(if gd true v37 then some (v6, g39.2) else some (undef, g39.2)).bind fun g40 =>
(if gd true v37 then (pMM Go.Proofs.Try.prog true #[25, 25] 25 [g39.1, g40.1]).bind fun v41 => some (v41, g40.2) else some (undef, g40.2)).bind fun g42 =>
(if gd true v37 then (binq Go.Proofs.Try.prog .leq 25 g38.1 g42.1).bind fun v43 => some (v43, g42.2) else some (undef, g42.2)).bind fun g44 =>
(pPick (some g44.1) (some (Go.Value.bool false)) v37).bind fun v45 =>
(if gd true v45 then some (v15, g44.2) else some (undef, g44.2)).bind fun g46 =>
(if gd true v45 then some (v4, g46.2) else some (undef, g46.2)).bind fun g47 =>
(if gd true v45 then some (v6, g47.2) else some (undef, g47.2)).bind fun g48 =>
(if gd true v45 then (pMM Go.Proofs.Try.prog false #[25, 25] 25 [g47.1, g48.1]).bind fun v49 => some (v49, g48.2) else some (undef, g48.2)).bind fun g50 =>
(if gd true v45 then (binq Go.Proofs.Try.prog .geq 25 g46.1 g50.1).bind fun v51 => some (v51, g50.2) else some (undef, g50.2)).bind fun g52 =>
(pPick (some g52.1) (some (Go.Value.bool false)) v45).bind fun v53 =>
(if gd true v53 then some (v15, g52.2) else some (undef, g52.2)).bind fun g54 =>
(if gd true v53 then some (v4, g54.2) else some (undef, g54.2)).bind fun g55 =>
(if gd true v53 then some (v6, g55.2) else some (undef, g55.2)).bind fun g56 =>
(if gd true v53 then (pMM Go.Proofs.Try.prog true #[25, 25] 25 [g55.1, g56.1]).bind fun v57 => some (v57, g56.2) else some (undef, g56.2)).bind fun g58 =>
(if gd true v53 then (binq Go.Proofs.Try.prog .leq 25 g54.1 g58.1).bind fun v59 => some (v59, g58.2) else some (undef, g58.2)).bind fun g60 =>
(pPick (some g60.1) (some (Go.Value.bool false)) v53).bind fun v61 =>
(if gd true v61 then some (v25, g60.2) else some (undef, g60.2)).bind fun g62 =>
(pPick (some g62.1) (some (Go.Value.bool false)) v61).bind fun v63 =>
(if gd true v63 then some (v24, g62.2) else some (undef, g62.2)).bind fun g64 =>
(if gd true v63 then some (v4, g64.2) else some (undef, g64.2)).bind fun g65 =>
(if gd true v63 then (binq Go.Proofs.Try.prog .rem 25 g65.1 (Go.Value.int Go.IntKind.u16 2)).bind fun v66 => some (v66, g65.2) else some (undef, g65.2)).bind fun g67 =>
(if gd true v63 then (binq Go.Proofs.Try.prog .eql 25 g64.1 g67.1).bind fun v68 => some (v68, g67.2) else some (undef, g67.2)).bind fun g69 =>
(pPick (some g69.1) (some (Go.Value.bool false)) v63).bind fun v70 =>
some (gc σ.length v70 g69.2)
theorem F5_eq (C : Oracle) (I : Iter) (σ : List AObj) (x0 : Value) : bodyOf Go.Proofs.Try.prog C I Hints 5 [x0] σ = F5 C I σ x0 := by kernel_rfl
theorem F5_call {σ : List AObj} {x0 : Value} {r : Out} (h : F5 Cl iterL σ x0 = some r) : Cl 5 [x0] σ = some r := call_intro (by kernel_rfl) ((F5_eq _ _ _ _).trans h)
noncomputable def c6 : Code := (Go.Proofs.Try.f6.body).getD .skip
/-- triune/triunelaw12.awake -/
noncomputable def F6 (C : Oracle) (I : Iter) (σ : List AObj) : Option Out :=
(bldSl 1 (.int .u16 0) 3 [(0, (Go.Value.int Go.IntKind.u16 7)), (1, (Go.Value.int Go.IntKind.u16 3)), (2, (Go.Value.int Go.IntKind.u16 5))] (⟨σ, []⟩ : S)).bind fun r1 =>
(callF C 8 [r1.1] r1.2).bind fun r2 =>
(pExtract 0 r2.1).bind fun v3 =>
(pExtract 1 r2.1).bind fun v4 =>
(bldSl 1 (.int .u16 0) 2 [(0, (Go.Value.int Go.IntKind.u16 7)), (1, (Go.Value.int Go.IntKind.u16 4))] r2.2).bind fun r5 =>
(callF C 8 [r5.1] r5.2).bind fun r6 =>
(pExtract 0 r6.1).bind fun v7 =>
(pExtract 1 r6.1).bind fun v8 =>
(bldSl 1 (.int .u16 0) 3 [(0, (Go.Value.int Go.IntKind.u16 1)), (1, (Go.Value.int Go.IntKind.u16 0)), (2, (Go.Value.int Go.IntKind.u16 1))] r6.2).bind fun r9 =>
(callF C 10 [r9.1] r9.2).bind fun r10 =>
(pExtract 0 r10.1).bind fun v11 =>
(pExtract 1 r10.1).bind fun v12 =>
(bldSl 1 (.int .u16 0) 2 [(0, (Go.Value.int Go.IntKind.u16 1)), (1, (Go.Value.int Go.IntKind.u16 0))] r10.2).bind fun r13 =>
(callF C 10 [r13.1] r13.2).bind fun r14 =>
(pExtract 0 r14.1).bind fun v15 =>
(pExtract 1 r14.1).bind fun v16 =>
(bldV (.agg #[.int .i64 0, .int .i64 0, .int .i64 0, .int .i64 0, .int .i64 0]) (fun i => (#[(0, 1), (1, 1), (2, 1), (3, 1), (4, 1)] : Array (Nat × Nat))[i]?) [(0, (Go.Value.int Go.IntKind.i64 2)), (4, (Go.Value.int Go.IntKind.i64 1))]).bind fun v17 =>
(callF C 12 [v17, (Go.Value.slice none 0 0)] r14.2).bind fun r18 =>
(pExtract 0 r18.1).bind fun v19 =>
(pExtract 1 r18.1).bind fun v20 =>
(binq Go.Proofs.Try.prog .eql 25 v3 (Go.Value.int Go.IntKind.u16 5)).bind fun v21 =>
(if gd true v21 then some (v4, r18.2) else some (undef, r18.2)).bind fun g22 =>
(pPick (some g22.1) (some (Go.Value.bool false)) v21).bind fun v23 =>
(if gd true v23 then some (v7, g22.2) else some (undef, g22.2)).bind fun g24 =>
(if gd true v23 then (binq Go.Proofs.Try.prog .eql 25 g24.1 (Go.Value.int Go.IntKind.u16 5)).bind fun v25 => some (v25, g24.2) else some (undef, g24.2)).bind fun g26 =>
(pPick (some g26.1) (some (Go.Value.bool false)) v23).bind fun v27 =>
(if gd true v27 then some (v8, g26.2) else some (undef, g26.2)).bind fun g28 =>
(pPick (some g28.1) (some (Go.Value.bool false)) v27).bind fun v29 =>
(if gd true v29 then some (v11, g28.2) else some (undef, g28.2)).bind fun g30 =>
(if gd true v29 then (binq Go.Proofs.Try.prog .eql 25 g30.1 (Go.Value.int Go.IntKind.u16 1)).bind fun v31 => some (v31, g30.2) else some (undef, g30.2)).bind fun g32 =>
(pPick (some g32.1) (some (Go.Value.bool false)) v29).bind fun v33 =>
(if gd true v33 then some (v12, g32.2) else some (undef, g32.2)).bind fun g34 =>
(pPick (some g34.1) (some (Go.Value.bool false)) v33).bind fun v35 =>
(if gd true v35 then some (v16, g34.2) else some (undef, g34.2)).bind fun g36 =>
(if gd true v35 then (pUn Go.Proofs.Try.prog .not g36.1).bind fun v37 => some (v37, g36.2) else some (undef, g36.2)).bind fun g38 =>
(pPick (some g38.1) (some (Go.Value.bool false)) v35).bind fun v39 =>
(if gd true v39 then some (v19, g38.2) else some (undef, g38.2)).bind fun g40 =>
(if gd true v39 then (binq Go.Proofs.Try.prog .eql 25 g40.1 (Go.Value.int Go.IntKind.u16 1)).bind fun v41 => some (v41, g40.2) else some (undef, g40.2)).bind fun g42 =>
(pPick (some g42.1) (some (Go.Value.bool false)) v39).bind fun v43 =>
(if gd true v43 then some (v20, g42.2) else some (undef, g42.2)).bind fun g44 =>
(if gd true v43 then (pUn Go.Proofs.Try.prog .not g44.1).bind fun v45 => some (v45, g44.2) else some (undef, g44.2)).bind fun g46 =>
(pPick (some g46.1) (some (Go.Value.bool false)) v43).bind fun v47 =>
(if gd true v47 then (bldV (.agg #[.int .i64 0, .int .i64 0, .int .i64 0, .int .i64 0, .int .i64 0]) (fun i => (#[(0, 1), (1, 1), (2, 1), (3, 1), (4, 1)] : Array (Nat × Nat))[i]?) [(3, (Go.Value.int Go.IntKind.i64 1))]).bind fun v48 => some (v48, g46.2) else some (undef, g46.2)).bind fun g49 =>
(if gd true v47 then (callF C 14 [g49.1, (Go.Value.int Go.IntKind.u16 3), (Go.Value.int Go.IntKind.u16 5)] g49.2).bind fun r50 => some (r50.1, r50.2) else some (undef, g49.2)).bind fun g51 =>
(pPick (some g51.1) (some (Go.Value.bool false)) v47).bind fun v52 =>
(if gd true v52 then (bldV (.agg #[.int .i64 0, .int .i64 0, .int .i64 0, .int .i64 0, .int .i64 0]) (fun i => (#[(0, 1), (1, 1), (2, 1), (3, 1), (4, 1)] : Array (Nat × Nat))[i]?) [(3, (Go.Value.int Go.IntKind.i64 2))]).bind fun v53 => some (v53, g51.2) else some (undef, g51.2)).bind fun g54 =>
(if gd true v52 then (callF C 14 [g54.1, (Go.Value.int Go.IntKind.u16 5), (Go.Value.int Go.IntKind.u16 3)] g54.2).bind fun r55 => some (r55.1, r55.2) else some (undef, g54.2)).bind fun g56 =>
(if gd true v52 then (pUn Go.Proofs.Try.prog .not g56.1).bind fun v57 => some (v57, g56.2) else some (undef, g56.2)).bind fun g58 =>
(pPick (some g58.1) (some (Go.Value.bool false)) v52).bind fun v59 =>
some (gc σ.length v59 g58.2)
theorem F6_eq (C : Oracle) (I : Iter) (σ : List AObj) : bodyOf Go.Proofs.Try.prog C I Hints 6 [] σ = F6 C I σ  := by kernel_rfl
theorem F6_call {σ : List AObj} {r : Out} (h : F6 Cl iterL σ  = some r) : Cl 6 [] σ = some r := call_intro (by kernel_rfl) ((F6_eq _ _ _ ).trans h)
noncomputable def c7 : Code := (Go.Proofs.Try.f7.body).getD .skip
/-- triune/triunelaw10.May -/
noncomputable def F7 (C : Oracle) (I : Iter) (σ : List AObj) (x0 : Value) : Option Out :=
(lenSl x0).bind fun v1 =>
(binq Go.Proofs.Try.prog .leq 3 v1 (Go.Value.int Go.IntKind.i64 48)).bind fun v2 =>
(if gd true v2 then (bldV (.agg #[.int .u8 0, .int .u8 0, .int .u8 0]) (fun i => some (i * 1, 1)) [(0, (Go.Value.int Go.IntKind.u8 1)), (1, (Go.Value.int Go.IntKind.u8 1)), (2, (Go.Value.int Go.IntKind.u8 1))]).bind fun v3 => some (v3, (⟨σ, []⟩ : S)) else some (undef, (⟨σ, []⟩ : S))).bind fun g4 =>
(if gd true v2 then some (x0, g4.2) else some (undef, g4.2)).bind fun g5 =>
(if gd true v2 then (bldV (.agg #[.int .u8 0, .int .u8 0, .int .u8 0, .int .i64 0, .int .i64 0, .int .i64 0, .int .i64 0, .int .i64 0, .int .i64 0, .int .u16 0, .slice none 0 0]) (fun i => (#[(0, 3), (3, 1), (4, 1), (5, 1), (6, 1), (7, 1), (8, 1), (9, 1), (10, 1)] : Array (Nat × Nat))[i]?) [(0, g4.1), (1, (Go.Value.int Go.IntKind.i64 1)), (2, (Go.Value.int Go.IntKind.i64 1)), (3, (Go.Value.int Go.IntKind.i64 1)), (4, (Go.Value.int Go.IntKind.i64 1)), (5, (Go.Value.int Go.IntKind.i64 1)), (6, (Go.Value.int Go.IntKind.i64 1)), (8, g5.1)]).bind fun v6 => some (v6, g5.2) else some (undef, g5.2)).bind fun g7 =>
(if gd true v2 then (callF C 16 [g7.1] g7.2).bind fun r8 => some (r8.1, r8.2) else some (undef, g7.2)).bind fun g9 =>
(if gd true v2 then (binq Go.Proofs.Try.prog .eql 39 g9.1 (Go.Value.int Go.IntKind.i64 0)).bind fun v10 => some (v10, g9.2) else some (undef, g9.2)).bind fun g11 =>
(pPick (some g11.1) (some (Go.Value.bool false)) v2).bind fun v12 =>
some (gc σ.length v12 g11.2)
theorem F7_eq (C : Oracle) (I : Iter) (σ : List AObj) (x0 : Value) : bodyOf Go.Proofs.Try.prog C I Hints 7 [x0] σ = F7 C I σ x0 := by kernel_rfl
theorem F7_call {σ : List AObj} {x0 : Value} {r : Out} (h : F7 Cl iterL σ x0 = some r) : Cl 7 [x0] σ = some r := call_intro (by kernel_rfl) ((F7_eq _ _ _ _).trans h)
noncomputable def c8 : Code := (Go.Proofs.Try.f8.body).getD .skip
/-- triune/vote.Median -/
noncomputable def F8 (C : Oracle) (I : Iter) (σ : List AObj) (x0 : Value) : Option Out :=
(lenSl x0).bind fun v1 =>
(binq Go.Proofs.Try.prog .eql 3 v1 (Go.Value.int Go.IntKind.i64 1)).bind fun v2 =>
ifV v2 (
(idxSl 1 x0 (Go.Value.int Go.IntKind.i64 0)).bind fun v3 =>
(ld1 (⟨σ, []⟩ : S) v3).bind fun v4 =>
(retL [v4, (Go.Value.bool true)]).bind fun v => some (gc σ.length v (⟨σ, []⟩ : S))) (
(binq Go.Proofs.Try.prog .eql 3 v1 (Go.Value.int Go.IntKind.i64 2)).bind fun v5 =>
ifV v5 (
(idxSl 1 x0 (Go.Value.int Go.IntKind.i64 0)).bind fun v6 =>
(ld1 (⟨σ, []⟩ : S) v6).bind fun v7 =>
(idxSl 1 x0 (Go.Value.int Go.IntKind.i64 1)).bind fun v8 =>
(ld1 (⟨σ, []⟩ : S) v8).bind fun v9 =>
(binq Go.Proofs.Try.prog .and 25 v7 v9).bind fun v10 =>
(idxSl 1 x0 (Go.Value.int Go.IntKind.i64 0)).bind fun v11 =>
(ld1 (⟨σ, []⟩ : S) v11).bind fun v12 =>
(idxSl 1 x0 (Go.Value.int Go.IntKind.i64 1)).bind fun v13 =>
(ld1 (⟨σ, []⟩ : S) v13).bind fun v14 =>
(binq Go.Proofs.Try.prog .xor 25 v12 v14).bind fun v15 =>
(binq Go.Proofs.Try.prog .shr 25 v15 (Go.Value.int Go.IntKind.u64 1)).bind fun v16 =>
(binq Go.Proofs.Try.prog .add 25 v10 v16).bind fun v17 =>
(retL [v17, (Go.Value.bool true)]).bind fun v => some (gc σ.length v (⟨σ, []⟩ : S))) (
(binq Go.Proofs.Try.prog .eql 3 v1 (Go.Value.int Go.IntKind.i64 3)).bind fun v18 =>
ifV v18 (
(callF C 18 [x0] (⟨σ, []⟩ : S)).bind fun r19 =>
(callF C 17 [r19.1] r19.2).bind fun r20 =>
(idxSl 1 r20.1 (Go.Value.int Go.IntKind.i64 1)).bind fun v21 =>
(ld1 r20.2 v21).bind fun v22 =>
(retL [v22, (Go.Value.bool true)]).bind fun v => some (gc σ.length v r20.2)) (
(retL [(Go.Value.int Go.IntKind.u16 0), (Go.Value.bool false)]).bind fun v => some (gc σ.length v (⟨σ, []⟩ : S)))))
theorem F8_eq (C : Oracle) (I : Iter) (σ : List AObj) (x0 : Value) : bodyOf Go.Proofs.Try.prog C I Hints 8 [x0] σ = F8 C I σ x0 := by kernel_rfl
theorem F8_call {σ : List AObj} {x0 : Value} {r : Out} (h : F8 Cl iterL σ x0 = some r) : Cl 8 [x0] σ = some r := call_intro (by kernel_rfl) ((F8_eq _ _ _ _).trans h)
noncomputable def c9 : Code := (Go.Proofs.Try.f9.body).getD .skip
noncomputable def k9_0 (C : Oracle) (I : Iter) (σ : List AObj) : KC := kRet Go.Proofs.Try.prog Go.Proofs.Try.f9.results.toList σ.length
noncomputable def k9_1 (C : Oracle) (I : Iter) (σ : List AObj) : KC := kSeq (fun fr s => exec Go.Proofs.Try.prog C I (Hints 9) σ.length 71 (at_ [1, 1, 1, 1, 1] c9) fr s (k9_0 C I σ)) (k9_0 C I σ)
noncomputable def k9_2 (C : Oracle) (I : Iter) (σ : List AObj) : KC := kBlock 0 (k9_1 C I σ)
noncomputable def S9_8 (C : Oracle) (I : Iter) (σ : List AObj) : KF := I (stepOf Go.Proofs.Try.prog C I (Hints 9) σ.length 71 (at_ [1, 1, 1, 1, 0, 1, 0, 0] c9) (k9_2 C I σ))
noncomputable def k9_3 (C : Oracle) (I : Iter) (σ : List AObj) (self8 : KF) : KC := kLoop (Hints 9 8) (Hints 9 10008) self8 (k9_2 C I σ)
noncomputable def k9_4 (C : Oracle) (I : Iter) (σ : List AObj) (self8 : KF) : KC := kSeq (fun fr s => exec Go.Proofs.Try.prog C I (Hints 9) σ.length 71 (at_ [1, 1, 1, 1, 0, 1, 0, 0, 1, 1] c9) fr s (k9_3 C I σ self8)) (k9_3 C I σ self8)
noncomputable def k9_5 (C : Oracle) (I : Iter) (σ : List AObj) (self8 : KF) : KC := kBlock 1 (k9_4 C I σ self8)
noncomputable def k9_6 (C : Oracle) (I : Iter) (σ : List AObj) (self8 : KF) : KC := kSeq (fun fr s => exec Go.Proofs.Try.prog C I (Hints 9) σ.length 71 (at_ [1, 1, 1, 1, 0, 1, 0, 0, 1, 0, 0, 1, 1, 1] c9) fr s (k9_5 C I σ self8)) (k9_5 C I σ self8)
noncomputable def k9_7 (C : Oracle) (I : Iter) (σ : List AObj) (self8 : KF) : KC := kBlock 2 (k9_6 C I σ self8)
noncomputable def S9_13 (C : Oracle) (I : Iter) (σ : List AObj) (self8 : KF) : KF := I (stepOf Go.Proofs.Try.prog C I (Hints 9) σ.length 71 (at_ [1, 1, 1, 1, 0, 1, 0, 0, 1, 0, 0, 1, 1, 0, 1, 0, 0] c9) (k9_7 C I σ self8))
noncomputable def B9_13 (C : Oracle) (I : Iter) (σ : List AObj) (self8 : KF) (self13 : KF) (x0 : Value) (x4 : Value) (x5 : Value) (x6 : Value) (x7 : Value) (s : S) : Option Out :=
(binq Go.Proofs.Try.prog .lss 3 x7 (Go.Value.int Go.IntKind.i64 3)).bind fun v19 =>
ifV v19 (
(idxSl 1 x0 x7).bind fun v20 =>
(ld1 s v20).bind fun v21 =>
(idxSl 1 x0 x4).bind fun v22 =>
(ld1 s v22).bind fun v23 =>
(binq Go.Proofs.Try.prog .lss 25 v21 v23).bind fun v24 =>
let j27 : Value → Option Out := fun y26 => (idxSl 1 x0 x7).bind fun v28 =>
  (ld1 s v28).bind fun v29 =>
  (idxSl 1 x0 x4).bind fun v30 =>
  (ld1 s v30).bind fun v31 =>
  (binq Go.Proofs.Try.prog .gtr 25 v29 v31).bind fun v32 =>
  let j35 : Value → Option Out := fun y34 => (binq Go.Proofs.Try.prog .add 3 x7 (Go.Value.int Go.IntKind.i64 1)).bind fun v36 =>
    self13 [(0, x0), (4, x4), (5, y26), (6, y34), (7, v36)] s
  ifV v32 (
  (binq Go.Proofs.Try.prog .add 3 x6 (Go.Value.int Go.IntKind.i64 1)).bind fun v33 =>
  (j35 (v33))) (
  (j35 (x6)))
ifV v24 (
(binq Go.Proofs.Try.prog .add 3 x5 (Go.Value.int Go.IntKind.i64 1)).bind fun v25 =>
(j27 (v25))) (
(j27 (x5)))) (
(binq Go.Proofs.Try.prog .leq 3 x5 (Go.Value.int Go.IntKind.i64 1)).bind fun v37 =>
(if gd true v37 then some (x6, s) else some (undef, s)).bind fun g38 =>
(if gd true v37 then (binq Go.Proofs.Try.prog .leq 3 g38.1 (Go.Value.int Go.IntKind.i64 1)).bind fun v39 => some (v39, g38.2) else some (undef, g38.2)).bind fun g40 =>
(pPick (some g40.1) (some (Go.Value.bool false)) v37).bind fun v41 =>
ifV v41 (
(idxSl 1 x0 x4).bind fun v42 =>
(ld1 g40.2 v42).bind fun v43 =>
(retL [v43, (Go.Value.bool true)]).bind fun v => some (gc σ.length v g40.2)) (
(binq Go.Proofs.Try.prog .add 3 x4 (Go.Value.int Go.IntKind.i64 1)).bind fun v44 =>
self8 [(0, x0), (4, v44)] g40.2))
theorem S9_13_intro {σ : List AObj} {self8 : KF} {x0 x4 x5 x6 x7 : Value} {s : S} {r : Out} (h : B9_13 Cl iterL σ self8 (S9_13 Cl iterL σ self8) x0 x4 x5 x6 x7 s = some r) : S9_13 Cl iterL σ self8 [(0, x0), (4, x4), (5, x5), (6, x6), (7, x7)] s = some r := by
  have e : stepOf Go.Proofs.Try.prog Cl iterL (Hints 9) σ.length 71 (at_ [1, 1, 1, 1, 0, 1, 0, 0, 1, 0, 0, 1, 1, 0, 1, 0, 0] c9) (k9_7 Cl iterL σ self8) (S9_13 Cl iterL σ self8) [(0, x0), (4, x4), (5, x5), (6, x6), (7, x7)] s = B9_13 Cl iterL σ self8 (S9_13 Cl iterL σ self8) x0 x4 x5 x6 x7 s := by kernel_rfl
  exact loop_intro (e.trans h)
noncomputable def B9_8 (C : Oracle) (I : Iter) (σ : List AObj) (self8 : KF) (x0 : Value) (x4 : Value) (s : S) : Option Out :=
(binq Go.Proofs.Try.prog .lss 3 x4 (Go.Value.int Go.IntKind.i64 3)).bind fun v18 =>
ifV v18 (
S9_13 C I σ self8 [(0, x0), (4, x4), (5, (Go.Value.int Go.IntKind.i64 0)), (6, (Go.Value.int Go.IntKind.i64 0)), (7, (Go.Value.int Go.IntKind.i64 0))] s) (
(retL [(Go.Value.int Go.IntKind.u16 0), (Go.Value.bool false)]).bind fun v => some (gc σ.length v s))
theorem S9_8_intro {σ : List AObj} {x0 x4 : Value} {s : S} {r : Out} (h : B9_8 Cl iterL σ (S9_8 Cl iterL σ) x0 x4 s = some r) : S9_8 Cl iterL σ [(0, x0), (4, x4)] s = some r := by
  have e : stepOf Go.Proofs.Try.prog Cl iterL (Hints 9) σ.length 71 (at_ [1, 1, 1, 1, 0, 1, 0, 0] c9) (k9_2 Cl iterL σ) (S9_8 Cl iterL σ) [(0, x0), (4, x4)] s = B9_8 Cl iterL σ (S9_8 Cl iterL σ) x0 x4 s := by kernel_rfl
  exact loop_intro (e.trans h)
/-- triune/triuneref12.Median -/
noncomputable def F9 (C : Oracle) (I : Iter) (σ : List AObj) (x0 : Value) : Option Out :=
(lenSl x0).bind fun v1 =>
(binq Go.Proofs.Try.prog .eql 3 v1 (Go.Value.int Go.IntKind.i64 1)).bind fun v2 =>
ifV v2 (
(idxSl 1 x0 (Go.Value.int Go.IntKind.i64 0)).bind fun v3 =>
(ld1 (⟨σ, []⟩ : S) v3).bind fun v4 =>
(retL [v4, (Go.Value.bool true)]).bind fun v => some (gc σ.length v (⟨σ, []⟩ : S))) (
(lenSl x0).bind fun v5 =>
(binq Go.Proofs.Try.prog .eql 3 v5 (Go.Value.int Go.IntKind.i64 2)).bind fun v6 =>
ifV v6 (
(idxSl 1 x0 (Go.Value.int Go.IntKind.i64 0)).bind fun v7 =>
(ld1 (⟨σ, []⟩ : S) v7).bind fun v8 =>
(cvI .i64 v8).bind fun v9 =>
(idxSl 1 x0 (Go.Value.int Go.IntKind.i64 1)).bind fun v10 =>
(ld1 (⟨σ, []⟩ : S) v10).bind fun v11 =>
(cvI .i64 v11).bind fun v12 =>
(binq Go.Proofs.Try.prog .add 3 v9 v12).bind fun v13 =>
(binq Go.Proofs.Try.prog .quo 3 v13 (Go.Value.int Go.IntKind.i64 2)).bind fun v14 =>
(cvI .u16 v14).bind fun v15 =>
(retL [v15, (Go.Value.bool true)]).bind fun v => some (gc σ.length v (⟨σ, []⟩ : S))) (
(lenSl x0).bind fun v16 =>
(binq Go.Proofs.Try.prog .neq 3 v16 (Go.Value.int Go.IntKind.i64 3)).bind fun v17 =>
ifV v17 (
(retL [(Go.Value.int Go.IntKind.u16 0), (Go.Value.bool false)]).bind fun v => some (gc σ.length v (⟨σ, []⟩ : S))) (
S9_8 C I σ [(0, x0), (4, (Go.Value.int Go.IntKind.i64 0))] (⟨σ, []⟩ : S))))
theorem F9_eq (C : Oracle) (I : Iter) (σ : List AObj) (x0 : Value) : bodyOf Go.Proofs.Try.prog C I Hints 9 [x0] σ = F9 C I σ x0 := by kernel_rfl
theorem F9_call {σ : List AObj} {x0 : Value} {r : Out} (h : F9 Cl iterL σ x0 = some r) : Cl 9 [x0] σ = some r := call_intro (by kernel_rfl) ((F9_eq _ _ _ _).trans h)
noncomputable def c10 : Code := (Go.Proofs.Try.f10.body).getD .skip
noncomputable def k10_0 (C : Oracle) (I : Iter) (σ : List AObj) : KC := kRet Go.Proofs.Try.prog Go.Proofs.Try.f10.results.toList σ.length
noncomputable def k10_1 (C : Oracle) (I : Iter) (σ : List AObj) : KC := kSeq (fun fr s => exec Go.Proofs.Try.prog C I (Hints 10) σ.length 38 (at_ [1, 1, 1] c10) fr s (k10_0 C I σ)) (k10_0 C I σ)
noncomputable def k10_2 (C : Oracle) (I : Iter) (σ : List AObj) : KC := kBlock 0 (k10_1 C I σ)
noncomputable def S10_3 (C : Oracle) (I : Iter) (σ : List AObj) : KF := I (stepOf Go.Proofs.Try.prog C I (Hints 10) σ.length 38 (at_ [1, 1, 0, 1, 0, 0] c10) (k10_2 C I σ))
noncomputable def B10_3 (C : Oracle) (I : Iter) (σ : List AObj) (self3 : KF) (x0 : Value) (x4 : Value) (x7 : Value) (x8 : Value) (x9 : Value) (s : S) : Option Out :=
(binq Go.Proofs.Try.prog .lss 3 x9 x8).bind fun v3 =>
ifV v3 (
(idxSl 1 x7 x9).bind fun v4 =>
(ld1 s v4).bind fun v5 =>
(binq Go.Proofs.Try.prog .geq 25 v5 (Go.Value.int Go.IntKind.u16 2)).bind fun v6 =>
ifV v6 (
(retL [(Go.Value.int Go.IntKind.u16 0), (Go.Value.bool false)]).bind fun v => some (gc σ.length v s)) (
(idxArr 2 1 x4 v5).bind fun v7 =>
(ld1 s v7).bind fun v8 =>
(binq Go.Proofs.Try.prog .add 3 v8 (Go.Value.int Go.IntKind.i64 1)).bind fun v9 =>
(idxArr 2 1 x4 v5).bind fun v10 =>
(stv 1 σ.length s v10 v9).bind fun s11 =>
(binq Go.Proofs.Try.prog .add 3 x9 (Go.Value.int Go.IntKind.i64 1)).bind fun v12 =>
self3 [(0, x0), (4, x4), (7, x7), (8, x8), (9, v12)] s11)) (
(lenSl x0).bind fun v13 =>
(binq Go.Proofs.Try.prog .gtr 3 v13 (Go.Value.int Go.IntKind.i64 3)).bind fun v14 =>
(if gd false v14 then (idxArr 2 1 x4 (Go.Value.int Go.IntKind.i64 0)).bind fun v15 => some (v15, s) else some (undef, s)).bind fun g16 =>
(if gd false v14 then (ld1 g16.2 g16.1).bind fun v17 => some (v17, g16.2) else some (undef, g16.2)).bind fun g18 =>
(if gd false v14 then (idxArr 2 1 x4 (Go.Value.int Go.IntKind.i64 1)).bind fun v19 => some (v19, g18.2) else some (undef, g18.2)).bind fun g20 =>
(if gd false v14 then (ld1 g20.2 g20.1).bind fun v21 => some (v21, g20.2) else some (undef, g20.2)).bind fun g22 =>
(if gd false v14 then (binq Go.Proofs.Try.prog .eql 3 g18.1 g22.1).bind fun v23 => some (v23, g22.2) else some (undef, g22.2)).bind fun g24 =>
(pPick (some (Go.Value.bool true)) (some g24.1) v14).bind fun v25 =>
ifV v25 (
(retL [(Go.Value.int Go.IntKind.u16 0), (Go.Value.bool false)]).bind fun v => some (gc σ.length v g24.2)) (
(idxArr 2 1 x4 (Go.Value.int Go.IntKind.i64 1)).bind fun v26 =>
(ld1 g24.2 v26).bind fun v27 =>
(idxArr 2 1 x4 (Go.Value.int Go.IntKind.i64 0)).bind fun v28 =>
(ld1 g24.2 v28).bind fun v29 =>
(binq Go.Proofs.Try.prog .gtr 3 v27 v29).bind fun v30 =>
ifV v30 (
(retL [(Go.Value.int Go.IntKind.u16 1), (Go.Value.bool true)]).bind fun v => some (gc σ.length v g24.2)) (
(retL [(Go.Value.int Go.IntKind.u16 0), (Go.Value.bool true)]).bind fun v => some (gc σ.length v g24.2))))
theorem S10_3_intro {σ : List AObj} {x0 x4 x7 x8 x9 : Value} {s : S} {r : Out} (h : B10_3 Cl iterL σ (S10_3 Cl iterL σ) x0 x4 x7 x8 x9 s = some r) : S10_3 Cl iterL σ [(0, x0), (4, x4), (7, x7), (8, x8), (9, x9)] s = some r := by
  have e : stepOf Go.Proofs.Try.prog Cl iterL (Hints 10) σ.length 38 (at_ [1, 1, 0, 1, 0, 0] c10) (k10_2 Cl iterL σ) (S10_3 Cl iterL σ) [(0, x0), (4, x4), (7, x7), (8, x8), (9, x9)] s = B10_3 Cl iterL σ (S10_3 Cl iterL σ) x0 x4 x7 x8 x9 s := by kernel_rfl
  exact loop_intro (e.trans h)
/-- triune/vote.Majority -/
noncomputable def F10 (C : Oracle) (I : Iter) (σ : List AObj) (x0 : Value) : Option Out :=
(boxc (⟨σ, []⟩ : S) [.int .i64 0, .int .i64 0]).bind fun r1 =>
(lenSl x0).bind fun v2 =>
S10_3 C I σ [(0, x0), (4, r1.1), (7, x0), (8, v2), (9, (Go.Value.int Go.IntKind.i64 0))] r1.2
theorem F10_eq (C : Oracle) (I : Iter) (σ : List AObj) (x0 : Value) : bodyOf Go.Proofs.Try.prog C I Hints 10 [x0] σ = F10 C I σ x0 := by kernel_rfl
theorem F10_call {σ : List AObj} {x0 : Value} {r : Out} (h : F10 Cl iterL σ x0 = some r) : Cl 10 [x0] σ = some r := call_intro (by kernel_rfl) ((F10_eq _ _ _ _).trans h)
noncomputable def c11 : Code := (Go.Proofs.Try.f11.body).getD .skip
noncomputable def k11_0 (C : Oracle) (I : Iter) (σ : List AObj) : KC := kRet Go.Proofs.Try.prog Go.Proofs.Try.f11.results.toList σ.length
noncomputable def k11_1 (C : Oracle) (I : Iter) (σ : List AObj) : KC := kSeq (fun fr s => exec Go.Proofs.Try.prog C I (Hints 11) σ.length 48 (at_ [1, 1, 1] c11) fr s (k11_0 C I σ)) (k11_0 C I σ)
noncomputable def k11_2 (C : Oracle) (I : Iter) (σ : List AObj) : KC := kBlock 0 (k11_1 C I σ)
noncomputable def S11_3 (C : Oracle) (I : Iter) (σ : List AObj) : KF := I (stepOf Go.Proofs.Try.prog C I (Hints 11) σ.length 48 (at_ [1, 1, 0, 1, 0, 0] c11) (k11_2 C I σ))
noncomputable def B11_3 (C : Oracle) (I : Iter) (σ : List AObj) (self3 : KF) (x0 : Value) (x4 : Value) (x5 : Value) (s : S) : Option Out :=
(lenSl x0).bind fun v1 =>
(binq Go.Proofs.Try.prog .lss 3 x5 v1).bind fun v2 =>
(if gd true v2 then some (x5, s) else some (undef, s)).bind fun g3 =>
(if gd true v2 then (binq Go.Proofs.Try.prog .lss 3 g3.1 (Go.Value.int Go.IntKind.i64 4)).bind fun v4 => some (v4, g3.2) else some (undef, g3.2)).bind fun g5 =>
(pPick (some g5.1) (some (Go.Value.bool false)) v2).bind fun v6 =>
ifV v6 (
(idxSl 1 x0 x5).bind fun v7 =>
(ld1 g5.2 v7).bind fun v8 =>
(binq Go.Proofs.Try.prog .gtr 25 v8 (Go.Value.int Go.IntKind.u16 1)).bind fun v9 =>
ifV v9 (
(retL [(Go.Value.int Go.IntKind.u16 0), (Go.Value.bool false)]).bind fun v => some (gc σ.length v g5.2)) (
(idxSl 1 x0 x5).bind fun v10 =>
(ld1 g5.2 v10).bind fun v11 =>
(cvI .i64 v11).bind fun v12 =>
(binq Go.Proofs.Try.prog .add 3 x4 v12).bind fun v13 =>
(binq Go.Proofs.Try.prog .add 3 x5 (Go.Value.int Go.IntKind.i64 1)).bind fun v14 =>
self3 [(0, x0), (4, v13), (5, v14)] g5.2)) (
(lenSl x0).bind fun v15 =>
(binq Go.Proofs.Try.prog .lss 3 v15 (Go.Value.int Go.IntKind.i64 1)).bind fun v16 =>
(if gd false v16 then some (x0, g5.2) else some (undef, g5.2)).bind fun g17 =>
(if gd false v16 then (lenSl g17.1).bind fun v18 => some (v18, g17.2) else some (undef, g17.2)).bind fun g19 =>
(if gd false v16 then (binq Go.Proofs.Try.prog .gtr 3 g19.1 (Go.Value.int Go.IntKind.i64 3)).bind fun v20 => some (v20, g19.2) else some (undef, g19.2)).bind fun g21 =>
(pPick (some (Go.Value.bool true)) (some g21.1) v16).bind fun v22 =>
(if gd false v22 then some (x4, g21.2) else some (undef, g21.2)).bind fun g23 =>
(if gd false v22 then (binq Go.Proofs.Try.prog .mul 3 (Go.Value.int Go.IntKind.i64 2) g23.1).bind fun v24 => some (v24, g23.2) else some (undef, g23.2)).bind fun g25 =>
(if gd false v22 then some (x0, g25.2) else some (undef, g25.2)).bind fun g26 =>
(if gd false v22 then (lenSl g26.1).bind fun v27 => some (v27, g26.2) else some (undef, g26.2)).bind fun g28 =>
(if gd false v22 then (binq Go.Proofs.Try.prog .eql 3 g25.1 g28.1).bind fun v29 => some (v29, g28.2) else some (undef, g28.2)).bind fun g30 =>
(pPick (some (Go.Value.bool true)) (some g30.1) v22).bind fun v31 =>
ifV v31 (
(retL [(Go.Value.int Go.IntKind.u16 0), (Go.Value.bool false)]).bind fun v => some (gc σ.length v g30.2)) (
(binq Go.Proofs.Try.prog .mul 3 (Go.Value.int Go.IntKind.i64 2) x4).bind fun v32 =>
(lenSl x0).bind fun v33 =>
(binq Go.Proofs.Try.prog .gtr 3 v32 v33).bind fun v34 =>
ifV v34 (
(retL [(Go.Value.int Go.IntKind.u16 1), (Go.Value.bool true)]).bind fun v => some (gc σ.length v g30.2)) (
(retL [(Go.Value.int Go.IntKind.u16 0), (Go.Value.bool true)]).bind fun v => some (gc σ.length v g30.2))))
theorem S11_3_intro {σ : List AObj} {x0 x4 x5 : Value} {s : S} {r : Out} (h : B11_3 Cl iterL σ (S11_3 Cl iterL σ) x0 x4 x5 s = some r) : S11_3 Cl iterL σ [(0, x0), (4, x4), (5, x5)] s = some r := by
  have e : stepOf Go.Proofs.Try.prog Cl iterL (Hints 11) σ.length 48 (at_ [1, 1, 0, 1, 0, 0] c11) (k11_2 Cl iterL σ) (S11_3 Cl iterL σ) [(0, x0), (4, x4), (5, x5)] s = B11_3 Cl iterL σ (S11_3 Cl iterL σ) x0 x4 x5 s := by kernel_rfl
  exact loop_intro (e.trans h)
/-- triune/triuneref12.Majority -/
noncomputable def F11 (C : Oracle) (I : Iter) (σ : List AObj) (x0 : Value) : Option Out :=
S11_3 C I σ [(0, x0), (4, (Go.Value.int Go.IntKind.i64 0)), (5, (Go.Value.int Go.IntKind.i64 0))] (⟨σ, []⟩ : S)
theorem F11_eq (C : Oracle) (I : Iter) (σ : List AObj) (x0 : Value) : bodyOf Go.Proofs.Try.prog C I Hints 11 [x0] σ = F11 C I σ x0 := by kernel_rfl
theorem F11_call {σ : List AObj} {x0 : Value} {r : Out} (h : F11 Cl iterL σ x0 = some r) : Cl 11 [x0] σ = some r := call_intro (by kernel_rfl) ((F11_eq _ _ _ _).trans h)
noncomputable def c12 : Code := (Go.Proofs.Try.f12.body).getD .skip
/-- triune/vote.Vote -/
noncomputable def F12 (C : Oracle) (I : Iter) (σ : List AObj) (x0 : Value) (x1 : Value) : Option Out :=
(boxc (⟨σ, []⟩ : S) (Value.cells x0).toList).bind fun r1 =>
(padd 0 r1.1).bind fun v2 =>
(ld1 r1.2 v2).bind fun v3 =>
(callF C 19 [v3] r1.2).bind fun r4 =>
(fldV false 1 0 r4.1).bind fun v5 =>
(callV C v5 [x1] r4.2).bind fun r6 =>
(pExtract 0 r6.1).bind fun v7 =>
(pExtract 1 r6.1).bind fun v8 =>
(pUn Go.Proofs.Try.prog .not v8).bind fun v9 =>
ifV v9 (
(padd 4 r1.1).bind fun v10 =>
(ld1 r6.2 v10).bind fun v11 =>
(cvI .u16 v11).bind fun v12 =>
(retL [v12, (Go.Value.bool false)]).bind fun v => some (gc σ.length v r6.2)) (
(retL [v7, (Go.Value.bool true)]).bind fun v => some (gc σ.length v r6.2))
theorem F12_eq (C : Oracle) (I : Iter) (σ : List AObj) (x0 : Value) (x1 : Value) : bodyOf Go.Proofs.Try.prog C I Hints 12 [x0, x1] σ = F12 C I σ x0 x1 := by kernel_rfl
theorem F12_call {σ : List AObj} {x0 : Value} {x1 : Value} {r : Out} (h : F12 Cl iterL σ x0 x1 = some r) : Cl 12 [x0, x1] σ = some r := call_intro (by kernel_rfl) ((F12_eq _ _ _ _ _).trans h)
noncomputable def c13 : Code := (Go.Proofs.Try.f13.body).getD .skip
/-- triune/triuneref12.Vote -/
noncomputable def F13 (C : Oracle) (I : Iter) (σ : List AObj) (x0 : Value) (x1 : Value) : Option Out :=
(boxc (⟨σ, []⟩ : S) (Value.cells x0).toList).bind fun r1 =>
(callF C 11 [x1] r1.2).bind fun r2 =>
(pExtract 0 r2.1).bind fun v3 =>
(pExtract 1 r2.1).bind fun v4 =>
(padd 0 r1.1).bind fun v5 =>
(ld1 r2.2 v5).bind fun v6 =>
(binq Go.Proofs.Try.prog .leq 3 v6 (Go.Value.int Go.IntKind.i64 1)).bind fun v7 =>
let j14 : Value → Value → S → Option Out := fun y11 y12 s13 => (pUn Go.Proofs.Try.prog .not y12).bind fun v15 =>
  ifV v15 (
  (padd 4 r1.1).bind fun v16 =>
  (ld1 s13 v16).bind fun v17 =>
  (cvI .u16 v17).bind fun v18 =>
  (retL [v18, (Go.Value.bool false)]).bind fun v => some (gc σ.length v s13)) (
  (retL [y11, (Go.Value.bool true)]).bind fun v => some (gc σ.length v s13))
ifV v7 (
(callF C 9 [x1] r2.2).bind fun r8 =>
(pExtract 0 r8.1).bind fun v9 =>
(pExtract 1 r8.1).bind fun v10 =>
(j14 (v9) (v10) (r8.2))) (
(j14 (v3) (v4) (r2.2)))
theorem F13_eq (C : Oracle) (I : Iter) (σ : List AObj) (x0 : Value) (x1 : Value) : bodyOf Go.Proofs.Try.prog C I Hints 13 [x0, x1] σ = F13 C I σ x0 x1 := by kernel_rfl
theorem F13_call {σ : List AObj} {x0 : Value} {x1 : Value} {r : Out} (h : F13 Cl iterL σ x0 x1 = some r) : Cl 13 [x0, x1] σ = some r := call_intro (by kernel_rfl) ((F13_eq _ _ _ _ _).trans h)
noncomputable def c14 : Code := (Go.Proofs.Try.f14.body).getD .skip
/-- triune/vote.Apart -/
noncomputable def F14 (C : Oracle) (I : Iter) (σ : List AObj) (x0 : Value) (x1 : Value) (x2 : Value) : Option Out :=
(boxc (⟨σ, []⟩ : S) (Value.cells x0).toList).bind fun r1 =>
(pMM Go.Proofs.Try.prog true #[25, 25] 25 [x1, x2]).bind fun v2 =>
(pMM Go.Proofs.Try.prog false #[25, 25] 25 [x1, x2]).bind fun v3 =>
(binq Go.Proofs.Try.prog .sub 25 v2 v3).bind fun v4 =>
(cvI .i64 v4).bind fun v5 =>
(padd 3 r1.1).bind fun v6 =>
(ld1 r1.2 v6).bind fun v7 =>
(binq Go.Proofs.Try.prog .gtr 3 v5 v7).bind fun v8 =>
some (gc σ.length v8 r1.2)
theorem F14_eq (C : Oracle) (I : Iter) (σ : List AObj) (x0 : Value) (x1 : Value) (x2 : Value) : bodyOf Go.Proofs.Try.prog C I Hints 14 [x0, x1, x2] σ = F14 C I σ x0 x1 x2 := by kernel_rfl
theorem F14_call {σ : List AObj} {x0 : Value} {x1 : Value} {x2 : Value} {r : Out} (h : F14 Cl iterL σ x0 x1 x2 = some r) : Cl 14 [x0, x1, x2] σ = some r := call_intro (by kernel_rfl) ((F14_eq _ _ _ _ _ _).trans h)
noncomputable def c15 : Code := (Go.Proofs.Try.f15.body).getD .skip
/-- triune/triuneref12.Apart -/
noncomputable def F15 (C : Oracle) (I : Iter) (σ : List AObj) (x0 : Value) (x1 : Value) (x2 : Value) : Option Out :=
(boxc (⟨σ, []⟩ : S) (Value.cells x0).toList).bind fun r1 =>
(cvI .i64 x1).bind fun v2 =>
(cvI .i64 x2).bind fun v3 =>
(binq Go.Proofs.Try.prog .sub 3 v2 v3).bind fun v4 =>
(binq Go.Proofs.Try.prog .lss 3 v4 (Go.Value.int Go.IntKind.i64 0)).bind fun v5 =>
let j8 : Value → Option Out := fun y7 => (padd 3 r1.1).bind fun v9 =>
  (ld1 r1.2 v9).bind fun v10 =>
  (binq Go.Proofs.Try.prog .gtr 3 y7 v10).bind fun v11 =>
  some (gc σ.length v11 r1.2)
ifV v5 (
(pUn Go.Proofs.Try.prog .neg v4).bind fun v6 =>
(j8 (v6))) (
(j8 (v4)))
theorem F15_eq (C : Oracle) (I : Iter) (σ : List AObj) (x0 : Value) (x1 : Value) (x2 : Value) : bodyOf Go.Proofs.Try.prog C I Hints 15 [x0, x1, x2] σ = F15 C I σ x0 x1 x2 := by kernel_rfl
theorem F15_call {σ : List AObj} {x0 : Value} {x1 : Value} {x2 : Value} {r : Out} (h : F15 Cl iterL σ x0 x1 x2 = some r) : Cl 15 [x0, x1, x2] σ = some r := call_intro (by kernel_rfl) ((F15_eq _ _ _ _ _ _).trans h)
noncomputable def c16 : Code := (Go.Proofs.Try.f16.body).getD .skip
noncomputable def k16_0 (C : Oracle) (I : Iter) (σ : List AObj) : KC := kRet Go.Proofs.Try.prog Go.Proofs.Try.f16.results.toList σ.length
noncomputable def k16_1 (C : Oracle) (I : Iter) (σ : List AObj) : KC := kSeq (fun fr s => exec Go.Proofs.Try.prog C I (Hints 16) σ.length 114 (at_ [1, 1, 1] c16) fr s (k16_0 C I σ)) (k16_0 C I σ)
noncomputable def k16_2 (C : Oracle) (I : Iter) (σ : List AObj) : KC := kBlock 0 (k16_1 C I σ)
noncomputable def S16_4 (C : Oracle) (I : Iter) (σ : List AObj) : KF := I (stepOf Go.Proofs.Try.prog C I (Hints 16) σ.length 114 (at_ [1, 1, 0, 1, 0, 0] c16) (k16_2 C I σ))
noncomputable def k16_3 (C : Oracle) (I : Iter) (σ : List AObj) : KC := kSeq (fun fr s => exec Go.Proofs.Try.prog C I (Hints 16) σ.length 114 (at_ [1, 1, 1, 1, 1] c16) fr s (k16_0 C I σ)) (k16_0 C I σ)
noncomputable def k16_4 (C : Oracle) (I : Iter) (σ : List AObj) : KC := kBlock 2 (k16_3 C I σ)
noncomputable def S16_11 (C : Oracle) (I : Iter) (σ : List AObj) : KF := I (stepOf Go.Proofs.Try.prog C I (Hints 16) σ.length 114 (at_ [1, 1, 1, 1, 0, 1, 0, 0] c16) (k16_4 C I σ))
noncomputable def k16_5 (C : Oracle) (I : Iter) (σ : List AObj) : KC := kSeq (fun fr s => exec Go.Proofs.Try.prog C I (Hints 16) σ.length 114 (at_ [1, 1, 1, 1, 1, 1] c16) fr s (k16_0 C I σ)) (k16_0 C I σ)
noncomputable def k16_6 (C : Oracle) (I : Iter) (σ : List AObj) : KC := kBlock 4 (k16_5 C I σ)
noncomputable def S16_16 (C : Oracle) (I : Iter) (σ : List AObj) : KF := I (stepOf Go.Proofs.Try.prog C I (Hints 16) σ.length 114 (at_ [1, 1, 1, 1, 1, 0, 1, 0, 0] c16) (k16_6 C I σ))
noncomputable def k16_7 (C : Oracle) (I : Iter) (σ : List AObj) (self16 : KF) : KC := kLoop (Hints 16 16) (Hints 16 10016) self16 (k16_6 C I σ)
noncomputable def k16_8 (C : Oracle) (I : Iter) (σ : List AObj) (self16 : KF) : KC := kSeq (fun fr s => exec Go.Proofs.Try.prog C I (Hints 16) σ.length 114 (at_ [1, 1, 1, 1, 1, 0, 1, 0, 0, 1, 1] c16) fr s (k16_7 C I σ self16)) (k16_7 C I σ self16)
noncomputable def k16_9 (C : Oracle) (I : Iter) (σ : List AObj) (self16 : KF) : KC := kBlock 5 (k16_8 C I σ self16)
noncomputable def k16_10 (C : Oracle) (I : Iter) (σ : List AObj) (self16 : KF) : KC := kBlock 6 (k16_9 C I σ self16)
noncomputable def S16_19 (C : Oracle) (I : Iter) (σ : List AObj) (self16 : KF) : KF := I (stepOf Go.Proofs.Try.prog C I (Hints 16) σ.length 114 (at_ [1, 1, 1, 1, 1, 0, 1, 0, 0, 1, 0, 0, 1, 0, 0] c16) (k16_10 C I σ self16))
noncomputable def B16_19 (C : Oracle) (I : Iter) (σ : List AObj) (self16 : KF) (self19 : KF) (x1 : Value) (x5 : Value) (x6 : Value) (s : S) : Option Out :=
(binq Go.Proofs.Try.prog .lss 3 x6 x5).bind fun v79 =>
ifV v79 (
(padd 10 x1).bind fun v80 =>
(ld1 s v80).bind fun v81 =>
(idxSl 5 v81 x5).bind fun v82 =>
(ldn 5 s v82).bind fun v83 =>
(boxc s [.int .i64 0, .int .i64 0, .int .i64 0, .int .i64 0, .int .i64 0]).bind fun r84 =>
(stv 5 σ.length r84.2 r84.1 v83).bind fun s85 =>
(padd 10 x1).bind fun v86 =>
(ld1 s85 v86).bind fun v87 =>
(idxSl 5 v87 x6).bind fun v88 =>
(ldn 5 s85 v88).bind fun v89 =>
(boxc s85 [.int .i64 0, .int .i64 0, .int .i64 0, .int .i64 0, .int .i64 0]).bind fun r90 =>
(stv 5 σ.length r90.2 r90.1 v89).bind fun s91 =>
(padd 0 r84.1).bind fun v92 =>
(ld1 s91 v92).bind fun v93 =>
(padd 0 r90.1).bind fun v94 =>
(ld1 s91 v94).bind fun v95 =>
(binq Go.Proofs.Try.prog .eql 3 v93 v95).bind fun v96 =>
(if gd true v96 then (padd 1 r84.1).bind fun v97 => some (v97, s91) else some (undef, s91)).bind fun g98 =>
(if gd true v96 then (ld1 g98.2 g98.1).bind fun v99 => some (v99, g98.2) else some (undef, g98.2)).bind fun g100 =>
(if gd true v96 then (padd 1 r90.1).bind fun v101 => some (v101, g100.2) else some (undef, g100.2)).bind fun g102 =>
(if gd true v96 then (ld1 g102.2 g102.1).bind fun v103 => some (v103, g102.2) else some (undef, g102.2)).bind fun g104 =>
(if gd true v96 then (binq Go.Proofs.Try.prog .eql 3 g100.1 g104.1).bind fun v105 => some (v105, g104.2) else some (undef, g104.2)).bind fun g106 =>
(if gd true v96 then some (g106.1, g106.2) else some (undef, g106.2)).bind fun g107 =>
(if gd false g107.1 then (padd 2 r84.1).bind fun v108 => some (v108, g107.2) else some (undef, g107.2)).bind fun g109 =>
(if gd false g107.1 then (ld1 g109.2 g109.1).bind fun v110 => some (v110, g109.2) else some (undef, g109.2)).bind fun g111 =>
(if gd false g107.1 then (padd 2 r90.1).bind fun v112 => some (v112, g111.2) else some (undef, g111.2)).bind fun g113 =>
(if gd false g107.1 then (ld1 g113.2 g113.1).bind fun v114 => some (v114, g113.2) else some (undef, g113.2)).bind fun g115 =>
(if gd false g107.1 then (binq Go.Proofs.Try.prog .eql 3 g111.1 g115.1).bind fun v116 => some (v116, g115.2) else some (undef, g115.2)).bind fun g117 =>
(if gd true v96 then (pPick (some (Go.Value.bool true)) (some g117.1) g107.1).bind fun v118 => some (v118, g117.2) else some (undef, g117.2)).bind fun g119 =>
(pPick (some g119.1) (some (Go.Value.bool false)) v96).bind fun v120 =>
ifV v120 (
some (gc σ.length (Go.Value.int Go.IntKind.i64 9) g119.2)) (
(binq Go.Proofs.Try.prog .add 3 x6 (Go.Value.int Go.IntKind.i64 1)).bind fun v121 =>
self19 [(1, x1), (5, x5), (6, v121)] g119.2)) (
(binq Go.Proofs.Try.prog .add 3 x5 (Go.Value.int Go.IntKind.i64 1)).bind fun v122 =>
self16 [(1, x1), (5, v122)] s)
theorem S16_19_intro {σ : List AObj} {self16 : KF} {x1 x5 x6 : Value} {s : S} {r : Out} (h : B16_19 Cl iterL σ self16 (S16_19 Cl iterL σ self16) x1 x5 x6 s = some r) : S16_19 Cl iterL σ self16 [(1, x1), (5, x5), (6, x6)] s = some r := by
  have e : stepOf Go.Proofs.Try.prog Cl iterL (Hints 16) σ.length 114 (at_ [1, 1, 1, 1, 1, 0, 1, 0, 0, 1, 0, 0, 1, 0, 0] c16) (k16_10 Cl iterL σ self16) (S16_19 Cl iterL σ self16) [(1, x1), (5, x5), (6, x6)] s = B16_19 Cl iterL σ self16 (S16_19 Cl iterL σ self16) x1 x5 x6 s := by kernel_rfl
  exact loop_intro (e.trans h)
noncomputable def B16_16 (C : Oracle) (I : Iter) (σ : List AObj) (self16 : KF) (x1 : Value) (x5 : Value) (s : S) : Option Out :=
(padd 10 x1).bind fun v75 =>
(ld1 s v75).bind fun v76 =>
(lenSl v76).bind fun v77 =>
(binq Go.Proofs.Try.prog .lss 3 x5 v77).bind fun v78 =>
ifV v78 (
S16_19 C I σ self16 [(1, x1), (5, x5), (6, (Go.Value.int Go.IntKind.i64 0))] s) (
some (gc σ.length (Go.Value.int Go.IntKind.i64 0) s))
theorem S16_16_intro {σ : List AObj} {x1 x5 : Value} {s : S} {r : Out} (h : B16_16 Cl iterL σ (S16_16 Cl iterL σ) x1 x5 s = some r) : S16_16 Cl iterL σ [(1, x1), (5, x5)] s = some r := by
  have e : stepOf Go.Proofs.Try.prog Cl iterL (Hints 16) σ.length 114 (at_ [1, 1, 1, 1, 1, 0, 1, 0, 0] c16) (k16_6 Cl iterL σ) (S16_16 Cl iterL σ) [(1, x1), (5, x5)] s = B16_16 Cl iterL σ (S16_16 Cl iterL σ) x1 x5 s := by kernel_rfl
  exact loop_intro (e.trans h)
noncomputable def B16_11 (C : Oracle) (I : Iter) (σ : List AObj) (self11 : KF) (x1 : Value) (x4 : Value) (s : S) : Option Out :=
(padd 10 x1).bind fun v64 =>
(ld1 s v64).bind fun v65 =>
(lenSl v65).bind fun v66 =>
(binq Go.Proofs.Try.prog .lss 3 x4 v66).bind fun v67 =>
ifV v67 (
(padd 10 x1).bind fun v68 =>
(ld1 s v68).bind fun v69 =>
(idxSl 5 v69 x4).bind fun v70 =>
(ldn 5 s v70).bind fun v71 =>
(callF C 21 [v71] s).bind fun r72 =>
(pUn Go.Proofs.Try.prog .not r72.1).bind fun v73 =>
ifV v73 (
some (gc σ.length (Go.Value.int Go.IntKind.i64 1) r72.2)) (
(binq Go.Proofs.Try.prog .add 3 x4 (Go.Value.int Go.IntKind.i64 1)).bind fun v74 =>
self11 [(1, x1), (4, v74)] r72.2)) (
S16_16 C I σ [(1, x1), (5, (Go.Value.int Go.IntKind.i64 0))] s)
theorem S16_11_intro {σ : List AObj} {x1 x4 : Value} {s : S} {r : Out} (h : B16_11 Cl iterL σ (S16_11 Cl iterL σ) x1 x4 s = some r) : S16_11 Cl iterL σ [(1, x1), (4, x4)] s = some r := by
  have e : stepOf Go.Proofs.Try.prog Cl iterL (Hints 16) σ.length 114 (at_ [1, 1, 1, 1, 0, 1, 0, 0] c16) (k16_4 Cl iterL σ) (S16_11 Cl iterL σ) [(1, x1), (4, x4)] s = B16_11 Cl iterL σ (S16_11 Cl iterL σ) x1 x4 s := by kernel_rfl
  exact loop_intro (e.trans h)
noncomputable def B16_4 (C : Oracle) (I : Iter) (σ : List AObj) (self4 : KF) (x1 : Value) (x3 : Value) (s : S) : Option Out :=
(binq Go.Proofs.Try.prog .lss 3 x3 (Go.Value.int Go.IntKind.i64 3)).bind fun v7 =>
ifV v7 (
(padd 0 x1).bind fun v8 =>
(idxArr 3 1 v8 x3).bind fun v9 =>
(ld1 s v9).bind fun v10 =>
(cvI .i64 v10).bind fun v11 =>
(callF C 20 [v11, (Go.Value.int Go.IntKind.i64 1), (Go.Value.int Go.IntKind.i64 247)] s).bind fun r12 =>
(pUn Go.Proofs.Try.prog .not r12.1).bind fun v13 =>
ifV v13 (
some (gc σ.length (Go.Value.int Go.IntKind.i64 1) r12.2)) (
(binq Go.Proofs.Try.prog .add 3 x3 (Go.Value.int Go.IntKind.i64 1)).bind fun v14 =>
self4 [(1, x1), (3, v14)] r12.2)) (
(padd 3 x1).bind fun v15 =>
(ld1 s v15).bind fun v16 =>
(callF C 20 [v16, (Go.Value.int Go.IntKind.i64 1), (Go.Value.int Go.IntKind.i64 20)] s).bind fun r17 =>
(pUn Go.Proofs.Try.prog .not r17.1).bind fun v18 =>
(if gd false v18 then (padd 4 x1).bind fun v19 => some (v19, r17.2) else some (undef, r17.2)).bind fun g20 =>
(if gd false v18 then (ld1 g20.2 g20.1).bind fun v21 => some (v21, g20.2) else some (undef, g20.2)).bind fun g22 =>
(if gd false v18 then (callF C 20 [g22.1, (Go.Value.int Go.IntKind.i64 1), (Go.Value.int Go.IntKind.i64 1000)] g22.2).bind fun r23 => some (r23.1, r23.2) else some (undef, g22.2)).bind fun g24 =>
(if gd false v18 then (pUn Go.Proofs.Try.prog .not g24.1).bind fun v25 => some (v25, g24.2) else some (undef, g24.2)).bind fun g26 =>
(pPick (some (Go.Value.bool true)) (some g26.1) v18).bind fun v27 =>
(if gd false v27 then (padd 5 x1).bind fun v28 => some (v28, g26.2) else some (undef, g26.2)).bind fun g29 =>
(if gd false v27 then (ld1 g29.2 g29.1).bind fun v30 => some (v30, g29.2) else some (undef, g29.2)).bind fun g31 =>
(if gd false v27 then (callF C 20 [g31.1, (Go.Value.int Go.IntKind.i64 1), (Go.Value.int Go.IntKind.i64 5)] g31.2).bind fun r32 => some (r32.1, r32.2) else some (undef, g31.2)).bind fun g33 =>
(if gd false v27 then (pUn Go.Proofs.Try.prog .not g33.1).bind fun v34 => some (v34, g33.2) else some (undef, g33.2)).bind fun g35 =>
(pPick (some (Go.Value.bool true)) (some g35.1) v27).bind fun v36 =>
(if gd false v36 then (padd 6 x1).bind fun v37 => some (v37, g35.2) else some (undef, g35.2)).bind fun g38 =>
(if gd false v36 then (ld1 g38.2 g38.1).bind fun v39 => some (v39, g38.2) else some (undef, g38.2)).bind fun g40 =>
(if gd false v36 then (callF C 20 [g40.1, (Go.Value.int Go.IntKind.i64 1), (Go.Value.int Go.IntKind.i64 20)] g40.2).bind fun r41 => some (r41.1, r41.2) else some (undef, g40.2)).bind fun g42 =>
(if gd false v36 then (pUn Go.Proofs.Try.prog .not g42.1).bind fun v43 => some (v43, g42.2) else some (undef, g42.2)).bind fun g44 =>
(pPick (some (Go.Value.bool true)) (some g44.1) v36).bind fun v45 =>
(if gd false v45 then (padd 7 x1).bind fun v46 => some (v46, g44.2) else some (undef, g44.2)).bind fun g47 =>
(if gd false v45 then (ld1 g47.2 g47.1).bind fun v48 => some (v48, g47.2) else some (undef, g47.2)).bind fun g49 =>
(if gd false v45 then (callF C 20 [g49.1, (Go.Value.int Go.IntKind.i64 1), (Go.Value.int Go.IntKind.i64 8)] g49.2).bind fun r50 => some (r50.1, r50.2) else some (undef, g49.2)).bind fun g51 =>
(if gd false v45 then (pUn Go.Proofs.Try.prog .not g51.1).bind fun v52 => some (v52, g51.2) else some (undef, g51.2)).bind fun g53 =>
(pPick (some (Go.Value.bool true)) (some g53.1) v45).bind fun v54 =>
(if gd false v54 then (padd 8 x1).bind fun v55 => some (v55, g53.2) else some (undef, g53.2)).bind fun g56 =>
(if gd false v54 then (ld1 g56.2 g56.1).bind fun v57 => some (v57, g56.2) else some (undef, g56.2)).bind fun g58 =>
(if gd false v54 then (callF C 20 [g58.1, (Go.Value.int Go.IntKind.i64 1), (Go.Value.int Go.IntKind.i64 65535)] g58.2).bind fun r59 => some (r59.1, r59.2) else some (undef, g58.2)).bind fun g60 =>
(if gd false v54 then (pUn Go.Proofs.Try.prog .not g60.1).bind fun v61 => some (v61, g60.2) else some (undef, g60.2)).bind fun g62 =>
(pPick (some (Go.Value.bool true)) (some g62.1) v54).bind fun v63 =>
ifV v63 (
some (gc σ.length (Go.Value.int Go.IntKind.i64 1) g62.2)) (
S16_11 C I σ [(1, x1), (4, (Go.Value.int Go.IntKind.i64 0))] g62.2))
theorem S16_4_intro {σ : List AObj} {x1 x3 : Value} {s : S} {r : Out} (h : B16_4 Cl iterL σ (S16_4 Cl iterL σ) x1 x3 s = some r) : S16_4 Cl iterL σ [(1, x1), (3, x3)] s = some r := by
  have e : stepOf Go.Proofs.Try.prog Cl iterL (Hints 16) σ.length 114 (at_ [1, 1, 0, 1, 0, 0] c16) (k16_2 Cl iterL σ) (S16_4 Cl iterL σ) [(1, x1), (3, x3)] s = B16_4 Cl iterL σ (S16_4 Cl iterL σ) x1 x3 s := by kernel_rfl
  exact loop_intro (e.trans h)
/-- triune/triuneref09.Check -/
noncomputable def F16 (C : Oracle) (I : Iter) (σ : List AObj) (x0 : Value) : Option Out :=
(boxc (⟨σ, []⟩ : S) (Value.cells x0).toList).bind fun r1 =>
(padd 10 r1.1).bind fun v2 =>
(ld1 r1.2 v2).bind fun v3 =>
(lenSl v3).bind fun v4 =>
(callF C 20 [v4, (Go.Value.int Go.IntKind.i64 1), (Go.Value.int Go.IntKind.i64 48)] r1.2).bind fun r5 =>
(pUn Go.Proofs.Try.prog .not r5.1).bind fun v6 =>
ifV v6 (
some (gc σ.length (Go.Value.int Go.IntKind.i64 4) r5.2)) (
S16_4 C I σ [(1, r1.1), (3, (Go.Value.int Go.IntKind.i64 0))] r5.2)
theorem F16_eq (C : Oracle) (I : Iter) (σ : List AObj) (x0 : Value) : bodyOf Go.Proofs.Try.prog C I Hints 16 [x0] σ = F16 C I σ x0 := by kernel_rfl
theorem F16_call {σ : List AObj} {x0 : Value} {r : Out} (h : F16 Cl iterL σ x0 = some r) : Cl 16 [x0] σ = some r := call_intro (by kernel_rfl) ((F16_eq _ _ _ _).trans h)
noncomputable def c17 : Code := (Go.Proofs.Try.f17.body).getD .skip
/-- slices.Sorted[uint16] -/
noncomputable def F17 (C : Oracle) (I : Iter) (σ : List AObj) (x0 : Value) : Option Out :=
(callF C 22 [x0] (⟨σ, []⟩ : S)).bind fun r1 =>
(callF C 23 [r1.1] r1.2).bind fun r2 =>
some (gc σ.length r1.1 r2.2)
theorem F17_eq (C : Oracle) (I : Iter) (σ : List AObj) (x0 : Value) : bodyOf Go.Proofs.Try.prog C I Hints 17 [x0] σ = F17 C I σ x0 := by kernel_rfl
theorem F17_call {σ : List AObj} {x0 : Value} {r : Out} (h : F17 Cl iterL σ x0 = some r) : Cl 17 [x0] σ = some r := call_intro (by kernel_rfl) ((F17_eq _ _ _ _).trans h)
noncomputable def c18 : Code := (Go.Proofs.Try.f18.body).getD .skip
/-- slices.Values[[]uint16,uint16] -/
noncomputable def F18 (C : Oracle) (I : Iter) (σ : List AObj) (x0 : Value) : Option Out :=
(boxc (⟨σ, []⟩ : S) (Value.cells x0).toList).bind fun r1 =>
(mkFn (Go.Fn.func 24) [] [r1.1]).bind fun v2 =>
some (gc σ.length v2 r1.2)
theorem F18_eq (C : Oracle) (I : Iter) (σ : List AObj) (x0 : Value) : bodyOf Go.Proofs.Try.prog C I Hints 18 [x0] σ = F18 C I σ x0 := by kernel_rfl
theorem F18_call {σ : List AObj} {x0 : Value} {r : Out} (h : F18 Cl iterL σ x0 = some r) : Cl 18 [x0] σ = some r := call_intro (by kernel_rfl) ((F18_eq _ _ _ _).trans h)
noncomputable def c19 : Code := (Go.Proofs.Try.f19.body).getD .skip
/-- triune/vote.of -/
noncomputable def F19 (C : Oracle) (I : Iter) (σ : List AObj) (x0 : Value) : Option Out :=
(boxc (⟨σ, []⟩ : S) [.nilFunc]).bind fun r1 =>
(binq Go.Proofs.Try.prog .eql 3 x0 (Go.Value.int Go.IntKind.i64 0)).bind fun v2 =>
(if gd false v2 then some (x0, r1.2) else some (undef, r1.2)).bind fun g3 =>
(if gd false v2 then (binq Go.Proofs.Try.prog .eql 3 g3.1 (Go.Value.int Go.IntKind.i64 1)).bind fun v4 => some (v4, g3.2) else some (undef, g3.2)).bind fun g5 =>
(pPick (some (Go.Value.bool true)) (some g5.1) v2).bind fun v6 =>
ifV v6 (
(bldV (.agg #[.nilFunc]) (fun i => (#[(0, 1)] : Array (Nat × Nat))[i]?) [(0, (.func (.func 8) #[] #[]))]).bind fun v7 =>
(stv 1 σ.length g5.2 r1.1 v7).bind fun s8 =>
(((ldn 1 s8 r1.1).bind fun v9 => some [v9]).bind retL).bind fun v => some (gc σ.length v s8)) (
(bldV (.agg #[.nilFunc]) (fun i => (#[(0, 1)] : Array (Nat × Nat))[i]?) [(0, (.func (.func 10) #[] #[]))]).bind fun v10 =>
(stv 1 σ.length g5.2 r1.1 v10).bind fun s11 =>
(((ldn 1 s11 r1.1).bind fun v12 => some [v12]).bind retL).bind fun v => some (gc σ.length v s11))
theorem F19_eq (C : Oracle) (I : Iter) (σ : List AObj) (x0 : Value) : bodyOf Go.Proofs.Try.prog C I Hints 19 [x0] σ = F19 C I σ x0 := by kernel_rfl
theorem F19_call {σ : List AObj} {x0 : Value} {r : Out} (h : F19 Cl iterL σ x0 = some r) : Cl 19 [x0] σ = some r := call_intro (by kernel_rfl) ((F19_eq _ _ _ _).trans h)
noncomputable def c20 : Code := (Go.Proofs.Try.f20.body).getD .skip
/-- triune/triuneref09.in -/
noncomputable def F20 (C : Oracle) (I : Iter) (σ : List AObj) (x0 : Value) (x1 : Value) (x2 : Value) : Option Out :=
(binq Go.Proofs.Try.prog .geq 3 x0 x1).bind fun v1 =>
(if gd true v1 then some (x0, (⟨σ, []⟩ : S)) else some (undef, (⟨σ, []⟩ : S))).bind fun g2 =>
(if gd true v1 then some (x2, g2.2) else some (undef, g2.2)).bind fun g3 =>
(if gd true v1 then (binq Go.Proofs.Try.prog .leq 3 g2.1 g3.1).bind fun v4 => some (v4, g3.2) else some (undef, g3.2)).bind fun g5 =>
(pPick (some g5.1) (some (Go.Value.bool false)) v1).bind fun v6 =>
some (gc σ.length v6 g5.2)
theorem F20_eq (C : Oracle) (I : Iter) (σ : List AObj) (x0 : Value) (x1 : Value) (x2 : Value) : bodyOf Go.Proofs.Try.prog C I Hints 20 [x0, x1, x2] σ = F20 C I σ x0 x1 x2 := by kernel_rfl
theorem F20_call {σ : List AObj} {x0 : Value} {x1 : Value} {x2 : Value} {r : Out} (h : F20 Cl iterL σ x0 x1 x2 = some r) : Cl 20 [x0, x1, x2] σ = some r := call_intro (by kernel_rfl) ((F20_eq _ _ _ _ _ _).trans h)
noncomputable def c21 : Code := (Go.Proofs.Try.f21.body).getD .skip
/-- triune/triuneref09.may -/
noncomputable def F21 (C : Oracle) (I : Iter) (σ : List AObj) (x0 : Value) : Option Out :=
(boxc (⟨σ, []⟩ : S) (Value.cells x0).toList).bind fun r1 =>
(padd 0 r1.1).bind fun v2 =>
(ld1 r1.2 v2).bind fun v3 =>
(callF C 20 [v3, (Go.Value.int Go.IntKind.i64 0), (Go.Value.int Go.IntKind.i64 3)] r1.2).bind fun r4 =>
(pUn Go.Proofs.Try.prog .not r4.1).bind fun v5 =>
(if gd false v5 then (padd 1 r1.1).bind fun v6 => some (v6, r4.2) else some (undef, r4.2)).bind fun g7 =>
(if gd false v5 then (ld1 g7.2 g7.1).bind fun v8 => some (v8, g7.2) else some (undef, g7.2)).bind fun g9 =>
(if gd false v5 then (callF C 20 [g9.1, (Go.Value.int Go.IntKind.i64 0), (Go.Value.int Go.IntKind.i64 65535)] g9.2).bind fun r10 => some (r10.1, r10.2) else some (undef, g9.2)).bind fun g11 =>
(if gd false v5 then (pUn Go.Proofs.Try.prog .not g11.1).bind fun v12 => some (v12, g11.2) else some (undef, g11.2)).bind fun g13 =>
(pPick (some (Go.Value.bool true)) (some g13.1) v5).bind fun v14 =>
(if gd false v14 then (padd 2 r1.1).bind fun v15 => some (v15, g13.2) else some (undef, g13.2)).bind fun g16 =>
(if gd false v14 then (ld1 g16.2 g16.1).bind fun v17 => some (v17, g16.2) else some (undef, g16.2)).bind fun g18 =>
(if gd false v14 then (callF C 20 [g18.1, (Go.Value.int Go.IntKind.i64 0), (Go.Value.int Go.IntKind.i64 899)] g18.2).bind fun r19 => some (r19.1, r19.2) else some (undef, g18.2)).bind fun g20 =>
(if gd false v14 then (pUn Go.Proofs.Try.prog .not g20.1).bind fun v21 => some (v21, g20.2) else some (undef, g20.2)).bind fun g22 =>
(pPick (some (Go.Value.bool true)) (some g22.1) v14).bind fun v23 =>
ifV v23 (
some (gc σ.length (Go.Value.bool false) g22.2)) (
(padd 0 r1.1).bind fun v24 =>
(ld1 g22.2 v24).bind fun v25 =>
(binq Go.Proofs.Try.prog .leq 3 v25 (Go.Value.int Go.IntKind.i64 1)).bind fun v26 =>
ifV v26 (
(padd 3 r1.1).bind fun v27 =>
(ld1 g22.2 v27).bind fun v28 =>
(callF C 20 [v28, (Go.Value.int Go.IntKind.i64 0), (Go.Value.int Go.IntKind.i64 65535)] g22.2).bind fun r29 =>
(if gd true r29.1 then (padd 4 r1.1).bind fun v30 => some (v30, r29.2) else some (undef, r29.2)).bind fun g31 =>
(if gd true r29.1 then (ld1 g31.2 g31.1).bind fun v32 => some (v32, g31.2) else some (undef, g31.2)).bind fun g33 =>
(if gd true r29.1 then (callF C 20 [g33.1, (Go.Value.int Go.IntKind.i64 0), (Go.Value.int Go.IntKind.i64 65535)] g33.2).bind fun r34 => some (r34.1, r34.2) else some (undef, g33.2)).bind fun g35 =>
(pPick (some g35.1) (some (Go.Value.bool false)) r29.1).bind fun v36 =>
some (gc σ.length v36 g35.2)) (
(padd 3 r1.1).bind fun v37 =>
(ld1 g22.2 v37).bind fun v38 =>
(binq Go.Proofs.Try.prog .eql 3 v38 (Go.Value.int Go.IntKind.i64 0)).bind fun v39 =>
(if gd true v39 then (padd 4 r1.1).bind fun v40 => some (v40, g22.2) else some (undef, g22.2)).bind fun g41 =>
(if gd true v39 then (ld1 g41.2 g41.1).bind fun v42 => some (v42, g41.2) else some (undef, g41.2)).bind fun g43 =>
(if gd true v39 then (callF C 20 [g43.1, (Go.Value.int Go.IntKind.i64 0), (Go.Value.int Go.IntKind.i64 1)] g43.2).bind fun r44 => some (r44.1, r44.2) else some (undef, g43.2)).bind fun g45 =>
(pPick (some g45.1) (some (Go.Value.bool false)) v39).bind fun v46 =>
some (gc σ.length v46 g45.2)))
theorem F21_eq (C : Oracle) (I : Iter) (σ : List AObj) (x0 : Value) : bodyOf Go.Proofs.Try.prog C I Hints 21 [x0] σ = F21 C I σ x0 := by kernel_rfl
theorem F21_call {σ : List AObj} {x0 : Value} {r : Out} (h : F21 Cl iterL σ x0 = some r) : Cl 21 [x0] σ = some r := call_intro (by kernel_rfl) ((F21_eq _ _ _ _).trans h)
noncomputable def c22 : Code := (Go.Proofs.Try.f22.body).getD .skip
/-- slices.Collect[uint16] -/
noncomputable def F22 (C : Oracle) (I : Iter) (σ : List AObj) (x0 : Value) : Option Out :=
(callF C 25 [(Go.Value.slice none 0 0), x0] (⟨σ, []⟩ : S)).bind fun r1 =>
some (gc σ.length r1.1 r1.2)
theorem F22_eq (C : Oracle) (I : Iter) (σ : List AObj) (x0 : Value) : bodyOf Go.Proofs.Try.prog C I Hints 22 [x0] σ = F22 C I σ x0 := by kernel_rfl
theorem F22_call {σ : List AObj} {x0 : Value} {r : Out} (h : F22 Cl iterL σ x0 = some r) : Cl 22 [x0] σ = some r := call_intro (by kernel_rfl) ((F22_eq _ _ _ _).trans h)
noncomputable def c23 : Code := (Go.Proofs.Try.f23.body).getD .skip
/-- slices.Sort[[]uint16,uint16] -/
noncomputable def F23 (C : Oracle) (I : Iter) (σ : List AObj) (x0 : Value) : Option Out :=
(lenSl x0).bind fun v1 =>
(cvI .u64 v1).bind fun v2 =>
(callF C 27 [v2] (⟨σ, []⟩ : S)).bind fun r3 =>
(callF C 26 [x0, (Go.Value.int Go.IntKind.i64 0), v1, r3.1] r3.2).bind fun r4 =>
(retL []).bind fun v => some (gc σ.length v r4.2)
theorem F23_eq (C : Oracle) (I : Iter) (σ : List AObj) (x0 : Value) : bodyOf Go.Proofs.Try.prog C I Hints 23 [x0] σ = F23 C I σ x0 := by kernel_rfl
theorem F23_call {σ : List AObj} {x0 : Value} {r : Out} (h : F23 Cl iterL σ x0 = some r) : Cl 23 [x0] σ = some r := call_intro (by kernel_rfl) ((F23_eq _ _ _ _).trans h)
noncomputable def c26 : Code := (Go.Proofs.Try.f26.body).getD .skip
noncomputable def k26_0 (C : Oracle) (I : Iter) (σ : List AObj) : KC := kRet Go.Proofs.Try.prog Go.Proofs.Try.f26.results.toList σ.length
noncomputable def k26_1 (C : Oracle) (I : Iter) (σ : List AObj) : KC := kBlock 0 (k26_0 C I σ)
noncomputable def S26_2 (C : Oracle) (I : Iter) (σ : List AObj) : KF := I (stepOf Go.Proofs.Try.prog C I (Hints 26) σ.length 134 (at_ [1, 1, 0, 0] c26) (k26_1 C I σ))
noncomputable def B26_2 (C : Oracle) (I : Iter) (σ : List AObj) (self2 : KF) (x0 : Value) (x1 : Value) (x2 : Value) (x3 : Value) (x8 : Value) (x9 : Value) (s : S) : Option Out :=
(binq Go.Proofs.Try.prog .sub 3 x2 x1).bind fun v1 =>
(binq Go.Proofs.Try.prog .leq 3 v1 (Go.Value.int Go.IntKind.i64 12)).bind fun v2 =>
ifV v2 (
(callF C 28 [x0, x1, x2] s).bind fun r3 =>
(retL []).bind fun v => some (gc σ.length v r3.2)) (
(binq Go.Proofs.Try.prog .eql 3 x3 (Go.Value.int Go.IntKind.i64 0)).bind fun v4 =>
ifV v4 (
(callF C 29 [x0, x1, x2] s).bind fun r5 =>
(retL []).bind fun v => some (gc σ.length v r5.2)) (
(pUn Go.Proofs.Try.prog .not x8).bind fun v6 =>
let j11 : Value → S → Option Out := fun y9 s10 => (callF C 31 [x0, x1, x2] s10).bind fun r12 =>
  (pExtract 0 r12.1).bind fun v13 =>
  (pExtract 1 r12.1).bind fun v14 =>
  (binq Go.Proofs.Try.prog .eql 61 v14 (Go.Value.int Go.IntKind.i64 2)).bind fun v15 =>
  let j23 : Value → Value → S → Option Out := fun y20 y21 s22 => (if gd true x8 then some (x9, s22) else some (undef, s22)).bind fun g24 =>
    (pPick (some g24.1) (some (Go.Value.bool false)) x8).bind fun v25 =>
    (if gd true v25 then some (y21, g24.2) else some (undef, g24.2)).bind fun g26 =>
    (if gd true v25 then (binq Go.Proofs.Try.prog .eql 61 g26.1 (Go.Value.int Go.IntKind.i64 1)).bind fun v27 => some (v27, g26.2) else some (undef, g26.2)).bind fun g28 =>
    (pPick (some g28.1) (some (Go.Value.bool false)) v25).bind fun v29 =>
    let j32 : S → Option Out := fun s31 => (binq Go.Proofs.Try.prog .gtr 3 x1 (Go.Value.int Go.IntKind.i64 0)).bind fun v33 =>
      (if gd true v33 then some (x0, s31) else some (undef, s31)).bind fun g34 =>
      (if gd true v33 then some (x1, g34.2) else some (undef, g34.2)).bind fun g35 =>
      (if gd true v33 then (binq Go.Proofs.Try.prog .sub 3 g35.1 (Go.Value.int Go.IntKind.i64 1)).bind fun v36 => some (v36, g35.2) else some (undef, g35.2)).bind fun g37 =>
      (if gd true v33 then (idxSl 1 g34.1 g37.1).bind fun v38 => some (v38, g37.2) else some (undef, g37.2)).bind fun g39 =>
      (if gd true v33 then (ld1 g39.2 g39.1).bind fun v40 => some (v40, g39.2) else some (undef, g39.2)).bind fun g41 =>
      (if gd true v33 then some (x0, g41.2) else some (undef, g41.2)).bind fun g42 =>
      (if gd true v33 then some (y20, g42.2) else some (undef, g42.2)).bind fun g43 =>
      (if gd true v33 then (idxSl 1 g42.1 g43.1).bind fun v44 => some (v44, g43.2) else some (undef, g43.2)).bind fun g45 =>
      (if gd true v33 then (ld1 g45.2 g45.1).bind fun v46 => some (v46, g45.2) else some (undef, g45.2)).bind fun g47 =>
      (if gd true v33 then (callF C 34 [g41.1, g47.1] g47.2).bind fun r48 => some (r48.1, r48.2) else some (undef, g47.2)).bind fun g49 =>
      (if gd true v33 then (pUn Go.Proofs.Try.prog .not g49.1).bind fun v50 => some (v50, g49.2) else some (undef, g49.2)).bind fun g51 =>
      (pPick (some g51.1) (some (Go.Value.bool false)) v33).bind fun v52 =>
      ifV v52 (
      (callF C 35 [x0, x1, x2, y20] g51.2).bind fun r53 =>
      self2 [(0, x0), (1, r53.1), (2, x2), (3, y9), (8, x8), (9, x9)] r53.2) (
      (callF C 36 [x0, x1, x2, y20] g51.2).bind fun r54 =>
      (pExtract 0 r54.1).bind fun v55 =>
      (pExtract 1 r54.1).bind fun v56 =>
      (binq Go.Proofs.Try.prog .sub 3 v55 x1).bind fun v57 =>
      (binq Go.Proofs.Try.prog .sub 3 x2 v55).bind fun v58 =>
      (binq Go.Proofs.Try.prog .quo 3 v1 (Go.Value.int Go.IntKind.i64 8)).bind fun v59 =>
      (binq Go.Proofs.Try.prog .lss 3 v57 v58).bind fun v60 =>
      let j71 : Value → Value → Value → S → Option Out := fun y67 y68 y69 s70 => self2 [(0, x0), (1, y67), (2, y68), (3, y9), (8, y69), (9, v56)] s70
      ifV v60 (
      (binq Go.Proofs.Try.prog .geq 3 v57 v59).bind fun v61 =>
      (callF C 26 [x0, x1, v55, y9] r54.2).bind fun r62 =>
      (binq Go.Proofs.Try.prog .add 3 v55 (Go.Value.int Go.IntKind.i64 1)).bind fun v63 =>
      (j71 (v63) (x2) (v61) (r62.2))) (
      (binq Go.Proofs.Try.prog .geq 3 v58 v59).bind fun v64 =>
      (binq Go.Proofs.Try.prog .add 3 v55 (Go.Value.int Go.IntKind.i64 1)).bind fun v65 =>
      (callF C 26 [x0, v65, x2, y9] r54.2).bind fun r66 =>
      (j71 (x1) (v55) (v64) (r66.2))))
    ifV v29 (
    (callF C 33 [x0, x1, x2] g28.2).bind fun r30 =>
    ifV r30.1 (
    (retL []).bind fun v => some (gc σ.length v r30.2)) (
    (j32 (r30.2)))) (
    (j32 (g28.2)))
  ifV v15 (
  (callF C 32 [x0, x1, x2] r12.2).bind fun r16 =>
  (binq Go.Proofs.Try.prog .sub 3 x2 (Go.Value.int Go.IntKind.i64 1)).bind fun v17 =>
  (binq Go.Proofs.Try.prog .sub 3 v13 x1).bind fun v18 =>
  (binq Go.Proofs.Try.prog .sub 3 v17 v18).bind fun v19 =>
  (j23 (v19) ((Go.Value.int Go.IntKind.i64 1)) (r16.2))) (
  (j23 (v13) (v14) (r12.2)))
ifV v6 (
(callF C 30 [x0, x1, x2] s).bind fun r7 =>
(binq Go.Proofs.Try.prog .sub 3 x3 (Go.Value.int Go.IntKind.i64 1)).bind fun v8 =>
(j11 (v8) (r7.2))) (
(j11 (x3) (s)))))
theorem S26_2_intro {σ : List AObj} {x0 x1 x2 x3 x8 x9 : Value} {s : S} {r : Out} (h : B26_2 Cl iterL σ (S26_2 Cl iterL σ) x0 x1 x2 x3 x8 x9 s = some r) : S26_2 Cl iterL σ [(0, x0), (1, x1), (2, x2), (3, x3), (8, x8), (9, x9)] s = some r := by
  have e : stepOf Go.Proofs.Try.prog Cl iterL (Hints 26) σ.length 134 (at_ [1, 1, 0, 0] c26) (k26_1 Cl iterL σ) (S26_2 Cl iterL σ) [(0, x0), (1, x1), (2, x2), (3, x3), (8, x8), (9, x9)] s = B26_2 Cl iterL σ (S26_2 Cl iterL σ) x0 x1 x2 x3 x8 x9 s := by kernel_rfl
  exact loop_intro (e.trans h)
/-- slices.pdqsortOrdered[uint16] -/
noncomputable def F26 (C : Oracle) (I : Iter) (σ : List AObj) (x0 : Value) (x1 : Value) (x2 : Value) (x3 : Value) : Option Out :=
S26_2 C I σ [(0, x0), (1, x1), (2, x2), (3, x3), (8, (Go.Value.bool true)), (9, (Go.Value.bool true))] (⟨σ, []⟩ : S)
theorem F26_eq (C : Oracle) (I : Iter) (σ : List AObj) (x0 : Value) (x1 : Value) (x2 : Value) (x3 : Value) : bodyOf Go.Proofs.Try.prog C I Hints 26 [x0, x1, x2, x3] σ = F26 C I σ x0 x1 x2 x3 := by kernel_rfl
theorem F26_call {σ : List AObj} {x0 : Value} {x1 : Value} {x2 : Value} {x3 : Value} {r : Out} (h : F26 Cl iterL σ x0 x1 x2 x3 = some r) : Cl 26 [x0, x1, x2, x3] σ = some r := call_intro (by kernel_rfl) ((F26_eq _ _ _ _ _ _ _).trans h)
noncomputable def c27 : Code := (Go.Proofs.Try.f27.body).getD .skip
/-- math/bits.Len -/
noncomputable def F27 (C : Oracle) (I : Iter) (σ : List AObj) (x0 : Value) : Option Out :=
ifV (Go.Value.bool false) (
(cvI .u32 x0).bind fun v1 =>
(callF C 37 [v1] (⟨σ, []⟩ : S)).bind fun r2 =>
some (gc σ.length r2.1 r2.2)) (
(callF C 38 [x0] (⟨σ, []⟩ : S)).bind fun r3 =>
some (gc σ.length r3.1 r3.2))
theorem F27_eq (C : Oracle) (I : Iter) (σ : List AObj) (x0 : Value) : bodyOf Go.Proofs.Try.prog C I Hints 27 [x0] σ = F27 C I σ x0 := by kernel_rfl
theorem F27_call {σ : List AObj} {x0 : Value} {r : Out} (h : F27 Cl iterL σ x0 = some r) : Cl 27 [x0] σ = some r := call_intro (by kernel_rfl) ((F27_eq _ _ _ _).trans h)
noncomputable def c28 : Code := (Go.Proofs.Try.f28.body).getD .skip
noncomputable def k28_0 (C : Oracle) (I : Iter) (σ : List AObj) : KC := kRet Go.Proofs.Try.prog Go.Proofs.Try.f28.results.toList σ.length
noncomputable def k28_1 (C : Oracle) (I : Iter) (σ : List AObj) : KC := kBlock 0 (k28_0 C I σ)
noncomputable def S28_1 (C : Oracle) (I : Iter) (σ : List AObj) : KF := I (stepOf Go.Proofs.Try.prog C I (Hints 28) σ.length 49 (at_ [1, 0, 0] c28) (k28_1 C I σ))
noncomputable def k28_2 (C : Oracle) (I : Iter) (σ : List AObj) (self1 : KF) : KC := kLoop (Hints 28 1) (Hints 28 10001) self1 (k28_1 C I σ)
noncomputable def k28_3 (C : Oracle) (I : Iter) (σ : List AObj) (self1 : KF) : KC := kSeq (fun fr s => exec Go.Proofs.Try.prog C I (Hints 28) σ.length 49 (at_ [1, 0, 0, 1, 1] c28) fr s (k28_2 C I σ self1)) (k28_2 C I σ self1)
noncomputable def k28_4 (C : Oracle) (I : Iter) (σ : List AObj) (self1 : KF) : KC := kBlock 1 (k28_3 C I σ self1)
noncomputable def k28_5 (C : Oracle) (I : Iter) (σ : List AObj) (self1 : KF) : KC := kBlock 2 (k28_4 C I σ self1)
noncomputable def S28_4 (C : Oracle) (I : Iter) (σ : List AObj) (self1 : KF) : KF := I (stepOf Go.Proofs.Try.prog C I (Hints 28) σ.length 49 (at_ [1, 0, 0, 1, 0, 0, 1, 0, 0] c28) (k28_5 C I σ self1))
noncomputable def B28_4 (C : Oracle) (I : Iter) (σ : List AObj) (self1 : KF) (self4 : KF) (x0 : Value) (x1 : Value) (x2 : Value) (x6 : Value) (x7 : Value) (s : S) : Option Out :=
(binq Go.Proofs.Try.prog .gtr 3 x7 x1).bind fun v3 =>
(if gd true v3 then some (x0, s) else some (undef, s)).bind fun g4 =>
(if gd true v3 then some (x7, g4.2) else some (undef, g4.2)).bind fun g5 =>
(if gd true v3 then (idxSl 1 g4.1 g5.1).bind fun v6 => some (v6, g5.2) else some (undef, g5.2)).bind fun g7 =>
(if gd true v3 then (ld1 g7.2 g7.1).bind fun v8 => some (v8, g7.2) else some (undef, g7.2)).bind fun g9 =>
(if gd true v3 then some (x0, g9.2) else some (undef, g9.2)).bind fun g10 =>
(if gd true v3 then some (x7, g10.2) else some (undef, g10.2)).bind fun g11 =>
(if gd true v3 then (binq Go.Proofs.Try.prog .sub 3 g11.1 (Go.Value.int Go.IntKind.i64 1)).bind fun v12 => some (v12, g11.2) else some (undef, g11.2)).bind fun g13 =>
(if gd true v3 then (idxSl 1 g10.1 g13.1).bind fun v14 => some (v14, g13.2) else some (undef, g13.2)).bind fun g15 =>
(if gd true v3 then (ld1 g15.2 g15.1).bind fun v16 => some (v16, g15.2) else some (undef, g15.2)).bind fun g17 =>
(if gd true v3 then (callF C 34 [g9.1, g17.1] g17.2).bind fun r18 => some (r18.1, r18.2) else some (undef, g17.2)).bind fun g19 =>
(pPick (some g19.1) (some (Go.Value.bool false)) v3).bind fun v20 =>
ifV v20 (
(binq Go.Proofs.Try.prog .sub 3 x7 (Go.Value.int Go.IntKind.i64 1)).bind fun v21 =>
(binq Go.Proofs.Try.prog .sub 3 x7 (Go.Value.int Go.IntKind.i64 1)).bind fun v22 =>
(idxSl 1 x0 v22).bind fun v23 =>
(ld1 g19.2 v23).bind fun v24 =>
(idxSl 1 x0 x7).bind fun v25 =>
(ld1 g19.2 v25).bind fun v26 =>
(idxSl 1 x0 x7).bind fun v27 =>
(stv 1 σ.length g19.2 v27 v24).bind fun s28 =>
(idxSl 1 x0 v21).bind fun v29 =>
(stv 1 σ.length s28 v29 v26).bind fun s30 =>
(binq Go.Proofs.Try.prog .sub 3 x7 (Go.Value.int Go.IntKind.i64 1)).bind fun v31 =>
self4 [(0, x0), (1, x1), (2, x2), (6, x6), (7, v31)] s30) (
(binq Go.Proofs.Try.prog .add 3 x6 (Go.Value.int Go.IntKind.i64 1)).bind fun v32 =>
self1 [(0, x0), (1, x1), (2, x2), (6, v32)] g19.2)
theorem S28_4_intro {σ : List AObj} {self1 : KF} {x0 x1 x2 x6 x7 : Value} {s : S} {r : Out} (h : B28_4 Cl iterL σ self1 (S28_4 Cl iterL σ self1) x0 x1 x2 x6 x7 s = some r) : S28_4 Cl iterL σ self1 [(0, x0), (1, x1), (2, x2), (6, x6), (7, x7)] s = some r := by
  have e : stepOf Go.Proofs.Try.prog Cl iterL (Hints 28) σ.length 49 (at_ [1, 0, 0, 1, 0, 0, 1, 0, 0] c28) (k28_5 Cl iterL σ self1) (S28_4 Cl iterL σ self1) [(0, x0), (1, x1), (2, x2), (6, x6), (7, x7)] s = B28_4 Cl iterL σ self1 (S28_4 Cl iterL σ self1) x0 x1 x2 x6 x7 s := by kernel_rfl
  exact loop_intro (e.trans h)
noncomputable def B28_1 (C : Oracle) (I : Iter) (σ : List AObj) (self1 : KF) (x0 : Value) (x1 : Value) (x2 : Value) (x6 : Value) (s : S) : Option Out :=
(binq Go.Proofs.Try.prog .lss 3 x6 x2).bind fun v2 =>
ifV v2 (
S28_4 C I σ self1 [(0, x0), (1, x1), (2, x2), (6, x6), (7, x6)] s) (
(retL []).bind fun v => some (gc σ.length v s))
theorem S28_1_intro {σ : List AObj} {x0 x1 x2 x6 : Value} {s : S} {r : Out} (h : B28_1 Cl iterL σ (S28_1 Cl iterL σ) x0 x1 x2 x6 s = some r) : S28_1 Cl iterL σ [(0, x0), (1, x1), (2, x2), (6, x6)] s = some r := by
  have e : stepOf Go.Proofs.Try.prog Cl iterL (Hints 28) σ.length 49 (at_ [1, 0, 0] c28) (k28_1 Cl iterL σ) (S28_1 Cl iterL σ) [(0, x0), (1, x1), (2, x2), (6, x6)] s = B28_1 Cl iterL σ (S28_1 Cl iterL σ) x0 x1 x2 x6 s := by kernel_rfl
  exact loop_intro (e.trans h)
/-- slices.insertionSortOrdered[uint16] -/
noncomputable def F28 (C : Oracle) (I : Iter) (σ : List AObj) (x0 : Value) (x1 : Value) (x2 : Value) : Option Out :=
(binq Go.Proofs.Try.prog .add 3 x1 (Go.Value.int Go.IntKind.i64 1)).bind fun v1 =>
S28_1 C I σ [(0, x0), (1, x1), (2, x2), (6, v1)] (⟨σ, []⟩ : S)
theorem F28_eq (C : Oracle) (I : Iter) (σ : List AObj) (x0 : Value) (x1 : Value) (x2 : Value) : bodyOf Go.Proofs.Try.prog C I Hints 28 [x0, x1, x2] σ = F28 C I σ x0 x1 x2 := by kernel_rfl
theorem F28_call {σ : List AObj} {x0 : Value} {x1 : Value} {x2 : Value} {r : Out} (h : F28 Cl iterL σ x0 x1 x2 = some r) : Cl 28 [x0, x1, x2] σ = some r := call_intro (by kernel_rfl) ((F28_eq _ _ _ _ _ _).trans h)
noncomputable def c34 : Code := (Go.Proofs.Try.f34.body).getD .skip
/-- cmp.Less[uint16] -/
noncomputable def F34 (C : Oracle) (I : Iter) (σ : List AObj) (x0 : Value) (x1 : Value) : Option Out :=
(callF C 44 [x0] (⟨σ, []⟩ : S)).bind fun r1 =>
(if gd true r1.1 then some (x1, r1.2) else some (undef, r1.2)).bind fun g2 =>
(if gd true r1.1 then (callF C 44 [g2.1] g2.2).bind fun r3 => some (r3.1, r3.2) else some (undef, g2.2)).bind fun g4 =>
(if gd true r1.1 then (pUn Go.Proofs.Try.prog .not g4.1).bind fun v5 => some (v5, g4.2) else some (undef, g4.2)).bind fun g6 =>
(pPick (some g6.1) (some (Go.Value.bool false)) r1.1).bind fun v7 =>
(if gd false v7 then some (x0, g6.2) else some (undef, g6.2)).bind fun g8 =>
(if gd false v7 then some (x1, g8.2) else some (undef, g8.2)).bind fun g9 =>
(if gd false v7 then (binq Go.Proofs.Try.prog .lss 25 g8.1 g9.1).bind fun v10 => some (v10, g9.2) else some (undef, g9.2)).bind fun g11 =>
(pPick (some (Go.Value.bool true)) (some g11.1) v7).bind fun v12 =>
some (gc σ.length v12 g11.2)
theorem F34_eq (C : Oracle) (I : Iter) (σ : List AObj) (x0 : Value) (x1 : Value) : bodyOf Go.Proofs.Try.prog C I Hints 34 [x0, x1] σ = F34 C I σ x0 x1 := by kernel_rfl
theorem F34_call {σ : List AObj} {x0 : Value} {x1 : Value} {r : Out} (h : F34 Cl iterL σ x0 x1 = some r) : Cl 34 [x0, x1] σ = some r := call_intro (by kernel_rfl) ((F34_eq _ _ _ _ _).trans h)
noncomputable def c37 : Code := (Go.Proofs.Try.f37.body).getD .skip
/-- math/bits.Len32 -/
noncomputable def F37 (C : Oracle) (I : Iter) (σ : List AObj) (x0 : Value) : Option Out :=
(binq Go.Proofs.Try.prog .geq 70 x0 (Go.Value.int Go.IntKind.u32 65536)).bind fun v1 =>
let j5 : Value → Value → Option Out := fun y3 y4 => (binq Go.Proofs.Try.prog .geq 70 y3 (Go.Value.int Go.IntKind.u32 256)).bind fun v6 =>
  let j11 : Value → Value → Option Out := fun y9 y10 => (cvI .u8 y9).bind fun v12 =>
    (pIndex Go.Proofs.Try.prog 9 (Go.Value.string (⟨#[0, 1, 2, 2, 3, 3, 3, 3, 4, 4, 4, 4, 4, 4, 4, 4, 5, 5, 5, 5, 5, 5, 5, 5, 5, 5, 5, 5, 5, 5, 5, 5, 6, 6, 6, 6, 6, 6, 6, 6, 6, 6, 6, 6, 6, 6, 6, 6, 6, 6, 6, 6, 6, 6, 6, 6, 6, 6, 6, 6, 6, 6, 6, 6, 7, 7, 7, 7, 7, 7, 7, 7, 7, 7, 7, 7, 7, 7, 7, 7, 7, 7, 7, 7, 7, 7, 7, 7, 7, 7, 7, 7, 7, 7, 7, 7, 7, 7, 7, 7, 7, 7, 7, 7, 7, 7, 7, 7, 7, 7, 7, 7, 7, 7, 7, 7, 7, 7, 7, 7, 7, 7, 7, 7, 7, 7, 7, 7, 8, 8, 8, 8, 8, 8, 8, 8, 8, 8, 8, 8, 8, 8, 8, 8, 8, 8, 8, 8, 8, 8, 8, 8, 8, 8, 8, 8, 8, 8, 8, 8, 8, 8, 8, 8, 8, 8, 8, 8, 8, 8, 8, 8, 8, 8, 8, 8, 8, 8, 8, 8, 8, 8, 8, 8, 8, 8, 8, 8, 8, 8, 8, 8, 8, 8, 8, 8, 8, 8, 8, 8, 8, 8, 8, 8, 8, 8, 8, 8, 8, 8, 8, 8, 8, 8, 8, 8, 8, 8, 8, 8, 8, 8, 8, 8, 8, 8, 8, 8, 8, 8, 8, 8, 8, 8, 8, 8, 8, 8, 8, 8, 8, 8, 8, 8, 8, 8, 8, 8, 8, 8, 8, 8, 8, 8, 8, 8]⟩ : ByteArray)) v12).bind fun v13 =>
    (cvI .i64 v13).bind fun v14 =>
    (binq Go.Proofs.Try.prog .add 3 y10 v14).bind fun v15 =>
    some (gc σ.length v15 (⟨σ, []⟩ : S))
  ifV v6 (
  (binq Go.Proofs.Try.prog .shr 70 y3 (Go.Value.int Go.IntKind.u64 8)).bind fun v7 =>
  (binq Go.Proofs.Try.prog .add 3 y4 (Go.Value.int Go.IntKind.i64 8)).bind fun v8 =>
  (j11 (v7) (v8))) (
  (j11 (y3) (y4)))
ifV v1 (
(binq Go.Proofs.Try.prog .shr 70 x0 (Go.Value.int Go.IntKind.u64 16)).bind fun v2 =>
(j5 (v2) ((Go.Value.int Go.IntKind.i64 16)))) (
(j5 (x0) ((Go.Value.int Go.IntKind.i64 0))))
theorem F37_eq (C : Oracle) (I : Iter) (σ : List AObj) (x0 : Value) : bodyOf Go.Proofs.Try.prog C I Hints 37 [x0] σ = F37 C I σ x0 := by kernel_rfl
theorem F37_call {σ : List AObj} {x0 : Value} {r : Out} (h : F37 Cl iterL σ x0 = some r) : Cl 37 [x0] σ = some r := call_intro (by kernel_rfl) ((F37_eq _ _ _ _).trans h)
noncomputable def c38 : Code := (Go.Proofs.Try.f38.body).getD .skip
/-- math/bits.Len64 -/
noncomputable def F38 (C : Oracle) (I : Iter) (σ : List AObj) (x0 : Value) : Option Out :=
(binq Go.Proofs.Try.prog .geq 72 x0 (Go.Value.int Go.IntKind.u64 4294967296)).bind fun v1 =>
let j5 : Value → Value → Option Out := fun y3 y4 => (binq Go.Proofs.Try.prog .geq 72 y3 (Go.Value.int Go.IntKind.u64 65536)).bind fun v6 =>
  let j11 : Value → Value → Option Out := fun y9 y10 => (binq Go.Proofs.Try.prog .geq 72 y9 (Go.Value.int Go.IntKind.u64 256)).bind fun v12 =>
    let j17 : Value → Value → Option Out := fun y15 y16 => (cvI .u8 y15).bind fun v18 =>
      (pIndex Go.Proofs.Try.prog 9 (Go.Value.string (⟨#[0, 1, 2, 2, 3, 3, 3, 3, 4, 4, 4, 4, 4, 4, 4, 4, 5, 5, 5, 5, 5, 5, 5, 5, 5, 5, 5, 5, 5, 5, 5, 5, 6, 6, 6, 6, 6, 6, 6, 6, 6, 6, 6, 6, 6, 6, 6, 6, 6, 6, 6, 6, 6, 6, 6, 6, 6, 6, 6, 6, 6, 6, 6, 6, 7, 7, 7, 7, 7, 7, 7, 7, 7, 7, 7, 7, 7, 7, 7, 7, 7, 7, 7, 7, 7, 7, 7, 7, 7, 7, 7, 7, 7, 7, 7, 7, 7, 7, 7, 7, 7, 7, 7, 7, 7, 7, 7, 7, 7, 7, 7, 7, 7, 7, 7, 7, 7, 7, 7, 7, 7, 7, 7, 7, 7, 7, 7, 7, 8, 8, 8, 8, 8, 8, 8, 8, 8, 8, 8, 8, 8, 8, 8, 8, 8, 8, 8, 8, 8, 8, 8, 8, 8, 8, 8, 8, 8, 8, 8, 8, 8, 8, 8, 8, 8, 8, 8, 8, 8, 8, 8, 8, 8, 8, 8, 8, 8, 8, 8, 8, 8, 8, 8, 8, 8, 8, 8, 8, 8, 8, 8, 8, 8, 8, 8, 8, 8, 8, 8, 8, 8, 8, 8, 8, 8, 8, 8, 8, 8, 8, 8, 8, 8, 8, 8, 8, 8, 8, 8, 8, 8, 8, 8, 8, 8, 8, 8, 8, 8, 8, 8, 8, 8, 8, 8, 8, 8, 8, 8, 8, 8, 8, 8, 8, 8, 8, 8, 8, 8, 8, 8, 8, 8, 8, 8, 8]⟩ : ByteArray)) v18).bind fun v19 =>
      (cvI .i64 v19).bind fun v20 =>
      (binq Go.Proofs.Try.prog .add 3 y16 v20).bind fun v21 =>
      some (gc σ.length v21 (⟨σ, []⟩ : S))
    ifV v12 (
    (binq Go.Proofs.Try.prog .shr 72 y9 (Go.Value.int Go.IntKind.u64 8)).bind fun v13 =>
    (binq Go.Proofs.Try.prog .add 3 y10 (Go.Value.int Go.IntKind.i64 8)).bind fun v14 =>
    (j17 (v13) (v14))) (
    (j17 (y9) (y10)))
  ifV v6 (
  (binq Go.Proofs.Try.prog .shr 72 y3 (Go.Value.int Go.IntKind.u64 16)).bind fun v7 =>
  (binq Go.Proofs.Try.prog .add 3 y4 (Go.Value.int Go.IntKind.i64 16)).bind fun v8 =>
  (j11 (v7) (v8))) (
  (j11 (y3) (y4)))
ifV v1 (
(binq Go.Proofs.Try.prog .shr 72 x0 (Go.Value.int Go.IntKind.u64 32)).bind fun v2 =>
(j5 (v2) ((Go.Value.int Go.IntKind.i64 32)))) (
(j5 (x0) ((Go.Value.int Go.IntKind.i64 0))))
theorem F38_eq (C : Oracle) (I : Iter) (σ : List AObj) (x0 : Value) : bodyOf Go.Proofs.Try.prog C I Hints 38 [x0] σ = F38 C I σ x0 := by kernel_rfl
theorem F38_call {σ : List AObj} {x0 : Value} {r : Out} (h : F38 Cl iterL σ x0 = some r) : Cl 38 [x0] σ = some r := call_intro (by kernel_rfl) ((F38_eq _ _ _ _).trans h)
noncomputable def c44 : Code := (Go.Proofs.Try.f44.body).getD .skip
/-- cmp.isNaN[uint16] -/
noncomputable def F44 (C : Oracle) (I : Iter) (σ : List AObj) (x0 : Value) : Option Out :=
(binq Go.Proofs.Try.prog .neq 25 x0 x0).bind fun v1 =>
some (gc σ.length v1 (⟨σ, []⟩ : S))
theorem F44_eq (C : Oracle) (I : Iter) (σ : List AObj) (x0 : Value) : bodyOf Go.Proofs.Try.prog C I Hints 44 [x0] σ = F44 C I σ x0 := by kernel_rfl
theorem F44_call {σ : List AObj} {x0 : Value} {r : Out} (h : F44 Cl iterL σ x0 = some r) : Cl 44 [x0] σ = some r := call_intro (by kernel_rfl) ((F44_eq _ _ _ _).trans h)
end Go.Proofs.Ytaelaaimbkpmdaa.Hoas
