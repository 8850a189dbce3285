/-
  The Go functions of the seat, printed by program as functions of the machine of values, each with its equality to the machine.
-/
import Derived.Test.YtkpamaplmjlagaaProg
import Derived.Test.YtkpamaplmjlagaaVStand
import Derived.KernelRfl
namespace Go.Proofs.Ytkpamaplmjlagaa.Hoas
open Go Go.Ab Go.Vm
set_option maxRecDepth 100000
set_option linter.unusedVariables false
abbrev id_cmp_Less_uint16 : FuncId := 171
abbrev id_cmp_isNaN_uint16 : FuncId := 190
abbrev id_math_bits_Len : FuncId := 142
abbrev id_math_bits_Len32 : FuncId := 174
abbrev id_math_bits_Len64 : FuncId := 175
abbrev id_slices_AppendSeq_uint16 : FuncId := 140
abbrev id_slices_Collect_uint16 : FuncId := 118
abbrev id_slices_Sort_uint16 : FuncId := 119
abbrev id_slices_Sorted_uint16 : FuncId := 69
abbrev id_slices_Values_uint16 : FuncId := 70
abbrev id_slices_Values_uint16_1 : FuncId := 120
abbrev id_slices_breakPatternsOrdered_uint16 : FuncId := 167
abbrev id_slices_choosePivotOrdered_uint16 : FuncId := 168
abbrev id_slices_heapSortOrdered_uint16 : FuncId := 166
abbrev id_slices_insertionSortOrdered_uint16 : FuncId := 165
abbrev id_slices_partialInsertionSortOrdered_uint16 : FuncId := 170
abbrev id_slices_partitionEqualOrdered_uint16 : FuncId := 172
abbrev id_slices_partitionOrdered_uint16 : FuncId := 173
abbrev id_slices_pdqsortOrdered_uint16 : FuncId := 141
abbrev id_slices_reverseRangeOrdered_uint16 : FuncId := 169
abbrev id_triunelaw10_May : FuncId := 12
abbrev id_triunelaw12_VoteTells : FuncId := 4
abbrev id_triunelaw12_VoteTurned : FuncId := 5
abbrev id_triunelaw12_awake : FuncId := 21
abbrev id_triuneref09_Check : FuncId := 56
abbrev id_triuneref09_in : FuncId := 113
abbrev id_triuneref09_may : FuncId := 114
abbrev id_triuneref12_Apart : FuncId := 29
abbrev id_triuneref12_Majority : FuncId := 25
abbrev id_triuneref12_Median : FuncId := 23
abbrev id_triuneref12_Vote : FuncId := 27
abbrev id_vote_Apart : FuncId := 28
abbrev id_vote_Majority : FuncId := 24
abbrev id_vote_Median : FuncId := 22
abbrev id_vote_Vote : FuncId := 26
abbrev id_vote_of : FuncId := 71
def hintTable : List (Nat × Nat × List Nat) := [(113, 60001, [14]), (114, 60001, [12, 18]), (114, 60004, [29]), (114, 60005, [37]), (56, 4, [1, 3]), (56, 10004, [1, 2]), (56, 60008, [34, 40, 46, 52, 58]), (56, 11, [1, 4]), (56, 10011, [1, 2]), (56, 16, [1, 5]), (56, 10016, [2]), (56, 19, [1, 5, 6]), (56, 10019, [1, 2, 5]), (56, 60023, [113]), (12, 60001, [12]), (24, 3, [0, 4, 7, 8, 9]), (24, 10003, [0, 2, 3, 4]), (24, 60009, [31]), (71, 60001, [8]), (25, 3, [0, 4, 5]), (25, 10003, [0, 2, 3, 4]), (25, 60003, [13]), (25, 60008, [35, 42]), (23, 20004, [0, 1, 2, 3, 4, 5, 6, 7, 8, 9, 10, 11, 12]), (23, 8, [0, 4]), (23, 10008, [2, 3]), (23, 13, [0, 4, 5, 6, 7]), (23, 10013, [0, 4, 5, 6]), (23, 20015, [0, 1, 2, 3, 4, 5, 6, 7, 8]), (23, 20017, [0, 1, 2, 3, 4, 5, 6, 7, 8]), (23, 60019, [66]), (22, 20005, [0, 1, 2, 3, 4, 5, 6, 7, 8, 9, 10, 11, 12, 13, 14, 15, 16, 17]), (69, 40000, [2, 3, 5, 8]), (69, 30001, [2]), (69, 30003, [0, 1]), (118, 70000, [0]), (118, 40000, [2, 4]), (118, 30001, [2]), (141, 2, [0, 1, 2, 3, 8, 9]), (141, 10002, []), (141, 60015, [64, 68]), (141, 20017, [0, 1, 2, 3, 4, 5, 6, 7, 8, 9, 10, 11, 12, 13, 14]), (141, 60017, [87]), (165, 1, [0, 1, 2, 6]), (165, 10001, []), (165, 4, [0, 1, 2, 6, 7]), (165, 10004, [0, 1, 2, 6]), (165, 20004, [0, 1, 2, 3, 4, 5, 6, 7, 8, 9, 10, 11, 12, 13, 14]), (165, 60004, [30]), (165, 20006, [0, 1, 2, 3, 4, 5, 6, 7, 8, 9, 10, 11, 12, 13, 14, 15, 16, 17]), (171, 60001, [11, 16]), (21, 60006, [40, 44, 47, 51, 54, 58, 62, 66, 70, 75]), (4, 60003, [31]), (4, 20011, [0, 1, 2, 3, 4, 5, 6, 7, 8, 9, 10, 11, 12, 13, 14, 15, 16, 17, 18, 19, 20, 21, 22, 23, 24, 25, 26, 27, 28, 29, 30, 31, 32, 33, 34, 35, 36, 38, 39, 40, 41, 42, 37, 43, 44, 45, 46]), (4, 60011, [70, 75, 80, 85, 90, 95, 110]), (5, 11, [2, 5, 7, 8, 10, 11, 12, 13]), (5, 10011, [2, 4, 5, 7, 8]), (5, 20013, [0, 1, 2, 3, 4, 5, 6, 7, 8, 9, 10]), (5, 60014, [85]), (5, 20018, [0, 1, 2, 3, 4, 5, 6, 7, 8, 9, 10, 11, 12, 13, 14, 15, 16, 17, 18, 19, 20, 21, 23, 24, 25, 22, 26, 27, 28, 29]), (5, 60018, [107, 112, 119, 130])]
def Hints (f r : Nat) : List Nat := ((hintTable.find? fun x => x.1 == f && x.2.1 == r).map (·.2.2)).getD []
def Xs : FuncId → Option (List VV → List VObj → Option VOut) := fun f => if f = 140 then some (appendXV id_slices_Values_uint16_1) else none
noncomputable def Cl : VOracle := callLV Go.Proofs.Try.prog Xs Hints
noncomputable def c_triuneref09_in : Code := (Go.Proofs.Try.f113.body).getD .skip
/-- triune/triuneref09.in -/
noncomputable def F_triuneref09_in (C : VOracle) (I : VIter) (σ : List VObj) (x0 : VV) (x1 : VV) (x2 : VV) : Option VOut :=
(binqV Go.Proofs.Try.prog .geq 3 x0 x1).bind fun v1 =>
(brB v1 (
(binqV Go.Proofs.Try.prog .leq 3 x0 x2).bind fun v2 =>
some ([v2], (⟨σ, [], []⟩ : VS))) (
some ([(VV.p (Go.Value.bool false))], (⟨σ, [], []⟩ : VS)))).bind fun g3 =>
some (gcV false σ.length (g3.1.getD 0 undefV) g3.2)
theorem F_triuneref09_in_eq (C : VOracle) (I : VIter) (σ : List VObj) (x0 : VV) (x1 : VV) (x2 : VV) : bodyV Go.Proofs.Try.prog C I Hints id_triuneref09_in [x0, x1, x2] σ = F_triuneref09_in C I σ x0 x1 x2 := by kernel_rfl
theorem call_triuneref09_in {σ : List VObj} {x0 : VV} {x1 : VV} {x2 : VV} {r : VOut} (h : F_triuneref09_in Cl iterLV σ x0 x1 x2 = some r) : Cl id_triuneref09_in [x0, x1, x2] σ = some r := callV_intro (by kernel_rfl) ((F_triuneref09_in_eq _ _ _ _ _ _).trans h)
noncomputable def c_triuneref09_may : Code := (Go.Proofs.Try.f114.body).getD .skip
/-- triune/triuneref09.may -/
noncomputable def F_triuneref09_may (C : VOracle) (I : VIter) (σ : List VObj) (x0 : VV) : Option VOut :=
(boxV (⟨σ, [], []⟩ : VS) (cellsV x0)).bind fun r1 =>
(fldA false 1 0 r1.1).bind fun v2 =>
(ld1V r1.2 v2).bind fun v3 =>
(callFV C σ.length id_triuneref09_in [v3, (VV.p (Go.Value.int Go.IntKind.i64 0)), (VV.p (Go.Value.int Go.IntKind.i64 3))] r1.2).bind fun r4 =>
(pUnV Go.Proofs.Try.prog .not (cls r4.1)).bind fun v5 =>
(brB v5 (
some ([(VV.p (Go.Value.bool true))], r4.2.1)) (
(fldA false 1 1 r1.1).bind fun v6 =>
(ld1V r4.2.1 v6).bind fun v7 =>
(callFV C σ.length id_triuneref09_in [v7, (VV.p (Go.Value.int Go.IntKind.i64 0)), (VV.p (Go.Value.int Go.IntKind.i64 65535))] r4.2.1).bind fun r8 =>
(pUnV Go.Proofs.Try.prog .not (cls r8.1)).bind fun v9 =>
some ([v9], r8.2.1))).bind fun g10 =>
(brB (g10.1.getD 0 undefV) (
some ([(VV.p (Go.Value.bool true))], g10.2)) (
(fldA false 1 2 r1.1).bind fun v11 =>
(ld1V g10.2 v11).bind fun v12 =>
(callFV C σ.length id_triuneref09_in [v12, (VV.p (Go.Value.int Go.IntKind.i64 0)), (VV.p (Go.Value.int Go.IntKind.i64 899))] g10.2).bind fun r13 =>
(pUnV Go.Proofs.Try.prog .not (cls r13.1)).bind fun v14 =>
some ([v14], r13.2.1))).bind fun g15 =>
ifVV (g15.1.getD 0 undefV) (
some (gcV false σ.length (VV.p (Go.Value.bool false)) g15.2)) (
(fldA false 1 0 r1.1).bind fun v16 =>
(ld1V g15.2 v16).bind fun v17 =>
(binqV Go.Proofs.Try.prog .leq 3 v17 (VV.p (Go.Value.int Go.IntKind.i64 1))).bind fun v18 =>
ifVV v18 (
(fldA false 1 3 r1.1).bind fun v19 =>
(ld1V g15.2 v19).bind fun v20 =>
(callFV C σ.length id_triuneref09_in [v20, (VV.p (Go.Value.int Go.IntKind.i64 0)), (VV.p (Go.Value.int Go.IntKind.i64 65535))] g15.2).bind fun r21 =>
(brB (cls r21.1) (
(fldA false 1 4 r1.1).bind fun v22 =>
(ld1V r21.2.1 v22).bind fun v23 =>
(callFV C σ.length id_triuneref09_in [v23, (VV.p (Go.Value.int Go.IntKind.i64 0)), (VV.p (Go.Value.int Go.IntKind.i64 65535))] r21.2.1).bind fun r24 =>
some ([(cls r24.1)], r24.2.1)) (
some ([(VV.p (Go.Value.bool false))], r21.2.1))).bind fun g25 =>
some (gcV false σ.length (g25.1.getD 0 undefV) g25.2)) (
(fldA false 1 3 r1.1).bind fun v26 =>
(ld1V g15.2 v26).bind fun v27 =>
(binqV Go.Proofs.Try.prog .eql 3 v27 (VV.p (Go.Value.int Go.IntKind.i64 0))).bind fun v28 =>
(brB v28 (
(fldA false 1 4 r1.1).bind fun v29 =>
(ld1V g15.2 v29).bind fun v30 =>
(callFV C σ.length id_triuneref09_in [v30, (VV.p (Go.Value.int Go.IntKind.i64 0)), (VV.p (Go.Value.int Go.IntKind.i64 1))] g15.2).bind fun r31 =>
some ([(cls r31.1)], r31.2.1)) (
some ([(VV.p (Go.Value.bool false))], g15.2))).bind fun g32 =>
some (gcV false σ.length (g32.1.getD 0 undefV) g32.2)))
theorem F_triuneref09_may_eq (C : VOracle) (I : VIter) (σ : List VObj) (x0 : VV) : bodyV Go.Proofs.Try.prog C I Hints id_triuneref09_may [x0] σ = F_triuneref09_may C I σ x0 := by kernel_rfl
theorem call_triuneref09_may {σ : List VObj} {x0 : VV} {r : VOut} (h : F_triuneref09_may Cl iterLV σ x0 = some r) : Cl id_triuneref09_may [x0] σ = some r := callV_intro (by kernel_rfl) ((F_triuneref09_may_eq _ _ _ _).trans h)
noncomputable def c_triuneref09_Check : Code := (Go.Proofs.Try.f56.body).getD .skip
noncomputable def k_triuneref09_Check_0 (C : VOracle) (I : VIter) (σ : List VObj) : VKC := kRetV Go.Proofs.Try.prog (Hints id_triuneref09_Check 40000) false Go.Proofs.Try.f56.results.toList σ.length
noncomputable def k_triuneref09_Check_1 (C : VOracle) (I : VIter) (σ : List VObj) : VKC := kSeqV (fun fr s => execV Go.Proofs.Try.prog C I (Hints id_triuneref09_Check) σ.length 114 (at_ [1, 1, 1] c_triuneref09_Check) fr s (k_triuneref09_Check_0 C I σ)) (k_triuneref09_Check_0 C I σ)
noncomputable def k_triuneref09_Check_2 (C : VOracle) (I : VIter) (σ : List VObj) : VKC := kBlockV 0 (k_triuneref09_Check_1 C I σ)
noncomputable def S_triuneref09_Check_4 (C : VOracle) (I : VIter) (σ : List VObj) : VKF := I (stepV Go.Proofs.Try.prog C I (Hints id_triuneref09_Check) σ.length 114 (at_ [1, 1, 0, 1, 0, 0] c_triuneref09_Check) (k_triuneref09_Check_2 C I σ))
noncomputable def k_triuneref09_Check_3 (C : VOracle) (I : VIter) (σ : List VObj) : VKC := kSeqV (fun fr s => execV Go.Proofs.Try.prog C I (Hints id_triuneref09_Check) σ.length 114 (at_ [1, 1, 1, 1, 1] c_triuneref09_Check) fr s (k_triuneref09_Check_0 C I σ)) (k_triuneref09_Check_0 C I σ)
noncomputable def k_triuneref09_Check_4 (C : VOracle) (I : VIter) (σ : List VObj) : VKC := kBlockV 2 (k_triuneref09_Check_3 C I σ)
noncomputable def S_triuneref09_Check_11 (C : VOracle) (I : VIter) (σ : List VObj) : VKF := I (stepV Go.Proofs.Try.prog C I (Hints id_triuneref09_Check) σ.length 114 (at_ [1, 1, 1, 1, 0, 1, 0, 0] c_triuneref09_Check) (k_triuneref09_Check_4 C I σ))
noncomputable def k_triuneref09_Check_5 (C : VOracle) (I : VIter) (σ : List VObj) : VKC := kSeqV (fun fr s => execV Go.Proofs.Try.prog C I (Hints id_triuneref09_Check) σ.length 114 (at_ [1, 1, 1, 1, 1, 1] c_triuneref09_Check) fr s (k_triuneref09_Check_0 C I σ)) (k_triuneref09_Check_0 C I σ)
noncomputable def k_triuneref09_Check_6 (C : VOracle) (I : VIter) (σ : List VObj) : VKC := kBlockV 4 (k_triuneref09_Check_5 C I σ)
noncomputable def S_triuneref09_Check_16 (C : VOracle) (I : VIter) (σ : List VObj) : VKF := I (stepV Go.Proofs.Try.prog C I (Hints id_triuneref09_Check) σ.length 114 (at_ [1, 1, 1, 1, 1, 0, 1, 0, 0] c_triuneref09_Check) (k_triuneref09_Check_6 C I σ))
noncomputable def k_triuneref09_Check_7 (C : VOracle) (I : VIter) (σ : List VObj) (self16 : VKF) : VKC := kLoopV (Hints id_triuneref09_Check 16) (Hints id_triuneref09_Check 10016) self16 (k_triuneref09_Check_6 C I σ)
noncomputable def k_triuneref09_Check_8 (C : VOracle) (I : VIter) (σ : List VObj) (self16 : VKF) : VKC := kSeqV (fun fr s => execV Go.Proofs.Try.prog C I (Hints id_triuneref09_Check) σ.length 114 (at_ [1, 1, 1, 1, 1, 0, 1, 0, 0, 1, 1] c_triuneref09_Check) fr s (k_triuneref09_Check_7 C I σ self16)) (k_triuneref09_Check_7 C I σ self16)
noncomputable def k_triuneref09_Check_9 (C : VOracle) (I : VIter) (σ : List VObj) (self16 : VKF) : VKC := kBlockV 5 (k_triuneref09_Check_8 C I σ self16)
noncomputable def k_triuneref09_Check_10 (C : VOracle) (I : VIter) (σ : List VObj) (self16 : VKF) : VKC := kBlockV 6 (k_triuneref09_Check_9 C I σ self16)
noncomputable def S_triuneref09_Check_19 (C : VOracle) (I : VIter) (σ : List VObj) (self16 : VKF) : VKF := I (stepV Go.Proofs.Try.prog C I (Hints id_triuneref09_Check) σ.length 114 (at_ [1, 1, 1, 1, 1, 0, 1, 0, 0, 1, 0, 0, 1, 0, 0] c_triuneref09_Check) (k_triuneref09_Check_10 C I σ self16))
noncomputable def B_triuneref09_Check_19 (C : VOracle) (I : VIter) (σ : List VObj) (self16 : VKF) (self19 : VKF) (x1 : VV) (x5 : VV) (x6 : VV) (s919 : VS) : Option VOut :=
(binqV Go.Proofs.Try.prog .lss 3 x6 x5).bind fun v59 =>
ifVV v59 (
(fldA false 1 10 x1).bind fun v60 =>
(ld1V s919 v60).bind fun v61 =>
(idxS 5 v61 x5).bind fun v62 =>
(ldnV 5 s919 v62).bind fun v63 =>
(boxV s919 [VV.p (.int .i64 0), VV.p (.int .i64 0), VV.p (.int .i64 0), VV.p (.int .i64 0), VV.p (.int .i64 0)]).bind fun r64 =>
(stvV 5 σ.length r64.2 r64.1 v63).bind fun s65 =>
(fldA false 1 10 x1).bind fun v66 =>
(ld1V s65 v66).bind fun v67 =>
(idxS 5 v67 x6).bind fun v68 =>
(ldnV 5 s65 v68).bind fun v69 =>
(boxV s65 [VV.p (.int .i64 0), VV.p (.int .i64 0), VV.p (.int .i64 0), VV.p (.int .i64 0), VV.p (.int .i64 0)]).bind fun r70 =>
(stvV 5 σ.length r70.2 r70.1 v69).bind fun s71 =>
(fldA false 1 0 r64.1).bind fun v72 =>
(ld1V s71 v72).bind fun v73 =>
(fldA false 1 0 r70.1).bind fun v74 =>
(ld1V s71 v74).bind fun v75 =>
(binqV Go.Proofs.Try.prog .eql 3 v73 v75).bind fun v76 =>
(brB v76 (
(fldA false 1 1 r64.1).bind fun v77 =>
(ld1V s71 v77).bind fun v78 =>
(fldA false 1 1 r70.1).bind fun v79 =>
(ld1V s71 v79).bind fun v80 =>
(binqV Go.Proofs.Try.prog .eql 3 v78 v80).bind fun v81 =>
brB v81 (
some ([(VV.p (Go.Value.bool true))], s71)) (
(fldA false 1 2 r64.1).bind fun v82 =>
(ld1V s71 v82).bind fun v83 =>
(fldA false 1 2 r70.1).bind fun v84 =>
(ld1V s71 v84).bind fun v85 =>
(binqV Go.Proofs.Try.prog .eql 3 v83 v85).bind fun v86 =>
some ([v86], s71))) (
some ([(VV.p (Go.Value.bool false))], s71))).bind fun g87 =>
ifVV (g87.1.getD 0 undefV) (
some (gcV false σ.length (VV.p (Go.Value.int Go.IntKind.i64 9)) g87.2)) (
(binqV Go.Proofs.Try.prog .add 3 x6 (VV.p (Go.Value.int Go.IntKind.i64 1))).bind fun v88 =>
self19 [(1, x1), (5, x5), (6, v88)] g87.2)) (
(binqV Go.Proofs.Try.prog .add 3 x5 (VV.p (Go.Value.int Go.IntKind.i64 1))).bind fun v89 =>
self16 [(1, x1), (5, v89)] s919)
theorem S_triuneref09_Check_19_intro {σ : List VObj} {self16 : VKF} {x1 x5 x6 : VV} {s : VS} {r : VOut} (h : B_triuneref09_Check_19 Cl iterLV σ self16 (S_triuneref09_Check_19 Cl iterLV σ self16) x1 x5 x6 s = some r) : S_triuneref09_Check_19 Cl iterLV σ self16 [(1, x1), (5, x5), (6, x6)] s = some r := by
  have e : stepV Go.Proofs.Try.prog Cl iterLV (Hints id_triuneref09_Check) σ.length 114 (at_ [1, 1, 1, 1, 1, 0, 1, 0, 0, 1, 0, 0, 1, 0, 0] c_triuneref09_Check) (k_triuneref09_Check_10 Cl iterLV σ self16) (S_triuneref09_Check_19 Cl iterLV σ self16) [(1, x1), (5, x5), (6, x6)] s = B_triuneref09_Check_19 Cl iterLV σ self16 (S_triuneref09_Check_19 Cl iterLV σ self16) x1 x5 x6 s := by kernel_rfl
  exact loopV_intro (e.trans h)
noncomputable def B_triuneref09_Check_16 (C : VOracle) (I : VIter) (σ : List VObj) (self16 : VKF) (x1 : VV) (x5 : VV) (s916 : VS) : Option VOut :=
(fldA false 1 10 x1).bind fun v55 =>
(ld1V s916 v55).bind fun v56 =>
(lenSlV v56).bind fun v57 =>
(binqV Go.Proofs.Try.prog .lss 3 x5 v57).bind fun v58 =>
ifVV v58 (
S_triuneref09_Check_19 C I σ self16 [(1, x1), (5, x5), (6, (VV.p (Go.Value.int Go.IntKind.i64 0)))] s916) (
some (gcV false σ.length (VV.p (Go.Value.int Go.IntKind.i64 0)) s916))
theorem S_triuneref09_Check_16_intro {σ : List VObj} {x1 x5 : VV} {s : VS} {r : VOut} (h : B_triuneref09_Check_16 Cl iterLV σ (S_triuneref09_Check_16 Cl iterLV σ) x1 x5 s = some r) : S_triuneref09_Check_16 Cl iterLV σ [(1, x1), (5, x5)] s = some r := by
  have e : stepV Go.Proofs.Try.prog Cl iterLV (Hints id_triuneref09_Check) σ.length 114 (at_ [1, 1, 1, 1, 1, 0, 1, 0, 0] c_triuneref09_Check) (k_triuneref09_Check_6 Cl iterLV σ) (S_triuneref09_Check_16 Cl iterLV σ) [(1, x1), (5, x5)] s = B_triuneref09_Check_16 Cl iterLV σ (S_triuneref09_Check_16 Cl iterLV σ) x1 x5 s := by kernel_rfl
  exact loopV_intro (e.trans h)
noncomputable def B_triuneref09_Check_11 (C : VOracle) (I : VIter) (σ : List VObj) (self11 : VKF) (x1 : VV) (x4 : VV) (s911 : VS) : Option VOut :=
(fldA false 1 10 x1).bind fun v44 =>
(ld1V s911 v44).bind fun v45 =>
(lenSlV v45).bind fun v46 =>
(binqV Go.Proofs.Try.prog .lss 3 x4 v46).bind fun v47 =>
ifVV v47 (
(fldA false 1 10 x1).bind fun v48 =>
(ld1V s911 v48).bind fun v49 =>
(idxS 5 v49 x4).bind fun v50 =>
(ldnV 5 s911 v50).bind fun v51 =>
(callFV C σ.length id_triuneref09_may [v51] s911).bind fun r52 =>
(pUnV Go.Proofs.Try.prog .not (cls r52.1)).bind fun v53 =>
ifVV v53 (
some (gcV false σ.length (VV.p (Go.Value.int Go.IntKind.i64 1)) r52.2.1)) (
(binqV Go.Proofs.Try.prog .add 3 x4 (VV.p (Go.Value.int Go.IntKind.i64 1))).bind fun v54 =>
self11 [(1, x1), (4, v54)] r52.2.1)) (
S_triuneref09_Check_16 C I σ [(1, x1), (5, (VV.p (Go.Value.int Go.IntKind.i64 0)))] s911)
theorem S_triuneref09_Check_11_intro {σ : List VObj} {x1 x4 : VV} {s : VS} {r : VOut} (h : B_triuneref09_Check_11 Cl iterLV σ (S_triuneref09_Check_11 Cl iterLV σ) x1 x4 s = some r) : S_triuneref09_Check_11 Cl iterLV σ [(1, x1), (4, x4)] s = some r := by
  have e : stepV Go.Proofs.Try.prog Cl iterLV (Hints id_triuneref09_Check) σ.length 114 (at_ [1, 1, 1, 1, 0, 1, 0, 0] c_triuneref09_Check) (k_triuneref09_Check_4 Cl iterLV σ) (S_triuneref09_Check_11 Cl iterLV σ) [(1, x1), (4, x4)] s = B_triuneref09_Check_11 Cl iterLV σ (S_triuneref09_Check_11 Cl iterLV σ) x1 x4 s := by kernel_rfl
  exact loopV_intro (e.trans h)
noncomputable def B_triuneref09_Check_4 (C : VOracle) (I : VIter) (σ : List VObj) (self4 : VKF) (x1 : VV) (x3 : VV) (s904 : VS) : Option VOut :=
(binqV Go.Proofs.Try.prog .lss 3 x3 (VV.p (Go.Value.int Go.IntKind.i64 3))).bind fun v7 =>
ifVV v7 (
(fldA true 3 0 x1).bind fun v8 =>
(idxA false 3 1 v8 x3).bind fun v9 =>
(ld1V s904 v9).bind fun v10 =>
(cvIV .i64 v10).bind fun v11 =>
(callFV C σ.length id_triuneref09_in [v11, (VV.p (Go.Value.int Go.IntKind.i64 1)), (VV.p (Go.Value.int Go.IntKind.i64 247))] s904).bind fun r12 =>
(pUnV Go.Proofs.Try.prog .not (cls r12.1)).bind fun v13 =>
ifVV v13 (
some (gcV false σ.length (VV.p (Go.Value.int Go.IntKind.i64 1)) r12.2.1)) (
(binqV Go.Proofs.Try.prog .add 3 x3 (VV.p (Go.Value.int Go.IntKind.i64 1))).bind fun v14 =>
self4 [(1, x1), (3, v14)] r12.2.1)) (
(fldA false 1 3 x1).bind fun v15 =>
(ld1V s904 v15).bind fun v16 =>
(callFV C σ.length id_triuneref09_in [v16, (VV.p (Go.Value.int Go.IntKind.i64 1)), (VV.p (Go.Value.int Go.IntKind.i64 20))] s904).bind fun r17 =>
(pUnV Go.Proofs.Try.prog .not (cls r17.1)).bind fun v18 =>
(brB v18 (
some ([(VV.p (Go.Value.bool true))], r17.2.1)) (
(fldA false 1 4 x1).bind fun v19 =>
(ld1V r17.2.1 v19).bind fun v20 =>
(callFV C σ.length id_triuneref09_in [v20, (VV.p (Go.Value.int Go.IntKind.i64 1)), (VV.p (Go.Value.int Go.IntKind.i64 1000))] r17.2.1).bind fun r21 =>
(pUnV Go.Proofs.Try.prog .not (cls r21.1)).bind fun v22 =>
some ([v22], r21.2.1))).bind fun g23 =>
(brB (g23.1.getD 0 undefV) (
some ([(VV.p (Go.Value.bool true))], g23.2)) (
(fldA false 1 5 x1).bind fun v24 =>
(ld1V g23.2 v24).bind fun v25 =>
(callFV C σ.length id_triuneref09_in [v25, (VV.p (Go.Value.int Go.IntKind.i64 1)), (VV.p (Go.Value.int Go.IntKind.i64 5))] g23.2).bind fun r26 =>
(pUnV Go.Proofs.Try.prog .not (cls r26.1)).bind fun v27 =>
some ([v27], r26.2.1))).bind fun g28 =>
(brB (g28.1.getD 0 undefV) (
some ([(VV.p (Go.Value.bool true))], g28.2)) (
(fldA false 1 6 x1).bind fun v29 =>
(ld1V g28.2 v29).bind fun v30 =>
(callFV C σ.length id_triuneref09_in [v30, (VV.p (Go.Value.int Go.IntKind.i64 1)), (VV.p (Go.Value.int Go.IntKind.i64 20))] g28.2).bind fun r31 =>
(pUnV Go.Proofs.Try.prog .not (cls r31.1)).bind fun v32 =>
some ([v32], r31.2.1))).bind fun g33 =>
(brB (g33.1.getD 0 undefV) (
some ([(VV.p (Go.Value.bool true))], g33.2)) (
(fldA false 1 7 x1).bind fun v34 =>
(ld1V g33.2 v34).bind fun v35 =>
(callFV C σ.length id_triuneref09_in [v35, (VV.p (Go.Value.int Go.IntKind.i64 1)), (VV.p (Go.Value.int Go.IntKind.i64 8))] g33.2).bind fun r36 =>
(pUnV Go.Proofs.Try.prog .not (cls r36.1)).bind fun v37 =>
some ([v37], r36.2.1))).bind fun g38 =>
(brB (g38.1.getD 0 undefV) (
some ([(VV.p (Go.Value.bool true))], g38.2)) (
(fldA false 1 8 x1).bind fun v39 =>
(ld1V g38.2 v39).bind fun v40 =>
(callFV C σ.length id_triuneref09_in [v40, (VV.p (Go.Value.int Go.IntKind.i64 1)), (VV.p (Go.Value.int Go.IntKind.i64 65535))] g38.2).bind fun r41 =>
(pUnV Go.Proofs.Try.prog .not (cls r41.1)).bind fun v42 =>
some ([v42], r41.2.1))).bind fun g43 =>
ifVV (g43.1.getD 0 undefV) (
some (gcV false σ.length (VV.p (Go.Value.int Go.IntKind.i64 1)) g43.2)) (
S_triuneref09_Check_11 C I σ [(1, x1), (4, (VV.p (Go.Value.int Go.IntKind.i64 0)))] g43.2))
theorem S_triuneref09_Check_4_intro {σ : List VObj} {x1 x3 : VV} {s : VS} {r : VOut} (h : B_triuneref09_Check_4 Cl iterLV σ (S_triuneref09_Check_4 Cl iterLV σ) x1 x3 s = some r) : S_triuneref09_Check_4 Cl iterLV σ [(1, x1), (3, x3)] s = some r := by
  have e : stepV Go.Proofs.Try.prog Cl iterLV (Hints id_triuneref09_Check) σ.length 114 (at_ [1, 1, 0, 1, 0, 0] c_triuneref09_Check) (k_triuneref09_Check_2 Cl iterLV σ) (S_triuneref09_Check_4 Cl iterLV σ) [(1, x1), (3, x3)] s = B_triuneref09_Check_4 Cl iterLV σ (S_triuneref09_Check_4 Cl iterLV σ) x1 x3 s := by kernel_rfl
  exact loopV_intro (e.trans h)
/-- triune/triuneref09.Check -/
noncomputable def F_triuneref09_Check (C : VOracle) (I : VIter) (σ : List VObj) (x0 : VV) : Option VOut :=
(boxV (⟨σ, [], []⟩ : VS) (cellsV x0)).bind fun r1 =>
(fldA false 1 10 r1.1).bind fun v2 =>
(ld1V r1.2 v2).bind fun v3 =>
(lenSlV v3).bind fun v4 =>
(callFV C σ.length id_triuneref09_in [v4, (VV.p (Go.Value.int Go.IntKind.i64 1)), (VV.p (Go.Value.int Go.IntKind.i64 48))] r1.2).bind fun r5 =>
(pUnV Go.Proofs.Try.prog .not (cls r5.1)).bind fun v6 =>
ifVV v6 (
some (gcV false σ.length (VV.p (Go.Value.int Go.IntKind.i64 4)) r5.2.1)) (
S_triuneref09_Check_4 C I σ [(1, r1.1), (3, (VV.p (Go.Value.int Go.IntKind.i64 0)))] r5.2.1)
theorem F_triuneref09_Check_eq (C : VOracle) (I : VIter) (σ : List VObj) (x0 : VV) : bodyV Go.Proofs.Try.prog C I Hints id_triuneref09_Check [x0] σ = F_triuneref09_Check C I σ x0 := by kernel_rfl
theorem call_triuneref09_Check {σ : List VObj} {x0 : VV} {r : VOut} (h : F_triuneref09_Check Cl iterLV σ x0 = some r) : Cl id_triuneref09_Check [x0] σ = some r := callV_intro (by kernel_rfl) ((F_triuneref09_Check_eq _ _ _ _).trans h)
noncomputable def c_triunelaw10_May : Code := (Go.Proofs.Try.f12.body).getD .skip
/-- triune/triunelaw10.May -/
noncomputable def F_triunelaw10_May (C : VOracle) (I : VIter) (σ : List VObj) (x0 : VV) : Option VOut :=
(lenSlV x0).bind fun v1 =>
(binqV Go.Proofs.Try.prog .leq 3 v1 (VV.p (Go.Value.int Go.IntKind.i64 48))).bind fun v2 =>
(brB v2 (
(bldV (VV.agg [VV.p (.int .u8 0), VV.p (.int .u8 0), VV.p (.int .u8 0)]) (fun i => some (i * 1, 1)) [(0, (VV.p (Go.Value.int Go.IntKind.u8 1))), (1, (VV.p (Go.Value.int Go.IntKind.u8 1))), (2, (VV.p (Go.Value.int Go.IntKind.u8 1)))]).bind fun v3 =>
(bldV (VV.agg [VV.p (.int .u8 0), VV.p (.int .u8 0), VV.p (.int .u8 0), VV.p (.int .i64 0), VV.p (.int .i64 0), VV.p (.int .i64 0), VV.p (.int .i64 0), VV.p (.int .i64 0), VV.p (.int .i64 0), VV.p (.int .u16 0), VV.p (.slice none 0 0)]) (fun i => (#[(0, 3), (3, 1), (4, 1), (5, 1), (6, 1), (7, 1), (8, 1), (9, 1), (10, 1)] : Array (Nat × Nat))[i]?) [(0, v3), (1, (VV.p (Go.Value.int Go.IntKind.i64 1))), (2, (VV.p (Go.Value.int Go.IntKind.i64 1))), (3, (VV.p (Go.Value.int Go.IntKind.i64 1))), (4, (VV.p (Go.Value.int Go.IntKind.i64 1))), (5, (VV.p (Go.Value.int Go.IntKind.i64 1))), (6, (VV.p (Go.Value.int Go.IntKind.i64 1))), (8, x0)]).bind fun v4 =>
(callFV C σ.length id_triuneref09_Check [v4] (⟨σ, [], []⟩ : VS)).bind fun r5 =>
(binqV Go.Proofs.Try.prog .eql 39 (cls r5.1) (VV.p (Go.Value.int Go.IntKind.i64 0))).bind fun v6 =>
some ([v6], r5.2.1)) (
some ([(VV.p (Go.Value.bool false))], (⟨σ, [], []⟩ : VS)))).bind fun g7 =>
some (gcV false σ.length (g7.1.getD 0 undefV) g7.2)
theorem F_triunelaw10_May_eq (C : VOracle) (I : VIter) (σ : List VObj) (x0 : VV) : bodyV Go.Proofs.Try.prog C I Hints id_triunelaw10_May [x0] σ = F_triunelaw10_May C I σ x0 := by kernel_rfl
theorem call_triunelaw10_May {σ : List VObj} {x0 : VV} {r : VOut} (h : F_triunelaw10_May Cl iterLV σ x0 = some r) : Cl id_triunelaw10_May [x0] σ = some r := callV_intro (by kernel_rfl) ((F_triunelaw10_May_eq _ _ _ _).trans h)
noncomputable def c_vote_Apart : Code := (Go.Proofs.Try.f28.body).getD .skip
/-- triune/vote.Apart -/
noncomputable def F_vote_Apart (C : VOracle) (I : VIter) (σ : List VObj) (x0 : VV) (x1 : VV) (x2 : VV) : Option VOut :=
(boxV (⟨σ, [], []⟩ : VS) (cellsV x0)).bind fun r1 =>
(pMMV Go.Proofs.Try.prog true #[43, 43] 43 [x1, x2]).bind fun v2 =>
(pMMV Go.Proofs.Try.prog false #[43, 43] 43 [x1, x2]).bind fun v3 =>
(binqV Go.Proofs.Try.prog .sub 43 v2 v3).bind fun v4 =>
(cvIV .i64 v4).bind fun v5 =>
(fldA false 1 3 r1.1).bind fun v6 =>
(ld1V r1.2 v6).bind fun v7 =>
(binqV Go.Proofs.Try.prog .gtr 3 v5 v7).bind fun v8 =>
some (gcV false σ.length v8 r1.2)
theorem F_vote_Apart_eq (C : VOracle) (I : VIter) (σ : List VObj) (x0 : VV) (x1 : VV) (x2 : VV) : bodyV Go.Proofs.Try.prog C I Hints id_vote_Apart [x0, x1, x2] σ = F_vote_Apart C I σ x0 x1 x2 := by kernel_rfl
theorem call_vote_Apart {σ : List VObj} {x0 : VV} {x1 : VV} {x2 : VV} {r : VOut} (h : F_vote_Apart Cl iterLV σ x0 x1 x2 = some r) : Cl id_vote_Apart [x0, x1, x2] σ = some r := callV_intro (by kernel_rfl) ((F_vote_Apart_eq _ _ _ _ _ _).trans h)
noncomputable def c_vote_Majority : Code := (Go.Proofs.Try.f24.body).getD .skip
noncomputable def k_vote_Majority_0 (C : VOracle) (I : VIter) (σ : List VObj) : VKC := kRetV Go.Proofs.Try.prog (Hints id_vote_Majority 40000) false Go.Proofs.Try.f24.results.toList σ.length
noncomputable def k_vote_Majority_1 (C : VOracle) (I : VIter) (σ : List VObj) : VKC := kSeqV (fun fr s => execV Go.Proofs.Try.prog C I (Hints id_vote_Majority) σ.length 38 (at_ [1, 1, 1] c_vote_Majority) fr s (k_vote_Majority_0 C I σ)) (k_vote_Majority_0 C I σ)
noncomputable def k_vote_Majority_2 (C : VOracle) (I : VIter) (σ : List VObj) : VKC := kBlockV 0 (k_vote_Majority_1 C I σ)
noncomputable def S_vote_Majority_3 (C : VOracle) (I : VIter) (σ : List VObj) : VKF := I (stepV Go.Proofs.Try.prog C I (Hints id_vote_Majority) σ.length 38 (at_ [1, 1, 0, 1, 0, 0] c_vote_Majority) (k_vote_Majority_2 C I σ))
noncomputable def B_vote_Majority_3 (C : VOracle) (I : VIter) (σ : List VObj) (self3 : VKF) (x0 : VV) (x4 : VV) (x7 : VV) (x8 : VV) (x9 : VV) (s903 : VS) : Option VOut :=
(binqV Go.Proofs.Try.prog .lss 3 x9 x8).bind fun v3 =>
ifVV v3 (
(idxS 1 x7 x9).bind fun v4 =>
(ld1V s903 v4).bind fun v5 =>
(binqV Go.Proofs.Try.prog .geq 43 v5 (VV.p (Go.Value.int Go.IntKind.u16 2))).bind fun v6 =>
ifVV v6 (
(retLV [(VV.p (Go.Value.int Go.IntKind.u16 0)), (VV.p (Go.Value.bool false))]).bind fun v => some (gcV false σ.length v s903)) (
(idxA false 2 1 x4 v5).bind fun v7 =>
(ld1V s903 v7).bind fun v8 =>
(binqV Go.Proofs.Try.prog .add 3 v8 (VV.p (Go.Value.int Go.IntKind.i64 1))).bind fun v9 =>
(idxA false 2 1 x4 v5).bind fun v10 =>
(stvV 1 σ.length s903 v10 v9).bind fun s11 =>
(binqV Go.Proofs.Try.prog .add 3 x9 (VV.p (Go.Value.int Go.IntKind.i64 1))).bind fun v12 =>
self3 [(0, x0), (4, x4), (7, x7), (8, x8), (9, v12)] s11)) (
(lenSlV x0).bind fun v13 =>
(binqV Go.Proofs.Try.prog .gtr 3 v13 (VV.p (Go.Value.int Go.IntKind.i64 3))).bind fun v14 =>
(brB v14 (
some ([(VV.p (Go.Value.bool true))], s903)) (
(idxA false 2 1 x4 (VV.p (Go.Value.int Go.IntKind.i64 0))).bind fun v15 =>
(ld1V s903 v15).bind fun v16 =>
(idxA false 2 1 x4 (VV.p (Go.Value.int Go.IntKind.i64 1))).bind fun v17 =>
(ld1V s903 v17).bind fun v18 =>
(binqV Go.Proofs.Try.prog .eql 3 v16 v18).bind fun v19 =>
some ([v19], s903))).bind fun g20 =>
ifVV (g20.1.getD 0 undefV) (
(retLV [(VV.p (Go.Value.int Go.IntKind.u16 0)), (VV.p (Go.Value.bool false))]).bind fun v => some (gcV false σ.length v g20.2)) (
(idxA false 2 1 x4 (VV.p (Go.Value.int Go.IntKind.i64 1))).bind fun v21 =>
(ld1V g20.2 v21).bind fun v22 =>
(idxA false 2 1 x4 (VV.p (Go.Value.int Go.IntKind.i64 0))).bind fun v23 =>
(ld1V g20.2 v23).bind fun v24 =>
(binqV Go.Proofs.Try.prog .gtr 3 v22 v24).bind fun v25 =>
ifVV v25 (
(retLV [(VV.p (Go.Value.int Go.IntKind.u16 1)), (VV.p (Go.Value.bool true))]).bind fun v => some (gcV false σ.length v g20.2)) (
(retLV [(VV.p (Go.Value.int Go.IntKind.u16 0)), (VV.p (Go.Value.bool true))]).bind fun v => some (gcV false σ.length v g20.2))))
theorem S_vote_Majority_3_intro {σ : List VObj} {x0 x4 x7 x8 x9 : VV} {s : VS} {r : VOut} (h : B_vote_Majority_3 Cl iterLV σ (S_vote_Majority_3 Cl iterLV σ) x0 x4 x7 x8 x9 s = some r) : S_vote_Majority_3 Cl iterLV σ [(0, x0), (4, x4), (7, x7), (8, x8), (9, x9)] s = some r := by
  have e : stepV Go.Proofs.Try.prog Cl iterLV (Hints id_vote_Majority) σ.length 38 (at_ [1, 1, 0, 1, 0, 0] c_vote_Majority) (k_vote_Majority_2 Cl iterLV σ) (S_vote_Majority_3 Cl iterLV σ) [(0, x0), (4, x4), (7, x7), (8, x8), (9, x9)] s = B_vote_Majority_3 Cl iterLV σ (S_vote_Majority_3 Cl iterLV σ) x0 x4 x7 x8 x9 s := by kernel_rfl
  exact loopV_intro (e.trans h)
/-- triune/vote.Majority -/
noncomputable def F_vote_Majority (C : VOracle) (I : VIter) (σ : List VObj) (x0 : VV) : Option VOut :=
(boxV (⟨σ, [], []⟩ : VS) [VV.p (.int .i64 0), VV.p (.int .i64 0)]).bind fun r1 =>
(lenSlV x0).bind fun v2 =>
S_vote_Majority_3 C I σ [(0, x0), (4, r1.1), (7, x0), (8, v2), (9, (VV.p (Go.Value.int Go.IntKind.i64 0)))] r1.2
theorem F_vote_Majority_eq (C : VOracle) (I : VIter) (σ : List VObj) (x0 : VV) : bodyV Go.Proofs.Try.prog C I Hints id_vote_Majority [x0] σ = F_vote_Majority C I σ x0 := by kernel_rfl
theorem call_vote_Majority {σ : List VObj} {x0 : VV} {r : VOut} (h : F_vote_Majority Cl iterLV σ x0 = some r) : Cl id_vote_Majority [x0] σ = some r := callV_intro (by kernel_rfl) ((F_vote_Majority_eq _ _ _ _).trans h)
noncomputable def c_vote_of : Code := (Go.Proofs.Try.f71.body).getD .skip
/-- triune/vote.of -/
noncomputable def F_vote_of (C : VOracle) (I : VIter) (σ : List VObj) (x0 : VV) : Option VOut :=
(boxV (⟨σ, [], []⟩ : VS) [VV.p (.nilFunc)]).bind fun r1 =>
(binqV Go.Proofs.Try.prog .eql 3 x0 (VV.p (Go.Value.int Go.IntKind.i64 0))).bind fun v2 =>
(brB v2 (
some ([(VV.p (Go.Value.bool true))], r1.2)) (
(binqV Go.Proofs.Try.prog .eql 3 x0 (VV.p (Go.Value.int Go.IntKind.i64 1))).bind fun v3 =>
some ([v3], r1.2))).bind fun g4 =>
ifVV (g4.1.getD 0 undefV) (
(bldV (VV.agg [VV.p (.nilFunc)]) (fun i => (#[(0, 1)] : Array (Nat × Nat))[i]?) [(0, (VV.fn (.func id_vote_Median) [] []))]).bind fun v5 =>
(stvV 1 σ.length g4.2 r1.1 v5).bind fun s6 =>
(((ldnV 1 s6 r1.1).bind fun v7 => some [v7]).bind retLV).bind fun v => some (gcV false σ.length v s6)) (
(bldV (VV.agg [VV.p (.nilFunc)]) (fun i => (#[(0, 1)] : Array (Nat × Nat))[i]?) [(0, (VV.fn (.func id_vote_Majority) [] []))]).bind fun v8 =>
(stvV 1 σ.length g4.2 r1.1 v8).bind fun s9 =>
(((ldnV 1 s9 r1.1).bind fun v10 => some [v10]).bind retLV).bind fun v => some (gcV false σ.length v s9))
theorem F_vote_of_eq (C : VOracle) (I : VIter) (σ : List VObj) (x0 : VV) : bodyV Go.Proofs.Try.prog C I Hints id_vote_of [x0] σ = F_vote_of C I σ x0 := by kernel_rfl
theorem call_vote_of {σ : List VObj} {x0 : VV} {r : VOut} (h : F_vote_of Cl iterLV σ x0 = some r) : Cl id_vote_of [x0] σ = some r := callV_intro (by kernel_rfl) ((F_vote_of_eq _ _ _ _).trans h)
noncomputable def c_vote_Vote : Code := (Go.Proofs.Try.f26.body).getD .skip
/-- triune/vote.Vote -/
noncomputable def F_vote_Vote (C : VOracle) (I : VIter) (σ : List VObj) (x0 : VV) (x1 : VV) : Option VOut :=
(boxV (⟨σ, [], []⟩ : VS) (cellsV x0)).bind fun r1 =>
(fldA false 1 0 r1.1).bind fun v2 =>
(ld1V r1.2 v2).bind fun v3 =>
(callFV C σ.length id_vote_of [v3] r1.2).bind fun r4 =>
(fldF false 1 0 (cls r4.1)).bind fun v5 =>
(callVV C σ.length v5 [x1] r4.2.1).bind fun r6 =>
(extV 0 (cls r6.1)).bind fun v7 =>
(extV 1 (cls r6.1)).bind fun v8 =>
(pUnV Go.Proofs.Try.prog .not v8).bind fun v9 =>
ifVV v9 (
(fldA false 1 4 r1.1).bind fun v10 =>
(ld1V r6.2.1 v10).bind fun v11 =>
(cvIV .u16 v11).bind fun v12 =>
(retLV [v12, (VV.p (Go.Value.bool false))]).bind fun v => some (gcV false σ.length v r6.2.1)) (
(retLV [v7, (VV.p (Go.Value.bool true))]).bind fun v => some (gcV false σ.length v r6.2.1))
theorem F_vote_Vote_eq (C : VOracle) (I : VIter) (σ : List VObj) (x0 : VV) (x1 : VV) : bodyV Go.Proofs.Try.prog C I Hints id_vote_Vote [x0, x1] σ = F_vote_Vote C I σ x0 x1 := by kernel_rfl
theorem call_vote_Vote {σ : List VObj} {x0 : VV} {x1 : VV} {r : VOut} (h : F_vote_Vote Cl iterLV σ x0 x1 = some r) : Cl id_vote_Vote [x0, x1] σ = some r := callV_intro (by kernel_rfl) ((F_vote_Vote_eq _ _ _ _ _).trans h)
noncomputable def c_triuneref12_Apart : Code := (Go.Proofs.Try.f29.body).getD .skip
noncomputable def J_triuneref12_Apart_8 (C : VOracle) (I : VIter) (σ : List VObj) (r1 : VV × VS) (y7 : VV) : Option VOut :=
(fldA false 1 3 r1.1).bind fun v9 =>
(ld1V r1.2 v9).bind fun v10 =>
(binqV Go.Proofs.Try.prog .gtr 3 y7 v10).bind fun v11 =>
some (gcV false σ.length v11 r1.2)
/-- triune/triuneref12.Apart -/
noncomputable def F_triuneref12_Apart (C : VOracle) (I : VIter) (σ : List VObj) (x0 : VV) (x1 : VV) (x2 : VV) : Option VOut :=
(boxV (⟨σ, [], []⟩ : VS) (cellsV x0)).bind fun r1 =>
(cvIV .i64 x1).bind fun v2 =>
(cvIV .i64 x2).bind fun v3 =>
(binqV Go.Proofs.Try.prog .sub 3 v2 v3).bind fun v4 =>
(binqV Go.Proofs.Try.prog .lss 3 v4 (VV.p (Go.Value.int Go.IntKind.i64 0))).bind fun v5 =>
ifVV v5 (
(pUnV Go.Proofs.Try.prog .neg v4).bind fun v6 =>
(J_triuneref12_Apart_8 C I σ r1 (v6))) (
(J_triuneref12_Apart_8 C I σ r1 (v4)))
theorem F_triuneref12_Apart_eq (C : VOracle) (I : VIter) (σ : List VObj) (x0 : VV) (x1 : VV) (x2 : VV) : bodyV Go.Proofs.Try.prog C I Hints id_triuneref12_Apart [x0, x1, x2] σ = F_triuneref12_Apart C I σ x0 x1 x2 := by kernel_rfl
theorem call_triuneref12_Apart {σ : List VObj} {x0 : VV} {x1 : VV} {x2 : VV} {r : VOut} (h : F_triuneref12_Apart Cl iterLV σ x0 x1 x2 = some r) : Cl id_triuneref12_Apart [x0, x1, x2] σ = some r := callV_intro (by kernel_rfl) ((F_triuneref12_Apart_eq _ _ _ _ _ _).trans h)
noncomputable def c_triuneref12_Majority : Code := (Go.Proofs.Try.f25.body).getD .skip
noncomputable def k_triuneref12_Majority_0 (C : VOracle) (I : VIter) (σ : List VObj) : VKC := kRetV Go.Proofs.Try.prog (Hints id_triuneref12_Majority 40000) false Go.Proofs.Try.f25.results.toList σ.length
noncomputable def k_triuneref12_Majority_1 (C : VOracle) (I : VIter) (σ : List VObj) : VKC := kSeqV (fun fr s => execV Go.Proofs.Try.prog C I (Hints id_triuneref12_Majority) σ.length 48 (at_ [1, 1, 1] c_triuneref12_Majority) fr s (k_triuneref12_Majority_0 C I σ)) (k_triuneref12_Majority_0 C I σ)
noncomputable def k_triuneref12_Majority_2 (C : VOracle) (I : VIter) (σ : List VObj) : VKC := kBlockV 0 (k_triuneref12_Majority_1 C I σ)
noncomputable def S_triuneref12_Majority_3 (C : VOracle) (I : VIter) (σ : List VObj) : VKF := I (stepV Go.Proofs.Try.prog C I (Hints id_triuneref12_Majority) σ.length 48 (at_ [1, 1, 0, 1, 0, 0] c_triuneref12_Majority) (k_triuneref12_Majority_2 C I σ))
noncomputable def B_triuneref12_Majority_3 (C : VOracle) (I : VIter) (σ : List VObj) (self3 : VKF) (x0 : VV) (x4 : VV) (x5 : VV) (s903 : VS) : Option VOut :=
(lenSlV x0).bind fun v1 =>
(binqV Go.Proofs.Try.prog .lss 3 x5 v1).bind fun v2 =>
(brB v2 (
(binqV Go.Proofs.Try.prog .lss 3 x5 (VV.p (Go.Value.int Go.IntKind.i64 4))).bind fun v3 =>
some ([v3], s903)) (
some ([(VV.p (Go.Value.bool false))], s903))).bind fun g4 =>
ifVV (g4.1.getD 0 undefV) (
(idxS 1 x0 x5).bind fun v5 =>
(ld1V g4.2 v5).bind fun v6 =>
(binqV Go.Proofs.Try.prog .gtr 43 v6 (VV.p (Go.Value.int Go.IntKind.u16 1))).bind fun v7 =>
ifVV v7 (
(retLV [(VV.p (Go.Value.int Go.IntKind.u16 0)), (VV.p (Go.Value.bool false))]).bind fun v => some (gcV false σ.length v g4.2)) (
(idxS 1 x0 x5).bind fun v8 =>
(ld1V g4.2 v8).bind fun v9 =>
(cvIV .i64 v9).bind fun v10 =>
(binqV Go.Proofs.Try.prog .add 3 x4 v10).bind fun v11 =>
(binqV Go.Proofs.Try.prog .add 3 x5 (VV.p (Go.Value.int Go.IntKind.i64 1))).bind fun v12 =>
self3 [(0, x0), (4, v11), (5, v12)] g4.2)) (
(lenSlV x0).bind fun v13 =>
(binqV Go.Proofs.Try.prog .lss 3 v13 (VV.p (Go.Value.int Go.IntKind.i64 1))).bind fun v14 =>
(brB v14 (
some ([(VV.p (Go.Value.bool true))], g4.2)) (
(lenSlV x0).bind fun v15 =>
(binqV Go.Proofs.Try.prog .gtr 3 v15 (VV.p (Go.Value.int Go.IntKind.i64 3))).bind fun v16 =>
some ([v16], g4.2))).bind fun g17 =>
(brB (g17.1.getD 0 undefV) (
some ([(VV.p (Go.Value.bool true))], g17.2)) (
(binqV Go.Proofs.Try.prog .mul 3 (VV.p (Go.Value.int Go.IntKind.i64 2)) x4).bind fun v18 =>
(lenSlV x0).bind fun v19 =>
(binqV Go.Proofs.Try.prog .eql 3 v18 v19).bind fun v20 =>
some ([v20], g17.2))).bind fun g21 =>
ifVV (g21.1.getD 0 undefV) (
(retLV [(VV.p (Go.Value.int Go.IntKind.u16 0)), (VV.p (Go.Value.bool false))]).bind fun v => some (gcV false σ.length v g21.2)) (
(binqV Go.Proofs.Try.prog .mul 3 (VV.p (Go.Value.int Go.IntKind.i64 2)) x4).bind fun v22 =>
(lenSlV x0).bind fun v23 =>
(binqV Go.Proofs.Try.prog .gtr 3 v22 v23).bind fun v24 =>
ifVV v24 (
(retLV [(VV.p (Go.Value.int Go.IntKind.u16 1)), (VV.p (Go.Value.bool true))]).bind fun v => some (gcV false σ.length v g21.2)) (
(retLV [(VV.p (Go.Value.int Go.IntKind.u16 0)), (VV.p (Go.Value.bool true))]).bind fun v => some (gcV false σ.length v g21.2))))
theorem S_triuneref12_Majority_3_intro {σ : List VObj} {x0 x4 x5 : VV} {s : VS} {r : VOut} (h : B_triuneref12_Majority_3 Cl iterLV σ (S_triuneref12_Majority_3 Cl iterLV σ) x0 x4 x5 s = some r) : S_triuneref12_Majority_3 Cl iterLV σ [(0, x0), (4, x4), (5, x5)] s = some r := by
  have e : stepV Go.Proofs.Try.prog Cl iterLV (Hints id_triuneref12_Majority) σ.length 48 (at_ [1, 1, 0, 1, 0, 0] c_triuneref12_Majority) (k_triuneref12_Majority_2 Cl iterLV σ) (S_triuneref12_Majority_3 Cl iterLV σ) [(0, x0), (4, x4), (5, x5)] s = B_triuneref12_Majority_3 Cl iterLV σ (S_triuneref12_Majority_3 Cl iterLV σ) x0 x4 x5 s := by kernel_rfl
  exact loopV_intro (e.trans h)
/-- triune/triuneref12.Majority -/
noncomputable def F_triuneref12_Majority (C : VOracle) (I : VIter) (σ : List VObj) (x0 : VV) : Option VOut :=
S_triuneref12_Majority_3 C I σ [(0, x0), (4, (VV.p (Go.Value.int Go.IntKind.i64 0))), (5, (VV.p (Go.Value.int Go.IntKind.i64 0)))] (⟨σ, [], []⟩ : VS)
theorem F_triuneref12_Majority_eq (C : VOracle) (I : VIter) (σ : List VObj) (x0 : VV) : bodyV Go.Proofs.Try.prog C I Hints id_triuneref12_Majority [x0] σ = F_triuneref12_Majority C I σ x0 := by kernel_rfl
theorem call_triuneref12_Majority {σ : List VObj} {x0 : VV} {r : VOut} (h : F_triuneref12_Majority Cl iterLV σ x0 = some r) : Cl id_triuneref12_Majority [x0] σ = some r := callV_intro (by kernel_rfl) ((F_triuneref12_Majority_eq _ _ _ _).trans h)
noncomputable def c_triuneref12_Median : Code := (Go.Proofs.Try.f23.body).getD .skip
noncomputable def k_triuneref12_Median_0 (C : VOracle) (I : VIter) (σ : List VObj) : VKC := kRetV Go.Proofs.Try.prog (Hints id_triuneref12_Median 40000) false Go.Proofs.Try.f23.results.toList σ.length
noncomputable def k_triuneref12_Median_1 (C : VOracle) (I : VIter) (σ : List VObj) : VKC := kSeqV (fun fr s => execV Go.Proofs.Try.prog C I (Hints id_triuneref12_Median) σ.length 71 (at_ [1, 1, 1, 1, 1] c_triuneref12_Median) fr s (k_triuneref12_Median_0 C I σ)) (k_triuneref12_Median_0 C I σ)
noncomputable def k_triuneref12_Median_2 (C : VOracle) (I : VIter) (σ : List VObj) : VKC := kBlockV 0 (k_triuneref12_Median_1 C I σ)
noncomputable def S_triuneref12_Median_8 (C : VOracle) (I : VIter) (σ : List VObj) : VKF := I (stepV Go.Proofs.Try.prog C I (Hints id_triuneref12_Median) σ.length 71 (at_ [1, 1, 1, 1, 0, 1, 0, 0] c_triuneref12_Median) (k_triuneref12_Median_2 C I σ))
noncomputable def k_triuneref12_Median_3 (C : VOracle) (I : VIter) (σ : List VObj) (self8 : VKF) : VKC := kLoopV (Hints id_triuneref12_Median 8) (Hints id_triuneref12_Median 10008) self8 (k_triuneref12_Median_2 C I σ)
noncomputable def k_triuneref12_Median_4 (C : VOracle) (I : VIter) (σ : List VObj) (self8 : VKF) : VKC := kSeqV (fun fr s => execV Go.Proofs.Try.prog C I (Hints id_triuneref12_Median) σ.length 71 (at_ [1, 1, 1, 1, 0, 1, 0, 0, 1, 1] c_triuneref12_Median) fr s (k_triuneref12_Median_3 C I σ self8)) (k_triuneref12_Median_3 C I σ self8)
noncomputable def k_triuneref12_Median_5 (C : VOracle) (I : VIter) (σ : List VObj) (self8 : VKF) : VKC := kBlockV 1 (k_triuneref12_Median_4 C I σ self8)
noncomputable def k_triuneref12_Median_6 (C : VOracle) (I : VIter) (σ : List VObj) (self8 : VKF) : VKC := kSeqV (fun fr s => execV Go.Proofs.Try.prog C I (Hints id_triuneref12_Median) σ.length 71 (at_ [1, 1, 1, 1, 0, 1, 0, 0, 1, 0, 0, 1, 1, 1] c_triuneref12_Median) fr s (k_triuneref12_Median_5 C I σ self8)) (k_triuneref12_Median_5 C I σ self8)
noncomputable def k_triuneref12_Median_7 (C : VOracle) (I : VIter) (σ : List VObj) (self8 : VKF) : VKC := kBlockV 2 (k_triuneref12_Median_6 C I σ self8)
noncomputable def S_triuneref12_Median_13 (C : VOracle) (I : VIter) (σ : List VObj) (self8 : VKF) : VKF := I (stepV Go.Proofs.Try.prog C I (Hints id_triuneref12_Median) σ.length 71 (at_ [1, 1, 1, 1, 0, 1, 0, 0, 1, 0, 0, 1, 1, 0, 1, 0, 0] c_triuneref12_Median) (k_triuneref12_Median_7 C I σ self8))
noncomputable def J_triuneref12_Median_35 (C : VOracle) (I : VIter) (σ : List VObj) (x7 : VV) (self13 : VKF) (x0 : VV) (x4 : VV) (y26 : VV) (s913 : VS) (y34 : VV) : Option VOut :=
(binqV Go.Proofs.Try.prog .add 3 x7 (VV.p (Go.Value.int Go.IntKind.i64 1))).bind fun v36 =>
self13 [(0, x0), (4, x4), (5, y26), (6, y34), (7, v36)] s913
noncomputable def J_triuneref12_Median_27 (C : VOracle) (I : VIter) (σ : List VObj) (x0 : VV) (x7 : VV) (s913 : VS) (x4 : VV) (x6 : VV) (self13 : VKF) (y26 : VV) : Option VOut :=
(idxS 1 x0 x7).bind fun v28 =>
(ld1V s913 v28).bind fun v29 =>
(idxS 1 x0 x4).bind fun v30 =>
(ld1V s913 v30).bind fun v31 =>
(binqV Go.Proofs.Try.prog .gtr 43 v29 v31).bind fun v32 =>
ifVV v32 (
(binqV Go.Proofs.Try.prog .add 3 x6 (VV.p (Go.Value.int Go.IntKind.i64 1))).bind fun v33 =>
(J_triuneref12_Median_35 C I σ x7 self13 x0 x4 y26 s913 (v33))) (
(J_triuneref12_Median_35 C I σ x7 self13 x0 x4 y26 s913 (x6)))
noncomputable def B_triuneref12_Median_13 (C : VOracle) (I : VIter) (σ : List VObj) (self8 : VKF) (self13 : VKF) (x0 : VV) (x4 : VV) (x5 : VV) (x6 : VV) (x7 : VV) (s913 : VS) : Option VOut :=
(binqV Go.Proofs.Try.prog .lss 3 x7 (VV.p (Go.Value.int Go.IntKind.i64 3))).bind fun v19 =>
ifVV v19 (
(idxS 1 x0 x7).bind fun v20 =>
(ld1V s913 v20).bind fun v21 =>
(idxS 1 x0 x4).bind fun v22 =>
(ld1V s913 v22).bind fun v23 =>
(binqV Go.Proofs.Try.prog .lss 43 v21 v23).bind fun v24 =>
ifVV v24 (
(binqV Go.Proofs.Try.prog .add 3 x5 (VV.p (Go.Value.int Go.IntKind.i64 1))).bind fun v25 =>
(J_triuneref12_Median_27 C I σ x0 x7 s913 x4 x6 self13 (v25))) (
(J_triuneref12_Median_27 C I σ x0 x7 s913 x4 x6 self13 (x5)))) (
(binqV Go.Proofs.Try.prog .leq 3 x5 (VV.p (Go.Value.int Go.IntKind.i64 1))).bind fun v37 =>
(brB v37 (
(binqV Go.Proofs.Try.prog .leq 3 x6 (VV.p (Go.Value.int Go.IntKind.i64 1))).bind fun v38 =>
some ([v38], s913)) (
some ([(VV.p (Go.Value.bool false))], s913))).bind fun g39 =>
ifVV (g39.1.getD 0 undefV) (
(idxS 1 x0 x4).bind fun v40 =>
(ld1V g39.2 v40).bind fun v41 =>
(retLV [v41, (VV.p (Go.Value.bool true))]).bind fun v => some (gcV false σ.length v g39.2)) (
(binqV Go.Proofs.Try.prog .add 3 x4 (VV.p (Go.Value.int Go.IntKind.i64 1))).bind fun v42 =>
self8 [(0, x0), (4, v42)] g39.2))
theorem S_triuneref12_Median_13_intro {σ : List VObj} {self8 : VKF} {x0 x4 x5 x6 x7 : VV} {s : VS} {r : VOut} (h : B_triuneref12_Median_13 Cl iterLV σ self8 (S_triuneref12_Median_13 Cl iterLV σ self8) x0 x4 x5 x6 x7 s = some r) : S_triuneref12_Median_13 Cl iterLV σ self8 [(0, x0), (4, x4), (5, x5), (6, x6), (7, x7)] s = some r := by
  have e : stepV Go.Proofs.Try.prog Cl iterLV (Hints id_triuneref12_Median) σ.length 71 (at_ [1, 1, 1, 1, 0, 1, 0, 0, 1, 0, 0, 1, 1, 0, 1, 0, 0] c_triuneref12_Median) (k_triuneref12_Median_7 Cl iterLV σ self8) (S_triuneref12_Median_13 Cl iterLV σ self8) [(0, x0), (4, x4), (5, x5), (6, x6), (7, x7)] s = B_triuneref12_Median_13 Cl iterLV σ self8 (S_triuneref12_Median_13 Cl iterLV σ self8) x0 x4 x5 x6 x7 s := by kernel_rfl
  exact loopV_intro (e.trans h)
noncomputable def B_triuneref12_Median_8 (C : VOracle) (I : VIter) (σ : List VObj) (self8 : VKF) (x0 : VV) (x4 : VV) (s908 : VS) : Option VOut :=
(binqV Go.Proofs.Try.prog .lss 3 x4 (VV.p (Go.Value.int Go.IntKind.i64 3))).bind fun v18 =>
ifVV v18 (
S_triuneref12_Median_13 C I σ self8 [(0, x0), (4, x4), (5, (VV.p (Go.Value.int Go.IntKind.i64 0))), (6, (VV.p (Go.Value.int Go.IntKind.i64 0))), (7, (VV.p (Go.Value.int Go.IntKind.i64 0)))] s908) (
(retLV [(VV.p (Go.Value.int Go.IntKind.u16 0)), (VV.p (Go.Value.bool false))]).bind fun v => some (gcV false σ.length v s908))
theorem S_triuneref12_Median_8_intro {σ : List VObj} {x0 x4 : VV} {s : VS} {r : VOut} (h : B_triuneref12_Median_8 Cl iterLV σ (S_triuneref12_Median_8 Cl iterLV σ) x0 x4 s = some r) : S_triuneref12_Median_8 Cl iterLV σ [(0, x0), (4, x4)] s = some r := by
  have e : stepV Go.Proofs.Try.prog Cl iterLV (Hints id_triuneref12_Median) σ.length 71 (at_ [1, 1, 1, 1, 0, 1, 0, 0] c_triuneref12_Median) (k_triuneref12_Median_2 Cl iterLV σ) (S_triuneref12_Median_8 Cl iterLV σ) [(0, x0), (4, x4)] s = B_triuneref12_Median_8 Cl iterLV σ (S_triuneref12_Median_8 Cl iterLV σ) x0 x4 s := by kernel_rfl
  exact loopV_intro (e.trans h)
/-- triune/triuneref12.Median -/
noncomputable def F_triuneref12_Median (C : VOracle) (I : VIter) (σ : List VObj) (x0 : VV) : Option VOut :=
(lenSlV x0).bind fun v1 =>
(binqV Go.Proofs.Try.prog .eql 3 v1 (VV.p (Go.Value.int Go.IntKind.i64 1))).bind fun v2 =>
ifVV v2 (
(idxS 1 x0 (VV.p (Go.Value.int Go.IntKind.i64 0))).bind fun v3 =>
(ld1V (⟨σ, [], []⟩ : VS) v3).bind fun v4 =>
(retLV [v4, (VV.p (Go.Value.bool true))]).bind fun v => some (gcV false σ.length v (⟨σ, [], []⟩ : VS))) (
(lenSlV x0).bind fun v5 =>
(binqV Go.Proofs.Try.prog .eql 3 v5 (VV.p (Go.Value.int Go.IntKind.i64 2))).bind fun v6 =>
ifVV v6 (
(idxS 1 x0 (VV.p (Go.Value.int Go.IntKind.i64 0))).bind fun v7 =>
(ld1V (⟨σ, [], []⟩ : VS) v7).bind fun v8 =>
(cvIV .i64 v8).bind fun v9 =>
(idxS 1 x0 (VV.p (Go.Value.int Go.IntKind.i64 1))).bind fun v10 =>
(ld1V (⟨σ, [], []⟩ : VS) v10).bind fun v11 =>
(cvIV .i64 v11).bind fun v12 =>
(binqV Go.Proofs.Try.prog .add 3 v9 v12).bind fun v13 =>
(binqV Go.Proofs.Try.prog .quo 3 v13 (VV.p (Go.Value.int Go.IntKind.i64 2))).bind fun v14 =>
(cvIV .u16 v14).bind fun v15 =>
(retLV [v15, (VV.p (Go.Value.bool true))]).bind fun v => some (gcV false σ.length v (⟨σ, [], []⟩ : VS))) (
(lenSlV x0).bind fun v16 =>
(binqV Go.Proofs.Try.prog .neq 3 v16 (VV.p (Go.Value.int Go.IntKind.i64 3))).bind fun v17 =>
ifVV v17 (
(retLV [(VV.p (Go.Value.int Go.IntKind.u16 0)), (VV.p (Go.Value.bool false))]).bind fun v => some (gcV false σ.length v (⟨σ, [], []⟩ : VS))) (
S_triuneref12_Median_8 C I σ [(0, x0), (4, (VV.p (Go.Value.int Go.IntKind.i64 0)))] (⟨σ, [], []⟩ : VS))))
theorem F_triuneref12_Median_eq (C : VOracle) (I : VIter) (σ : List VObj) (x0 : VV) : bodyV Go.Proofs.Try.prog C I Hints id_triuneref12_Median [x0] σ = F_triuneref12_Median C I σ x0 := by kernel_rfl
theorem call_triuneref12_Median {σ : List VObj} {x0 : VV} {r : VOut} (h : F_triuneref12_Median Cl iterLV σ x0 = some r) : Cl id_triuneref12_Median [x0] σ = some r := callV_intro (by kernel_rfl) ((F_triuneref12_Median_eq _ _ _ _).trans h)
noncomputable def c_triuneref12_Vote : Code := (Go.Proofs.Try.f27.body).getD .skip
noncomputable def J_triuneref12_Vote_14 (C : VOracle) (I : VIter) (σ : List VObj) (r1 : VV × VS) (y11 : VV) (y12 : VV) (s13 : VS) : Option VOut :=
(pUnV Go.Proofs.Try.prog .not y12).bind fun v15 =>
ifVV v15 (
(fldA false 1 4 r1.1).bind fun v16 =>
(ld1V s13 v16).bind fun v17 =>
(cvIV .u16 v17).bind fun v18 =>
(retLV [v18, (VV.p (Go.Value.bool false))]).bind fun v => some (gcV false σ.length v s13)) (
(retLV [y11, (VV.p (Go.Value.bool true))]).bind fun v => some (gcV false σ.length v s13))
/-- triune/triuneref12.Vote -/
noncomputable def F_triuneref12_Vote (C : VOracle) (I : VIter) (σ : List VObj) (x0 : VV) (x1 : VV) : Option VOut :=
(boxV (⟨σ, [], []⟩ : VS) (cellsV x0)).bind fun r1 =>
(callFV C σ.length id_triuneref12_Majority [x1] r1.2).bind fun r2 =>
(extV 0 (cls r2.1)).bind fun v3 =>
(extV 1 (cls r2.1)).bind fun v4 =>
(fldA false 1 0 r1.1).bind fun v5 =>
(ld1V r2.2.1 v5).bind fun v6 =>
(binqV Go.Proofs.Try.prog .leq 3 v6 (VV.p (Go.Value.int Go.IntKind.i64 1))).bind fun v7 =>
ifVV v7 (
(callFV C σ.length id_triuneref12_Median [x1] r2.2.1).bind fun r8 =>
(extV 0 (cls r8.1)).bind fun v9 =>
(extV 1 (cls r8.1)).bind fun v10 =>
(J_triuneref12_Vote_14 C I σ r1 (v9) (v10) (r8.2.1))) (
(J_triuneref12_Vote_14 C I σ r1 (v3) (v4) (r2.2.1)))
theorem F_triuneref12_Vote_eq (C : VOracle) (I : VIter) (σ : List VObj) (x0 : VV) (x1 : VV) : bodyV Go.Proofs.Try.prog C I Hints id_triuneref12_Vote [x0, x1] σ = F_triuneref12_Vote C I σ x0 x1 := by kernel_rfl
theorem call_triuneref12_Vote {σ : List VObj} {x0 : VV} {x1 : VV} {r : VOut} (h : F_triuneref12_Vote Cl iterLV σ x0 x1 = some r) : Cl id_triuneref12_Vote [x0, x1] σ = some r := callV_intro (by kernel_rfl) ((F_triuneref12_Vote_eq _ _ _ _ _).trans h)
noncomputable def c_vote_Median : Code := (Go.Proofs.Try.f22.body).getD .skip
/-- triune/vote.Median -/
noncomputable def F_vote_Median (C : VOracle) (I : VIter) (σ : List VObj) (x0 : VV) : Option VOut :=
(lenSlV x0).bind fun v1 =>
(binqV Go.Proofs.Try.prog .eql 3 v1 (VV.p (Go.Value.int Go.IntKind.i64 1))).bind fun v2 =>
ifVV v2 (
(idxS 1 x0 (VV.p (Go.Value.int Go.IntKind.i64 0))).bind fun v3 =>
(ld1V (⟨σ, [], []⟩ : VS) v3).bind fun v4 =>
(retLV [v4, (VV.p (Go.Value.bool true))]).bind fun v => some (gcV false σ.length v (⟨σ, [], []⟩ : VS))) (
(binqV Go.Proofs.Try.prog .eql 3 v1 (VV.p (Go.Value.int Go.IntKind.i64 2))).bind fun v5 =>
ifVV v5 (
(idxS 1 x0 (VV.p (Go.Value.int Go.IntKind.i64 0))).bind fun v6 =>
(ld1V (⟨σ, [], []⟩ : VS) v6).bind fun v7 =>
(idxS 1 x0 (VV.p (Go.Value.int Go.IntKind.i64 1))).bind fun v8 =>
(ld1V (⟨σ, [], []⟩ : VS) v8).bind fun v9 =>
(binqV Go.Proofs.Try.prog .and 43 v7 v9).bind fun v10 =>
(idxS 1 x0 (VV.p (Go.Value.int Go.IntKind.i64 0))).bind fun v11 =>
(ld1V (⟨σ, [], []⟩ : VS) v11).bind fun v12 =>
(idxS 1 x0 (VV.p (Go.Value.int Go.IntKind.i64 1))).bind fun v13 =>
(ld1V (⟨σ, [], []⟩ : VS) v13).bind fun v14 =>
(binqV Go.Proofs.Try.prog .xor 43 v12 v14).bind fun v15 =>
(binqV Go.Proofs.Try.prog .shr 43 v15 (VV.p (Go.Value.int Go.IntKind.u64 1))).bind fun v16 =>
(binqV Go.Proofs.Try.prog .add 43 v10 v16).bind fun v17 =>
(retLV [v17, (VV.p (Go.Value.bool true))]).bind fun v => some (gcV false σ.length v (⟨σ, [], []⟩ : VS))) (
(binqV Go.Proofs.Try.prog .eql 3 v1 (VV.p (Go.Value.int Go.IntKind.i64 3))).bind fun v18 =>
ifVV v18 (
(callFV C σ.length id_slices_Values_uint16 [x0] (⟨σ, [], []⟩ : VS)).bind fun r19 =>
(callFV C σ.length id_slices_Sorted_uint16 [(cls r19.1)] r19.2.1).bind fun r20 =>
(idxS 1 (cls r20.1) (VV.p (Go.Value.int Go.IntKind.i64 1))).bind fun v21 =>
(ld1V r20.2.1 v21).bind fun v22 =>
(retLV [v22, (VV.p (Go.Value.bool true))]).bind fun v => some (gcV false σ.length v r20.2.1)) (
(retLV [(VV.p (Go.Value.int Go.IntKind.u16 0)), (VV.p (Go.Value.bool false))]).bind fun v => some (gcV false σ.length v (⟨σ, [], []⟩ : VS)))))
theorem F_vote_Median_eq (C : VOracle) (I : VIter) (σ : List VObj) (x0 : VV) : bodyV Go.Proofs.Try.prog C I Hints id_vote_Median [x0] σ = F_vote_Median C I σ x0 := by kernel_rfl
theorem call_vote_Median {σ : List VObj} {x0 : VV} {r : VOut} (h : F_vote_Median Cl iterLV σ x0 = some r) : Cl id_vote_Median [x0] σ = some r := callV_intro (by kernel_rfl) ((F_vote_Median_eq _ _ _ _).trans h)
noncomputable def c_slices_Sorted_uint16 : Code := (Go.Proofs.Try.f69.body).getD .skip
/-- slices.Sorted[uint16] -/
noncomputable def F_slices_Sorted_uint16 (C : VOracle) (I : VIter) (σ : List VObj) (x0 : VV) : Option VOut :=
(callFV C σ.length id_slices_Collect_uint16 [x0] (⟨σ, [], []⟩ : VS)).bind fun r1 =>
(callFV C σ.length id_slices_Sort_uint16 [(cls r1.1)] r1.2.1).bind fun r2 =>
some (gcV false σ.length r1.1 r2.2.1)
theorem F_slices_Sorted_uint16_eq (C : VOracle) (I : VIter) (σ : List VObj) (x0 : VV) : bodyV Go.Proofs.Try.prog C I Hints id_slices_Sorted_uint16 [x0] σ = F_slices_Sorted_uint16 C I σ x0 := by kernel_rfl
theorem call_slices_Sorted_uint16 {σ : List VObj} {x0 : VV} {r : VOut} (h : F_slices_Sorted_uint16 Cl iterLV σ x0 = some r) : Cl id_slices_Sorted_uint16 [x0] σ = some r := callV_intro (by kernel_rfl) ((F_slices_Sorted_uint16_eq _ _ _ _).trans h)
noncomputable def c_slices_Collect_uint16 : Code := (Go.Proofs.Try.f118.body).getD .skip
/-- slices.Collect[uint16] -/
noncomputable def F_slices_Collect_uint16 (C : VOracle) (I : VIter) (σ : List VObj) (x0 : VV) : Option VOut :=
(callFV C σ.length id_slices_AppendSeq_uint16 [(VV.p (Go.Value.slice none 0 0)), x0] (⟨σ, [], []⟩ : VS)).bind fun r1 =>
some (gcV true σ.length r1.1 r1.2.1)
theorem F_slices_Collect_uint16_eq (C : VOracle) (I : VIter) (σ : List VObj) (x0 : VV) : bodyV Go.Proofs.Try.prog C I Hints id_slices_Collect_uint16 [x0] σ = F_slices_Collect_uint16 C I σ x0 := by kernel_rfl
theorem call_slices_Collect_uint16 {σ : List VObj} {x0 : VV} {r : VOut} (h : F_slices_Collect_uint16 Cl iterLV σ x0 = some r) : Cl id_slices_Collect_uint16 [x0] σ = some r := callV_intro (by kernel_rfl) ((F_slices_Collect_uint16_eq _ _ _ _).trans h)
noncomputable def c_slices_Values_uint16 : Code := (Go.Proofs.Try.f70.body).getD .skip
/-- slices.Values[[]uint16,uint16] -/
noncomputable def F_slices_Values_uint16 (C : VOracle) (I : VIter) (σ : List VObj) (x0 : VV) : Option VOut :=
(boxV (⟨σ, [], []⟩ : VS) (cellsV x0)).bind fun r1 =>
(mkFnV (Go.Fn.func id_slices_Values_uint16_1) [] [r1.1]).bind fun v2 =>
some (gcV false σ.length v2 r1.2)
theorem F_slices_Values_uint16_eq (C : VOracle) (I : VIter) (σ : List VObj) (x0 : VV) : bodyV Go.Proofs.Try.prog C I Hints id_slices_Values_uint16 [x0] σ = F_slices_Values_uint16 C I σ x0 := by kernel_rfl
theorem call_slices_Values_uint16 {σ : List VObj} {x0 : VV} {r : VOut} (h : F_slices_Values_uint16 Cl iterLV σ x0 = some r) : Cl id_slices_Values_uint16 [x0] σ = some r := callV_intro (by kernel_rfl) ((F_slices_Values_uint16_eq _ _ _ _).trans h)
noncomputable def c_slices_Sort_uint16 : Code := (Go.Proofs.Try.f119.body).getD .skip
/-- slices.Sort[[]uint16,uint16] -/
noncomputable def F_slices_Sort_uint16 (C : VOracle) (I : VIter) (σ : List VObj) (x0 : VV) : Option VOut :=
(lenSlV x0).bind fun v1 =>
(cvIV .u64 v1).bind fun v2 =>
(callFV C σ.length id_math_bits_Len [v2] (⟨σ, [], []⟩ : VS)).bind fun r3 =>
(callFV C σ.length id_slices_pdqsortOrdered_uint16 [x0, (VV.p (Go.Value.int Go.IntKind.i64 0)), v1, (cls r3.1)] r3.2.1).bind fun r4 =>
(retLV []).bind fun v => some (gcV false σ.length v r4.2.1)
theorem F_slices_Sort_uint16_eq (C : VOracle) (I : VIter) (σ : List VObj) (x0 : VV) : bodyV Go.Proofs.Try.prog C I Hints id_slices_Sort_uint16 [x0] σ = F_slices_Sort_uint16 C I σ x0 := by kernel_rfl
theorem call_slices_Sort_uint16 {σ : List VObj} {x0 : VV} {r : VOut} (h : F_slices_Sort_uint16 Cl iterLV σ x0 = some r) : Cl id_slices_Sort_uint16 [x0] σ = some r := callV_intro (by kernel_rfl) ((F_slices_Sort_uint16_eq _ _ _ _).trans h)
noncomputable def c_slices_pdqsortOrdered_uint16 : Code := (Go.Proofs.Try.f141.body).getD .skip
noncomputable def k_slices_pdqsortOrdered_uint16_0 (C : VOracle) (I : VIter) (σ : List VObj) : VKC := kRetV Go.Proofs.Try.prog (Hints id_slices_pdqsortOrdered_uint16 40000) false Go.Proofs.Try.f141.results.toList σ.length
noncomputable def k_slices_pdqsortOrdered_uint16_1 (C : VOracle) (I : VIter) (σ : List VObj) : VKC := kBlockV 0 (k_slices_pdqsortOrdered_uint16_0 C I σ)
noncomputable def S_slices_pdqsortOrdered_uint16_2 (C : VOracle) (I : VIter) (σ : List VObj) : VKF := I (stepV Go.Proofs.Try.prog C I (Hints id_slices_pdqsortOrdered_uint16) σ.length 134 (at_ [1, 1, 0, 0] c_slices_pdqsortOrdered_uint16) (k_slices_pdqsortOrdered_uint16_1 C I σ))
noncomputable def J_slices_pdqsortOrdered_uint16_57 (C : VOracle) (I : VIter) (σ : List VObj) (self2 : VKF) (x0 : VV) (y9 : VV) (v42 : VV) (y53 : VV) (y54 : VV) (y55 : VV) (s56 : VS) : Option VOut :=
self2 [(0, x0), (1, y53), (2, y54), (3, y9), (8, y55), (9, v42)] s56
noncomputable def J_slices_pdqsortOrdered_uint16_29 (C : VOracle) (I : VIter) (σ : List VObj) (x1 : VV) (x0 : VV) (y20 : VV) (x2 : VV) (self2 : VKF) (y9 : VV) (x8 : VV) (x9 : VV) (v1 : VV) (s28 : VS) : Option VOut :=
(binqV Go.Proofs.Try.prog .gtr 3 x1 (VV.p (Go.Value.int Go.IntKind.i64 0))).bind fun v30 =>
(brB v30 (
(binqV Go.Proofs.Try.prog .sub 3 x1 (VV.p (Go.Value.int Go.IntKind.i64 1))).bind fun v31 =>
(idxS 1 x0 v31).bind fun v32 =>
(ld1V s28 v32).bind fun v33 =>
(idxS 1 x0 y20).bind fun v34 =>
(ld1V s28 v34).bind fun v35 =>
(callFV C σ.length id_cmp_Less_uint16 [v33, v35] s28).bind fun r36 =>
(pUnV Go.Proofs.Try.prog .not (cls r36.1)).bind fun v37 =>
some ([v37], r36.2.1)) (
some ([(VV.p (Go.Value.bool false))], s28))).bind fun g38 =>
ifVV (g38.1.getD 0 undefV) (
(callFV C σ.length id_slices_partitionEqualOrdered_uint16 [x0, x1, x2, y20] g38.2).bind fun r39 =>
self2 [(0, x0), (1, (cls r39.1)), (2, x2), (3, y9), (8, x8), (9, x9)] r39.2.1) (
(callFV C σ.length id_slices_partitionOrdered_uint16 [x0, x1, x2, y20] g38.2).bind fun r40 =>
(extV 0 (cls r40.1)).bind fun v41 =>
(extV 1 (cls r40.1)).bind fun v42 =>
(binqV Go.Proofs.Try.prog .sub 3 v41 x1).bind fun v43 =>
(binqV Go.Proofs.Try.prog .sub 3 x2 v41).bind fun v44 =>
(binqV Go.Proofs.Try.prog .quo 3 v1 (VV.p (Go.Value.int Go.IntKind.i64 8))).bind fun v45 =>
(binqV Go.Proofs.Try.prog .lss 3 v43 v44).bind fun v46 =>
ifVV v46 (
(binqV Go.Proofs.Try.prog .geq 3 v43 v45).bind fun v47 =>
(callFV C σ.length id_slices_pdqsortOrdered_uint16 [x0, x1, v41, y9] r40.2.1).bind fun r48 =>
(binqV Go.Proofs.Try.prog .add 3 v41 (VV.p (Go.Value.int Go.IntKind.i64 1))).bind fun v49 =>
(J_slices_pdqsortOrdered_uint16_57 C I σ self2 x0 y9 v42 (v49) (x2) (v47) (r48.2.1))) (
(binqV Go.Proofs.Try.prog .geq 3 v44 v45).bind fun v50 =>
(binqV Go.Proofs.Try.prog .add 3 v41 (VV.p (Go.Value.int Go.IntKind.i64 1))).bind fun v51 =>
(callFV C σ.length id_slices_pdqsortOrdered_uint16 [x0, v51, x2, y9] r40.2.1).bind fun r52 =>
(J_slices_pdqsortOrdered_uint16_57 C I σ self2 x0 y9 v42 (x1) (v41) (v50) (r52.2.1))))
noncomputable def J_slices_pdqsortOrdered_uint16_23 (C : VOracle) (I : VIter) (σ : List VObj) (x8 : VV) (x9 : VV) (x0 : VV) (x1 : VV) (x2 : VV) (self2 : VKF) (y9 : VV) (v1 : VV) (y20 : VV) (y21 : VV) (s22 : VS) : Option VOut :=
(brB x8 (
some ([x9], s22)) (
some ([(VV.p (Go.Value.bool false))], s22))).bind fun g24 =>
(brB (g24.1.getD 0 undefV) (
(binqV Go.Proofs.Try.prog .eql 261 y21 (VV.p (Go.Value.int Go.IntKind.i64 1))).bind fun v25 =>
some ([v25], g24.2)) (
some ([(VV.p (Go.Value.bool false))], g24.2))).bind fun g26 =>
ifVV (g26.1.getD 0 undefV) (
(callFV C σ.length id_slices_partialInsertionSortOrdered_uint16 [x0, x1, x2] g26.2).bind fun r27 =>
ifVV (cls r27.1) (
(retLV []).bind fun v => some (gcV false σ.length v r27.2.1)) (
(J_slices_pdqsortOrdered_uint16_29 C I σ x1 x0 y20 x2 self2 y9 x8 x9 v1 (r27.2.1)))) (
(J_slices_pdqsortOrdered_uint16_29 C I σ x1 x0 y20 x2 self2 y9 x8 x9 v1 (g26.2)))
noncomputable def J_slices_pdqsortOrdered_uint16_11 (C : VOracle) (I : VIter) (σ : List VObj) (x0 : VV) (x1 : VV) (x2 : VV) (x8 : VV) (x9 : VV) (self2 : VKF) (v1 : VV) (y9 : VV) (s10 : VS) : Option VOut :=
(callFV C σ.length id_slices_choosePivotOrdered_uint16 [x0, x1, x2] s10).bind fun r12 =>
(extV 0 (cls r12.1)).bind fun v13 =>
(extV 1 (cls r12.1)).bind fun v14 =>
(binqV Go.Proofs.Try.prog .eql 261 v14 (VV.p (Go.Value.int Go.IntKind.i64 2))).bind fun v15 =>
ifVV v15 (
(callFV C σ.length id_slices_reverseRangeOrdered_uint16 [x0, x1, x2] r12.2.1).bind fun r16 =>
(binqV Go.Proofs.Try.prog .sub 3 x2 (VV.p (Go.Value.int Go.IntKind.i64 1))).bind fun v17 =>
(binqV Go.Proofs.Try.prog .sub 3 v13 x1).bind fun v18 =>
(binqV Go.Proofs.Try.prog .sub 3 v17 v18).bind fun v19 =>
(J_slices_pdqsortOrdered_uint16_23 C I σ x8 x9 x0 x1 x2 self2 y9 v1 (v19) ((VV.p (Go.Value.int Go.IntKind.i64 1))) (r16.2.1))) (
(J_slices_pdqsortOrdered_uint16_23 C I σ x8 x9 x0 x1 x2 self2 y9 v1 (v13) (v14) (r12.2.1)))
noncomputable def B_slices_pdqsortOrdered_uint16_2 (C : VOracle) (I : VIter) (σ : List VObj) (self2 : VKF) (x0 : VV) (x1 : VV) (x2 : VV) (x3 : VV) (x8 : VV) (x9 : VV) (s902 : VS) : Option VOut :=
(binqV Go.Proofs.Try.prog .sub 3 x2 x1).bind fun v1 =>
(binqV Go.Proofs.Try.prog .leq 3 v1 (VV.p (Go.Value.int Go.IntKind.i64 12))).bind fun v2 =>
ifVV v2 (
(callFV C σ.length id_slices_insertionSortOrdered_uint16 [x0, x1, x2] s902).bind fun r3 =>
(retLV []).bind fun v => some (gcV false σ.length v r3.2.1)) (
(binqV Go.Proofs.Try.prog .eql 3 x3 (VV.p (Go.Value.int Go.IntKind.i64 0))).bind fun v4 =>
ifVV v4 (
(callFV C σ.length id_slices_heapSortOrdered_uint16 [x0, x1, x2] s902).bind fun r5 =>
(retLV []).bind fun v => some (gcV false σ.length v r5.2.1)) (
(pUnV Go.Proofs.Try.prog .not x8).bind fun v6 =>
ifVV v6 (
(callFV C σ.length id_slices_breakPatternsOrdered_uint16 [x0, x1, x2] s902).bind fun r7 =>
(binqV Go.Proofs.Try.prog .sub 3 x3 (VV.p (Go.Value.int Go.IntKind.i64 1))).bind fun v8 =>
(J_slices_pdqsortOrdered_uint16_11 C I σ x0 x1 x2 x8 x9 self2 v1 (v8) (r7.2.1))) (
(J_slices_pdqsortOrdered_uint16_11 C I σ x0 x1 x2 x8 x9 self2 v1 (x3) (s902)))))
theorem S_slices_pdqsortOrdered_uint16_2_intro {σ : List VObj} {x0 x1 x2 x3 x8 x9 : VV} {s : VS} {r : VOut} (h : B_slices_pdqsortOrdered_uint16_2 Cl iterLV σ (S_slices_pdqsortOrdered_uint16_2 Cl iterLV σ) x0 x1 x2 x3 x8 x9 s = some r) : S_slices_pdqsortOrdered_uint16_2 Cl iterLV σ [(0, x0), (1, x1), (2, x2), (3, x3), (8, x8), (9, x9)] s = some r := by
  have e : stepV Go.Proofs.Try.prog Cl iterLV (Hints id_slices_pdqsortOrdered_uint16) σ.length 134 (at_ [1, 1, 0, 0] c_slices_pdqsortOrdered_uint16) (k_slices_pdqsortOrdered_uint16_1 Cl iterLV σ) (S_slices_pdqsortOrdered_uint16_2 Cl iterLV σ) [(0, x0), (1, x1), (2, x2), (3, x3), (8, x8), (9, x9)] s = B_slices_pdqsortOrdered_uint16_2 Cl iterLV σ (S_slices_pdqsortOrdered_uint16_2 Cl iterLV σ) x0 x1 x2 x3 x8 x9 s := by kernel_rfl
  exact loopV_intro (e.trans h)
/-- slices.pdqsortOrdered[uint16] -/
noncomputable def F_slices_pdqsortOrdered_uint16 (C : VOracle) (I : VIter) (σ : List VObj) (x0 : VV) (x1 : VV) (x2 : VV) (x3 : VV) : Option VOut :=
S_slices_pdqsortOrdered_uint16_2 C I σ [(0, x0), (1, x1), (2, x2), (3, x3), (8, (VV.p (Go.Value.bool true))), (9, (VV.p (Go.Value.bool true)))] (⟨σ, [], []⟩ : VS)
theorem F_slices_pdqsortOrdered_uint16_eq (C : VOracle) (I : VIter) (σ : List VObj) (x0 : VV) (x1 : VV) (x2 : VV) (x3 : VV) : bodyV Go.Proofs.Try.prog C I Hints id_slices_pdqsortOrdered_uint16 [x0, x1, x2, x3] σ = F_slices_pdqsortOrdered_uint16 C I σ x0 x1 x2 x3 := by kernel_rfl
theorem call_slices_pdqsortOrdered_uint16 {σ : List VObj} {x0 : VV} {x1 : VV} {x2 : VV} {x3 : VV} {r : VOut} (h : F_slices_pdqsortOrdered_uint16 Cl iterLV σ x0 x1 x2 x3 = some r) : Cl id_slices_pdqsortOrdered_uint16 [x0, x1, x2, x3] σ = some r := callV_intro (by kernel_rfl) ((F_slices_pdqsortOrdered_uint16_eq _ _ _ _ _ _ _).trans h)
noncomputable def c_slices_insertionSortOrdered_uint16 : Code := (Go.Proofs.Try.f165.body).getD .skip
noncomputable def k_slices_insertionSortOrdered_uint16_0 (C : VOracle) (I : VIter) (σ : List VObj) : VKC := kRetV Go.Proofs.Try.prog (Hints id_slices_insertionSortOrdered_uint16 40000) false Go.Proofs.Try.f165.results.toList σ.length
noncomputable def k_slices_insertionSortOrdered_uint16_1 (C : VOracle) (I : VIter) (σ : List VObj) : VKC := kBlockV 0 (k_slices_insertionSortOrdered_uint16_0 C I σ)
noncomputable def S_slices_insertionSortOrdered_uint16_1 (C : VOracle) (I : VIter) (σ : List VObj) : VKF := I (stepV Go.Proofs.Try.prog C I (Hints id_slices_insertionSortOrdered_uint16) σ.length 49 (at_ [1, 0, 0] c_slices_insertionSortOrdered_uint16) (k_slices_insertionSortOrdered_uint16_1 C I σ))
noncomputable def k_slices_insertionSortOrdered_uint16_2 (C : VOracle) (I : VIter) (σ : List VObj) (self1 : VKF) : VKC := kLoopV (Hints id_slices_insertionSortOrdered_uint16 1) (Hints id_slices_insertionSortOrdered_uint16 10001) self1 (k_slices_insertionSortOrdered_uint16_1 C I σ)
noncomputable def k_slices_insertionSortOrdered_uint16_3 (C : VOracle) (I : VIter) (σ : List VObj) (self1 : VKF) : VKC := kSeqV (fun fr s => execV Go.Proofs.Try.prog C I (Hints id_slices_insertionSortOrdered_uint16) σ.length 49 (at_ [1, 0, 0, 1, 1] c_slices_insertionSortOrdered_uint16) fr s (k_slices_insertionSortOrdered_uint16_2 C I σ self1)) (k_slices_insertionSortOrdered_uint16_2 C I σ self1)
noncomputable def k_slices_insertionSortOrdered_uint16_4 (C : VOracle) (I : VIter) (σ : List VObj) (self1 : VKF) : VKC := kBlockV 1 (k_slices_insertionSortOrdered_uint16_3 C I σ self1)
noncomputable def k_slices_insertionSortOrdered_uint16_5 (C : VOracle) (I : VIter) (σ : List VObj) (self1 : VKF) : VKC := kBlockV 2 (k_slices_insertionSortOrdered_uint16_4 C I σ self1)
noncomputable def S_slices_insertionSortOrdered_uint16_4 (C : VOracle) (I : VIter) (σ : List VObj) (self1 : VKF) : VKF := I (stepV Go.Proofs.Try.prog C I (Hints id_slices_insertionSortOrdered_uint16) σ.length 49 (at_ [1, 0, 0, 1, 0, 0, 1, 0, 0] c_slices_insertionSortOrdered_uint16) (k_slices_insertionSortOrdered_uint16_5 C I σ self1))
noncomputable def B_slices_insertionSortOrdered_uint16_4 (C : VOracle) (I : VIter) (σ : List VObj) (self1 : VKF) (self4 : VKF) (x0 : VV) (x1 : VV) (x2 : VV) (x6 : VV) (x7 : VV) (s904 : VS) : Option VOut :=
(binqV Go.Proofs.Try.prog .gtr 3 x7 x1).bind fun v3 =>
(brB v3 (
(idxS 1 x0 x7).bind fun v4 =>
(ld1V s904 v4).bind fun v5 =>
(binqV Go.Proofs.Try.prog .sub 3 x7 (VV.p (Go.Value.int Go.IntKind.i64 1))).bind fun v6 =>
(idxS 1 x0 v6).bind fun v7 =>
(ld1V s904 v7).bind fun v8 =>
(callFV C σ.length id_cmp_Less_uint16 [v5, v8] s904).bind fun r9 =>
some ([(cls r9.1)], r9.2.1)) (
some ([(VV.p (Go.Value.bool false))], s904))).bind fun g10 =>
ifVV (g10.1.getD 0 undefV) (
(binqV Go.Proofs.Try.prog .sub 3 x7 (VV.p (Go.Value.int Go.IntKind.i64 1))).bind fun v11 =>
(binqV Go.Proofs.Try.prog .sub 3 x7 (VV.p (Go.Value.int Go.IntKind.i64 1))).bind fun v12 =>
(idxS 1 x0 v12).bind fun v13 =>
(ld1V g10.2 v13).bind fun v14 =>
(idxS 1 x0 x7).bind fun v15 =>
(ld1V g10.2 v15).bind fun v16 =>
(idxS 1 x0 x7).bind fun v17 =>
(stvV 1 σ.length g10.2 v17 v14).bind fun s18 =>
(idxS 1 x0 v11).bind fun v19 =>
(stvV 1 σ.length s18 v19 v16).bind fun s20 =>
(binqV Go.Proofs.Try.prog .sub 3 x7 (VV.p (Go.Value.int Go.IntKind.i64 1))).bind fun v21 =>
self4 [(0, x0), (1, x1), (2, x2), (6, x6), (7, v21)] s20) (
(binqV Go.Proofs.Try.prog .add 3 x6 (VV.p (Go.Value.int Go.IntKind.i64 1))).bind fun v22 =>
self1 [(0, x0), (1, x1), (2, x2), (6, v22)] g10.2)
theorem S_slices_insertionSortOrdered_uint16_4_intro {σ : List VObj} {self1 : VKF} {x0 x1 x2 x6 x7 : VV} {s : VS} {r : VOut} (h : B_slices_insertionSortOrdered_uint16_4 Cl iterLV σ self1 (S_slices_insertionSortOrdered_uint16_4 Cl iterLV σ self1) x0 x1 x2 x6 x7 s = some r) : S_slices_insertionSortOrdered_uint16_4 Cl iterLV σ self1 [(0, x0), (1, x1), (2, x2), (6, x6), (7, x7)] s = some r := by
  have e : stepV Go.Proofs.Try.prog Cl iterLV (Hints id_slices_insertionSortOrdered_uint16) σ.length 49 (at_ [1, 0, 0, 1, 0, 0, 1, 0, 0] c_slices_insertionSortOrdered_uint16) (k_slices_insertionSortOrdered_uint16_5 Cl iterLV σ self1) (S_slices_insertionSortOrdered_uint16_4 Cl iterLV σ self1) [(0, x0), (1, x1), (2, x2), (6, x6), (7, x7)] s = B_slices_insertionSortOrdered_uint16_4 Cl iterLV σ self1 (S_slices_insertionSortOrdered_uint16_4 Cl iterLV σ self1) x0 x1 x2 x6 x7 s := by kernel_rfl
  exact loopV_intro (e.trans h)
noncomputable def B_slices_insertionSortOrdered_uint16_1 (C : VOracle) (I : VIter) (σ : List VObj) (self1 : VKF) (x0 : VV) (x1 : VV) (x2 : VV) (x6 : VV) (s901 : VS) : Option VOut :=
(binqV Go.Proofs.Try.prog .lss 3 x6 x2).bind fun v2 =>
ifVV v2 (
S_slices_insertionSortOrdered_uint16_4 C I σ self1 [(0, x0), (1, x1), (2, x2), (6, x6), (7, x6)] s901) (
(retLV []).bind fun v => some (gcV false σ.length v s901))
theorem S_slices_insertionSortOrdered_uint16_1_intro {σ : List VObj} {x0 x1 x2 x6 : VV} {s : VS} {r : VOut} (h : B_slices_insertionSortOrdered_uint16_1 Cl iterLV σ (S_slices_insertionSortOrdered_uint16_1 Cl iterLV σ) x0 x1 x2 x6 s = some r) : S_slices_insertionSortOrdered_uint16_1 Cl iterLV σ [(0, x0), (1, x1), (2, x2), (6, x6)] s = some r := by
  have e : stepV Go.Proofs.Try.prog Cl iterLV (Hints id_slices_insertionSortOrdered_uint16) σ.length 49 (at_ [1, 0, 0] c_slices_insertionSortOrdered_uint16) (k_slices_insertionSortOrdered_uint16_1 Cl iterLV σ) (S_slices_insertionSortOrdered_uint16_1 Cl iterLV σ) [(0, x0), (1, x1), (2, x2), (6, x6)] s = B_slices_insertionSortOrdered_uint16_1 Cl iterLV σ (S_slices_insertionSortOrdered_uint16_1 Cl iterLV σ) x0 x1 x2 x6 s := by kernel_rfl
  exact loopV_intro (e.trans h)
/-- slices.insertionSortOrdered[uint16] -/
noncomputable def F_slices_insertionSortOrdered_uint16 (C : VOracle) (I : VIter) (σ : List VObj) (x0 : VV) (x1 : VV) (x2 : VV) : Option VOut :=
(binqV Go.Proofs.Try.prog .add 3 x1 (VV.p (Go.Value.int Go.IntKind.i64 1))).bind fun v1 =>
S_slices_insertionSortOrdered_uint16_1 C I σ [(0, x0), (1, x1), (2, x2), (6, v1)] (⟨σ, [], []⟩ : VS)
theorem F_slices_insertionSortOrdered_uint16_eq (C : VOracle) (I : VIter) (σ : List VObj) (x0 : VV) (x1 : VV) (x2 : VV) : bodyV Go.Proofs.Try.prog C I Hints id_slices_insertionSortOrdered_uint16 [x0, x1, x2] σ = F_slices_insertionSortOrdered_uint16 C I σ x0 x1 x2 := by kernel_rfl
theorem call_slices_insertionSortOrdered_uint16 {σ : List VObj} {x0 : VV} {x1 : VV} {x2 : VV} {r : VOut} (h : F_slices_insertionSortOrdered_uint16 Cl iterLV σ x0 x1 x2 = some r) : Cl id_slices_insertionSortOrdered_uint16 [x0, x1, x2] σ = some r := callV_intro (by kernel_rfl) ((F_slices_insertionSortOrdered_uint16_eq _ _ _ _ _ _).trans h)
noncomputable def c_cmp_Less_uint16 : Code := (Go.Proofs.Try.f171.body).getD .skip
/-- cmp.Less[uint16] -/
noncomputable def F_cmp_Less_uint16 (C : VOracle) (I : VIter) (σ : List VObj) (x0 : VV) (x1 : VV) : Option VOut :=
(callFV C σ.length id_cmp_isNaN_uint16 [x0] (⟨σ, [], []⟩ : VS)).bind fun r1 =>
(brB (cls r1.1) (
(callFV C σ.length id_cmp_isNaN_uint16 [x1] r1.2.1).bind fun r2 =>
(pUnV Go.Proofs.Try.prog .not (cls r2.1)).bind fun v3 =>
some ([v3], r2.2.1)) (
some ([(VV.p (Go.Value.bool false))], r1.2.1))).bind fun g4 =>
(brB (g4.1.getD 0 undefV) (
some ([(VV.p (Go.Value.bool true))], g4.2)) (
(binqV Go.Proofs.Try.prog .lss 43 x0 x1).bind fun v5 =>
some ([v5], g4.2))).bind fun g6 =>
some (gcV false σ.length (g6.1.getD 0 undefV) g6.2)
theorem F_cmp_Less_uint16_eq (C : VOracle) (I : VIter) (σ : List VObj) (x0 : VV) (x1 : VV) : bodyV Go.Proofs.Try.prog C I Hints id_cmp_Less_uint16 [x0, x1] σ = F_cmp_Less_uint16 C I σ x0 x1 := by kernel_rfl
theorem call_cmp_Less_uint16 {σ : List VObj} {x0 : VV} {x1 : VV} {r : VOut} (h : F_cmp_Less_uint16 Cl iterLV σ x0 x1 = some r) : Cl id_cmp_Less_uint16 [x0, x1] σ = some r := callV_intro (by kernel_rfl) ((F_cmp_Less_uint16_eq _ _ _ _ _).trans h)
noncomputable def c_cmp_isNaN_uint16 : Code := (Go.Proofs.Try.f190.body).getD .skip
/-- cmp.isNaN[uint16] -/
noncomputable def F_cmp_isNaN_uint16 (C : VOracle) (I : VIter) (σ : List VObj) (x0 : VV) : Option VOut :=
(binqV Go.Proofs.Try.prog .neq 43 x0 x0).bind fun v1 =>
some (gcV false σ.length v1 (⟨σ, [], []⟩ : VS))
theorem F_cmp_isNaN_uint16_eq (C : VOracle) (I : VIter) (σ : List VObj) (x0 : VV) : bodyV Go.Proofs.Try.prog C I Hints id_cmp_isNaN_uint16 [x0] σ = F_cmp_isNaN_uint16 C I σ x0 := by kernel_rfl
theorem call_cmp_isNaN_uint16 {σ : List VObj} {x0 : VV} {r : VOut} (h : F_cmp_isNaN_uint16 Cl iterLV σ x0 = some r) : Cl id_cmp_isNaN_uint16 [x0] σ = some r := callV_intro (by kernel_rfl) ((F_cmp_isNaN_uint16_eq _ _ _ _).trans h)
noncomputable def c_math_bits_Len : Code := (Go.Proofs.Try.f142.body).getD .skip
/-- math/bits.Len -/
noncomputable def F_math_bits_Len (C : VOracle) (I : VIter) (σ : List VObj) (x0 : VV) : Option VOut :=
ifVV (VV.p (Go.Value.bool false)) (
(cvIV .u32 x0).bind fun v1 =>
(callFV C σ.length id_math_bits_Len32 [v1] (⟨σ, [], []⟩ : VS)).bind fun r2 =>
some (gcV false σ.length (cls r2.1) r2.2.1)) (
(callFV C σ.length id_math_bits_Len64 [x0] (⟨σ, [], []⟩ : VS)).bind fun r3 =>
some (gcV false σ.length (cls r3.1) r3.2.1))
theorem F_math_bits_Len_eq (C : VOracle) (I : VIter) (σ : List VObj) (x0 : VV) : bodyV Go.Proofs.Try.prog C I Hints id_math_bits_Len [x0] σ = F_math_bits_Len C I σ x0 := by kernel_rfl
theorem call_math_bits_Len {σ : List VObj} {x0 : VV} {r : VOut} (h : F_math_bits_Len Cl iterLV σ x0 = some r) : Cl id_math_bits_Len [x0] σ = some r := callV_intro (by kernel_rfl) ((F_math_bits_Len_eq _ _ _ _).trans h)
noncomputable def c_math_bits_Len64 : Code := (Go.Proofs.Try.f175.body).getD .skip
noncomputable def J_math_bits_Len64_17 (C : VOracle) (I : VIter) (σ : List VObj) (y15 : VV) (y16 : VV) : Option VOut :=
(cvIV .u8 y15).bind fun v18 =>
(indexVV Go.Proofs.Try.prog 9 (VV.p (Go.Value.string (⟨#[0, 1, 2, 2, 3, 3, 3, 3, 4, 4, 4, 4, 4, 4, 4, 4, 5, 5, 5, 5, 5, 5, 5, 5, 5, 5, 5, 5, 5, 5, 5, 5, 6, 6, 6, 6, 6, 6, 6, 6, 6, 6, 6, 6, 6, 6, 6, 6, 6, 6, 6, 6, 6, 6, 6, 6, 6, 6, 6, 6, 6, 6, 6, 6, 7, 7, 7, 7, 7, 7, 7, 7, 7, 7, 7, 7, 7, 7, 7, 7, 7, 7, 7, 7, 7, 7, 7, 7, 7, 7, 7, 7, 7, 7, 7, 7, 7, 7, 7, 7, 7, 7, 7, 7, 7, 7, 7, 7, 7, 7, 7, 7, 7, 7, 7, 7, 7, 7, 7, 7, 7, 7, 7, 7, 7, 7, 7, 7, 8, 8, 8, 8, 8, 8, 8, 8, 8, 8, 8, 8, 8, 8, 8, 8, 8, 8, 8, 8, 8, 8, 8, 8, 8, 8, 8, 8, 8, 8, 8, 8, 8, 8, 8, 8, 8, 8, 8, 8, 8, 8, 8, 8, 8, 8, 8, 8, 8, 8, 8, 8, 8, 8, 8, 8, 8, 8, 8, 8, 8, 8, 8, 8, 8, 8, 8, 8, 8, 8, 8, 8, 8, 8, 8, 8, 8, 8, 8, 8, 8, 8, 8, 8, 8, 8, 8, 8, 8, 8, 8, 8, 8, 8, 8, 8, 8, 8, 8, 8, 8, 8, 8, 8, 8, 8, 8, 8, 8, 8, 8, 8, 8, 8, 8, 8, 8, 8, 8, 8, 8, 8, 8, 8, 8, 8, 8, 8]⟩ : ByteArray))) v18).bind fun v19 =>
(cvIV .i64 v19).bind fun v20 =>
(binqV Go.Proofs.Try.prog .add 3 y16 v20).bind fun v21 =>
some (gcV false σ.length v21 (⟨σ, [], []⟩ : VS))
noncomputable def J_math_bits_Len64_11 (C : VOracle) (I : VIter) (σ : List VObj) (y9 : VV) (y10 : VV) : Option VOut :=
(binqV Go.Proofs.Try.prog .geq 272 y9 (VV.p (Go.Value.int Go.IntKind.u64 256))).bind fun v12 =>
ifVV v12 (
(binqV Go.Proofs.Try.prog .shr 272 y9 (VV.p (Go.Value.int Go.IntKind.u64 8))).bind fun v13 =>
(binqV Go.Proofs.Try.prog .add 3 y10 (VV.p (Go.Value.int Go.IntKind.i64 8))).bind fun v14 =>
(J_math_bits_Len64_17 C I σ (v13) (v14))) (
(J_math_bits_Len64_17 C I σ (y9) (y10)))
noncomputable def J_math_bits_Len64_5 (C : VOracle) (I : VIter) (σ : List VObj) (y3 : VV) (y4 : VV) : Option VOut :=
(binqV Go.Proofs.Try.prog .geq 272 y3 (VV.p (Go.Value.int Go.IntKind.u64 65536))).bind fun v6 =>
ifVV v6 (
(binqV Go.Proofs.Try.prog .shr 272 y3 (VV.p (Go.Value.int Go.IntKind.u64 16))).bind fun v7 =>
(binqV Go.Proofs.Try.prog .add 3 y4 (VV.p (Go.Value.int Go.IntKind.i64 16))).bind fun v8 =>
(J_math_bits_Len64_11 C I σ (v7) (v8))) (
(J_math_bits_Len64_11 C I σ (y3) (y4)))
/-- math/bits.Len64 -/
noncomputable def F_math_bits_Len64 (C : VOracle) (I : VIter) (σ : List VObj) (x0 : VV) : Option VOut :=
(binqV Go.Proofs.Try.prog .geq 272 x0 (VV.p (Go.Value.int Go.IntKind.u64 4294967296))).bind fun v1 =>
ifVV v1 (
(binqV Go.Proofs.Try.prog .shr 272 x0 (VV.p (Go.Value.int Go.IntKind.u64 32))).bind fun v2 =>
(J_math_bits_Len64_5 C I σ (v2) ((VV.p (Go.Value.int Go.IntKind.i64 32))))) (
(J_math_bits_Len64_5 C I σ (x0) ((VV.p (Go.Value.int Go.IntKind.i64 0)))))
theorem F_math_bits_Len64_eq (C : VOracle) (I : VIter) (σ : List VObj) (x0 : VV) : bodyV Go.Proofs.Try.prog C I Hints id_math_bits_Len64 [x0] σ = F_math_bits_Len64 C I σ x0 := by kernel_rfl
theorem call_math_bits_Len64 {σ : List VObj} {x0 : VV} {r : VOut} (h : F_math_bits_Len64 Cl iterLV σ x0 = some r) : Cl id_math_bits_Len64 [x0] σ = some r := callV_intro (by kernel_rfl) ((F_math_bits_Len64_eq _ _ _ _).trans h)
noncomputable def c_triunelaw12_awake : Code := (Go.Proofs.Try.f21.body).getD .skip
/-- triune/triunelaw12.awake -/
noncomputable def F_triunelaw12_awake (C : VOracle) (I : VIter) (σ : List VObj) : Option VOut :=
(bslV false false 1 (VV.p (.int .u16 0)) 3 [(0, (VV.p (Go.Value.int Go.IntKind.u16 7))), (1, (VV.p (Go.Value.int Go.IntKind.u16 3))), (2, (VV.p (Go.Value.int Go.IntKind.u16 5)))] (⟨σ, [], []⟩ : VS)).bind fun r1 =>
(callFV C σ.length id_vote_Median [r1.1] r1.2).bind fun r2 =>
(extV 0 (cls r2.1)).bind fun v3 =>
(extV 1 (cls r2.1)).bind fun v4 =>
(bslV false false 1 (VV.p (.int .u16 0)) 2 [(0, (VV.p (Go.Value.int Go.IntKind.u16 7))), (1, (VV.p (Go.Value.int Go.IntKind.u16 4)))] r2.2.1).bind fun r5 =>
(callFV C σ.length id_vote_Median [r5.1] r5.2).bind fun r6 =>
(extV 0 (cls r6.1)).bind fun v7 =>
(extV 1 (cls r6.1)).bind fun v8 =>
(bslV false false 1 (VV.p (.int .u16 0)) 3 [(0, (VV.p (Go.Value.int Go.IntKind.u16 1))), (1, (VV.p (Go.Value.int Go.IntKind.u16 0))), (2, (VV.p (Go.Value.int Go.IntKind.u16 1)))] r6.2.1).bind fun r9 =>
(callFV C σ.length id_vote_Majority [r9.1] r9.2).bind fun r10 =>
(extV 0 (cls r10.1)).bind fun v11 =>
(extV 1 (cls r10.1)).bind fun v12 =>
(bslV false false 1 (VV.p (.int .u16 0)) 2 [(0, (VV.p (Go.Value.int Go.IntKind.u16 1))), (1, (VV.p (Go.Value.int Go.IntKind.u16 0)))] r10.2.1).bind fun r13 =>
(callFV C σ.length id_vote_Majority [r13.1] r13.2).bind fun r14 =>
(extV 0 (cls r14.1)).bind fun v15 =>
(extV 1 (cls r14.1)).bind fun v16 =>
(bldV (VV.agg [VV.p (.int .i64 0), VV.p (.int .i64 0), VV.p (.int .i64 0), VV.p (.int .i64 0), VV.p (.int .i64 0)]) (fun i => (#[(0, 1), (1, 1), (2, 1), (3, 1), (4, 1)] : Array (Nat × Nat))[i]?) [(0, (VV.p (Go.Value.int Go.IntKind.i64 2))), (4, (VV.p (Go.Value.int Go.IntKind.i64 1)))]).bind fun v17 =>
(callFV C σ.length id_vote_Vote [v17, (VV.p (Go.Value.slice none 0 0))] r14.2.1).bind fun r18 =>
(extV 0 (cls r18.1)).bind fun v19 =>
(extV 1 (cls r18.1)).bind fun v20 =>
(binqV Go.Proofs.Try.prog .eql 43 v3 (VV.p (Go.Value.int Go.IntKind.u16 5))).bind fun v21 =>
(brB v21 (
some ([v4], r18.2.1)) (
some ([(VV.p (Go.Value.bool false))], r18.2.1))).bind fun g22 =>
(brB (g22.1.getD 0 undefV) (
(binqV Go.Proofs.Try.prog .eql 43 v7 (VV.p (Go.Value.int Go.IntKind.u16 5))).bind fun v23 =>
some ([v23], g22.2)) (
some ([(VV.p (Go.Value.bool false))], g22.2))).bind fun g24 =>
(brB (g24.1.getD 0 undefV) (
some ([v8], g24.2)) (
some ([(VV.p (Go.Value.bool false))], g24.2))).bind fun g25 =>
(brB (g25.1.getD 0 undefV) (
(binqV Go.Proofs.Try.prog .eql 43 v11 (VV.p (Go.Value.int Go.IntKind.u16 1))).bind fun v26 =>
some ([v26], g25.2)) (
some ([(VV.p (Go.Value.bool false))], g25.2))).bind fun g27 =>
(brB (g27.1.getD 0 undefV) (
some ([v12], g27.2)) (
some ([(VV.p (Go.Value.bool false))], g27.2))).bind fun g28 =>
(brB (g28.1.getD 0 undefV) (
(pUnV Go.Proofs.Try.prog .not v16).bind fun v29 =>
some ([v29], g28.2)) (
some ([(VV.p (Go.Value.bool false))], g28.2))).bind fun g30 =>
(brB (g30.1.getD 0 undefV) (
(binqV Go.Proofs.Try.prog .eql 43 v19 (VV.p (Go.Value.int Go.IntKind.u16 1))).bind fun v31 =>
some ([v31], g30.2)) (
some ([(VV.p (Go.Value.bool false))], g30.2))).bind fun g32 =>
(brB (g32.1.getD 0 undefV) (
(pUnV Go.Proofs.Try.prog .not v20).bind fun v33 =>
some ([v33], g32.2)) (
some ([(VV.p (Go.Value.bool false))], g32.2))).bind fun g34 =>
(brB (g34.1.getD 0 undefV) (
(bldV (VV.agg [VV.p (.int .i64 0), VV.p (.int .i64 0), VV.p (.int .i64 0), VV.p (.int .i64 0), VV.p (.int .i64 0)]) (fun i => (#[(0, 1), (1, 1), (2, 1), (3, 1), (4, 1)] : Array (Nat × Nat))[i]?) [(3, (VV.p (Go.Value.int Go.IntKind.i64 1)))]).bind fun v35 =>
(callFV C σ.length id_vote_Apart [v35, (VV.p (Go.Value.int Go.IntKind.u16 3)), (VV.p (Go.Value.int Go.IntKind.u16 5))] g34.2).bind fun r36 =>
some ([(cls r36.1)], r36.2.1)) (
some ([(VV.p (Go.Value.bool false))], g34.2))).bind fun g37 =>
(brB (g37.1.getD 0 undefV) (
(bldV (VV.agg [VV.p (.int .i64 0), VV.p (.int .i64 0), VV.p (.int .i64 0), VV.p (.int .i64 0), VV.p (.int .i64 0)]) (fun i => (#[(0, 1), (1, 1), (2, 1), (3, 1), (4, 1)] : Array (Nat × Nat))[i]?) [(3, (VV.p (Go.Value.int Go.IntKind.i64 2)))]).bind fun v38 =>
(callFV C σ.length id_vote_Apart [v38, (VV.p (Go.Value.int Go.IntKind.u16 5)), (VV.p (Go.Value.int Go.IntKind.u16 3))] g37.2).bind fun r39 =>
(pUnV Go.Proofs.Try.prog .not (cls r39.1)).bind fun v40 =>
some ([v40], r39.2.1)) (
some ([(VV.p (Go.Value.bool false))], g37.2))).bind fun g41 =>
some (gcV false σ.length (g41.1.getD 0 undefV) g41.2)
theorem F_triunelaw12_awake_eq (C : VOracle) (I : VIter) (σ : List VObj) : bodyV Go.Proofs.Try.prog C I Hints id_triunelaw12_awake [] σ = F_triunelaw12_awake C I σ  := by kernel_rfl
theorem call_triunelaw12_awake {σ : List VObj} {r : VOut} (h : F_triunelaw12_awake Cl iterLV σ  = some r) : Cl id_triunelaw12_awake [] σ = some r := callV_intro (by kernel_rfl) ((F_triunelaw12_awake_eq _ _ _ ).trans h)
noncomputable def c_triunelaw12_VoteTells : Code := (Go.Proofs.Try.f4.body).getD .skip
/-- triune/triunelaw12.VoteTells -/
noncomputable def F_triunelaw12_VoteTells (C : VOracle) (I : VIter) (σ : List VObj) (x0 : VV) (x1 : VV) (x2 : VV) : Option VOut :=
(boxV (⟨σ, [], []⟩ : VS) (cellsV x0)).bind fun r1 =>
(boxV r1.2 (cellsV x2)).bind fun r2 =>
(callFV C σ.length id_triunelaw12_awake [] r2.2).bind fun r3 =>
(ldnV 5 r3.2.1 r1.1).bind fun v4 =>
(bslV false true 5 (VV.agg [VV.p (.int .i64 0), VV.p (.int .i64 0), VV.p (.int .i64 0), VV.p (.int .i64 0), VV.p (.int .i64 0)]) 1 [(0, v4)] r3.2.1).bind fun r5 =>
(callFV C σ.length id_triunelaw10_May [r5.1] r5.2).bind fun r6 =>
(pUnV Go.Proofs.Try.prog .not (cls r6.1)).bind fun v7 =>
(brB v7 (
some ([(VV.p (Go.Value.bool true))], r6.2.1)) (
(lenSlV x1).bind fun v8 =>
(binqV Go.Proofs.Try.prog .gtr 3 v8 (VV.p (Go.Value.int Go.IntKind.i64 100))).bind fun v9 =>
some ([v9], r6.2.1))).bind fun g10 =>
ifVV (g10.1.getD 0 undefV) (
some (gcV false σ.length (cls r3.1) g10.2)) (
(callFV C σ.length id_vote_Median [x1] g10.2).bind fun r11 =>
(extV 0 (cls r11.1)).bind fun v12 =>
(extV 1 (cls r11.1)).bind fun v13 =>
(callFV C σ.length id_triuneref12_Median [x1] r11.2.1).bind fun r14 =>
(extV 0 (cls r14.1)).bind fun v15 =>
(extV 1 (cls r14.1)).bind fun v16 =>
(callFV C σ.length id_vote_Majority [x1] r14.2.1).bind fun r17 =>
(extV 0 (cls r17.1)).bind fun v18 =>
(extV 1 (cls r17.1)).bind fun v19 =>
(callFV C σ.length id_triuneref12_Majority [x1] r17.2.1).bind fun r20 =>
(extV 0 (cls r20.1)).bind fun v21 =>
(extV 1 (cls r20.1)).bind fun v22 =>
(ldnV 5 r20.2.1 r1.1).bind fun v23 =>
(callFV C σ.length id_vote_Vote [v23, x1] r20.2.1).bind fun r24 =>
(extV 0 (cls r24.1)).bind fun v25 =>
(extV 1 (cls r24.1)).bind fun v26 =>
(ldnV 5 r24.2.1 r1.1).bind fun v27 =>
(callFV C σ.length id_triuneref12_Vote [v27, x1] r24.2.1).bind fun r28 =>
(extV 0 (cls r28.1)).bind fun v29 =>
(extV 1 (cls r28.1)).bind fun v30 =>
(brB (cls r3.1) (
(binqV Go.Proofs.Try.prog .eql 43 v12 v15).bind fun v31 =>
some ([v31], r28.2.1)) (
some ([(VV.p (Go.Value.bool false))], r28.2.1))).bind fun g32 =>
(brB (g32.1.getD 0 undefV) (
(binqV Go.Proofs.Try.prog .eql 4 v13 v16).bind fun v33 =>
some ([v33], g32.2)) (
some ([(VV.p (Go.Value.bool false))], g32.2))).bind fun g34 =>
(brB (g34.1.getD 0 undefV) (
(binqV Go.Proofs.Try.prog .eql 43 v18 v21).bind fun v35 =>
some ([v35], g34.2)) (
some ([(VV.p (Go.Value.bool false))], g34.2))).bind fun g36 =>
(brB (g36.1.getD 0 undefV) (
(binqV Go.Proofs.Try.prog .eql 4 v19 v22).bind fun v37 =>
some ([v37], g36.2)) (
some ([(VV.p (Go.Value.bool false))], g36.2))).bind fun g38 =>
(brB (g38.1.getD 0 undefV) (
(binqV Go.Proofs.Try.prog .eql 43 v25 v29).bind fun v39 =>
some ([v39], g38.2)) (
some ([(VV.p (Go.Value.bool false))], g38.2))).bind fun g40 =>
(brB (g40.1.getD 0 undefV) (
(binqV Go.Proofs.Try.prog .eql 4 v26 v30).bind fun v41 =>
some ([v41], g40.2)) (
some ([(VV.p (Go.Value.bool false))], g40.2))).bind fun g42 =>
(brB (g42.1.getD 0 undefV) (
(ldnV 5 g42.2 r1.1).bind fun v43 =>
(idxA false 2 1 r2.1 (VV.p (Go.Value.int Go.IntKind.i64 0))).bind fun v44 =>
(ld1V g42.2 v44).bind fun v45 =>
(idxA false 2 1 r2.1 (VV.p (Go.Value.int Go.IntKind.i64 1))).bind fun v46 =>
(ld1V g42.2 v46).bind fun v47 =>
(ldnV 5 g42.2 r1.1).bind fun v48 =>
(idxA false 2 1 r2.1 (VV.p (Go.Value.int Go.IntKind.i64 0))).bind fun v49 =>
(ld1V g42.2 v49).bind fun v50 =>
(idxA false 2 1 r2.1 (VV.p (Go.Value.int Go.IntKind.i64 1))).bind fun v51 =>
(ld1V g42.2 v51).bind fun v52 =>
(callFV C σ.length id_vote_Apart [v43, v45, v47] g42.2).bind fun r53 =>
onV (flOk1 g42.2 r53.2.2 false r1.1 && (flOk1 g42.2 r53.2.2 false v49 && (flOk1 g42.2 r53.2.2 false v51 && (true)))) (
(callFV C σ.length id_triuneref12_Apart [v48, v50, v52] r53.2.1).bind fun r54 =>
(binqV Go.Proofs.Try.prog .eql 4 (cls r53.1) (cls r54.1)).bind fun v55 =>
some ([v55], r54.2.1))) (
onV (flOk1 g42.2 [] false r1.1 && (flOk1 g42.2 [] false undefV && (flOk1 g42.2 [] false undefV && (true)))) (
some ([(VV.p (Go.Value.bool false))], g42.2)))).bind fun g56 =>
some (gcV false σ.length (g56.1.getD 0 undefV) g56.2))
theorem F_triunelaw12_VoteTells_eq (C : VOracle) (I : VIter) (σ : List VObj) (x0 : VV) (x1 : VV) (x2 : VV) : bodyV Go.Proofs.Try.prog C I Hints id_triunelaw12_VoteTells [x0, x1, x2] σ = F_triunelaw12_VoteTells C I σ x0 x1 x2 := by kernel_rfl
theorem call_triunelaw12_VoteTells {σ : List VObj} {x0 : VV} {x1 : VV} {x2 : VV} {r : VOut} (h : F_triunelaw12_VoteTells Cl iterLV σ x0 x1 x2 = some r) : Cl id_triunelaw12_VoteTells [x0, x1, x2] σ = some r := callV_intro (by kernel_rfl) ((F_triunelaw12_VoteTells_eq _ _ _ _ _ _).trans h)
noncomputable def c_triunelaw12_VoteTurned : Code := (Go.Proofs.Try.f5.body).getD .skip
noncomputable def k_triunelaw12_VoteTurned_0 (C : VOracle) (I : VIter) (σ : List VObj) : VKC := kRetV Go.Proofs.Try.prog (Hints id_triunelaw12_VoteTurned 40000) false Go.Proofs.Try.f5.results.toList σ.length
noncomputable def k_triunelaw12_VoteTurned_1 (C : VOracle) (I : VIter) (σ : List VObj) : VKC := kSeqV (fun fr s => execV Go.Proofs.Try.prog C I (Hints id_triunelaw12_VoteTurned) σ.length 131 (at_ [1, 1, 1, 1, 1, 1, 1, 1, 1, 1] c_triunelaw12_VoteTurned) fr s (k_triunelaw12_VoteTurned_0 C I σ)) (k_triunelaw12_VoteTurned_0 C I σ)
noncomputable def k_triunelaw12_VoteTurned_2 (C : VOracle) (I : VIter) (σ : List VObj) : VKC := kBlockV 0 (k_triunelaw12_VoteTurned_1 C I σ)
noncomputable def S_triunelaw12_VoteTurned_11 (C : VOracle) (I : VIter) (σ : List VObj) : VKF := I (stepV Go.Proofs.Try.prog C I (Hints id_triunelaw12_VoteTurned) σ.length 131 (at_ [1, 1, 1, 1, 1, 1, 1, 1, 1, 0, 1, 0, 0] c_triunelaw12_VoteTurned) (k_triunelaw12_VoteTurned_2 C I σ))
noncomputable def B_triunelaw12_VoteTurned_11 (C : VOracle) (I : VIter) (σ : List VObj) (self11 : VKF) (x2 : VV) (x5 : VV) (x7 : VV) (x8 : VV) (x10 : VV) (x11 : VV) (x12 : VV) (x13 : VV) (s911 : VS) : Option VOut :=
(lenSlV x12).bind fun v25 =>
(binqV Go.Proofs.Try.prog .lss 3 x13 v25).bind fun v26 =>
ifVV v26 (
(ldnV 5 s911 x2).bind fun v27 =>
(idxS 1 x12 x13).bind fun v28 =>
(ld1V s911 v28).bind fun v29 =>
(callFV C σ.length id_vote_Vote [v27, v29] s911).bind fun r30 =>
(extV 0 (cls r30.1)).bind fun v31 =>
(extV 1 (cls r30.1)).bind fun v32 =>
(binqV Go.Proofs.Try.prog .neq 43 x10 v31).bind fun v33 =>
(brB v33 (
some ([(VV.p (Go.Value.bool true))], r30.2.1)) (
(binqV Go.Proofs.Try.prog .neq 4 x11 v32).bind fun v34 =>
some ([v34], r30.2.1))).bind fun g35 =>
ifVV (g35.1.getD 0 undefV) (
some (gcV false σ.length (VV.p (Go.Value.bool false)) g35.2)) (
(binqV Go.Proofs.Try.prog .add 3 x13 (VV.p (Go.Value.int Go.IntKind.i64 1))).bind fun v36 =>
self11 [(2, x2), (5, x5), (7, x7), (8, x8), (10, x10), (11, x11), (12, x12), (13, v36)] g35.2)) (
(ldnV 5 s911 x2).bind fun v37 =>
(bslV false false 1 (VV.p (.int .u16 0)) 2 [(0, x7), (1, x8)] s911).bind fun r38 =>
(callFV C σ.length id_vote_Vote [v37, r38.1] r38.2).bind fun r39 =>
(extV 0 (cls r39.1)).bind fun v40 =>
(extV 1 (cls r39.1)).bind fun v41 =>
(ldnV 5 r39.2.1 x2).bind fun v42 =>
(bslV false false 1 (VV.p (.int .u16 0)) 2 [(0, x8), (1, x7)] r39.2.1).bind fun r43 =>
(callFV C σ.length id_vote_Vote [v42, r43.1] r43.2).bind fun r44 =>
(extV 0 (cls r44.1)).bind fun v45 =>
(extV 1 (cls r44.1)).bind fun v46 =>
(brB x5 (
(binqV Go.Proofs.Try.prog .eql 43 v40 v45).bind fun v47 =>
some ([v47], r44.2.1)) (
some ([(VV.p (Go.Value.bool false))], r44.2.1))).bind fun g48 =>
(brB (g48.1.getD 0 undefV) (
(binqV Go.Proofs.Try.prog .eql 4 v41 v46).bind fun v49 =>
some ([v49], g48.2)) (
some ([(VV.p (Go.Value.bool false))], g48.2))).bind fun g50 =>
(brB (g50.1.getD 0 undefV) (
(ldnV 5 g50.2 x2).bind fun v51 =>
(callFV C σ.length id_vote_Apart [v51, x7, x7] g50.2).bind fun r52 =>
(pUnV Go.Proofs.Try.prog .not (cls r52.1)).bind fun v53 =>
some ([v53], r52.2.1)) (
some ([(VV.p (Go.Value.bool false))], g50.2))).bind fun g54 =>
(brB (g54.1.getD 0 undefV) (
(ldnV 5 g54.2 x2).bind fun v55 =>
(ldnV 5 g54.2 x2).bind fun v56 =>
(callFV C σ.length id_vote_Apart [v55, x7, x8] g54.2).bind fun r57 =>
onV (flOk1 g54.2 r57.2.2 false x2 && (true)) (
(callFV C σ.length id_vote_Apart [v56, x8, x7] r57.2.1).bind fun r58 =>
(binqV Go.Proofs.Try.prog .eql 4 (cls r57.1) (cls r58.1)).bind fun v59 =>
some ([v59], r58.2.1))) (
onV (flOk1 g54.2 [] false x2 && (true)) (
some ([(VV.p (Go.Value.bool false))], g54.2)))).bind fun g60 =>
some (gcV false σ.length (g60.1.getD 0 undefV) g60.2))
theorem S_triunelaw12_VoteTurned_11_intro {σ : List VObj} {x2 x5 x7 x8 x10 x11 x12 x13 : VV} {s : VS} {r : VOut} (h : B_triunelaw12_VoteTurned_11 Cl iterLV σ (S_triunelaw12_VoteTurned_11 Cl iterLV σ) x2 x5 x7 x8 x10 x11 x12 x13 s = some r) : S_triunelaw12_VoteTurned_11 Cl iterLV σ [(2, x2), (5, x5), (7, x7), (8, x8), (10, x10), (11, x11), (12, x12), (13, x13)] s = some r := by
  have e : stepV Go.Proofs.Try.prog Cl iterLV (Hints id_triunelaw12_VoteTurned) σ.length 131 (at_ [1, 1, 1, 1, 1, 1, 1, 1, 1, 0, 1, 0, 0] c_triunelaw12_VoteTurned) (k_triunelaw12_VoteTurned_2 Cl iterLV σ) (S_triunelaw12_VoteTurned_11 Cl iterLV σ) [(2, x2), (5, x5), (7, x7), (8, x8), (10, x10), (11, x11), (12, x12), (13, x13)] s = B_triunelaw12_VoteTurned_11 Cl iterLV σ (S_triunelaw12_VoteTurned_11 Cl iterLV σ) x2 x5 x7 x8 x10 x11 x12 x13 s := by kernel_rfl
  exact loopV_intro (e.trans h)
/-- triune/triunelaw12.VoteTurned -/
noncomputable def F_triunelaw12_VoteTurned (C : VOracle) (I : VIter) (σ : List VObj) (x0 : VV) (x1 : VV) : Option VOut :=
(boxV (⟨σ, [], []⟩ : VS) (cellsV x0)).bind fun r1 =>
(boxV r1.2 (cellsV x1)).bind fun r2 =>
(callFV C σ.length id_triunelaw12_awake [] r2.2).bind fun r3 =>
(ldnV 5 r3.2.1 r1.1).bind fun v4 =>
(bslV false true 5 (VV.agg [VV.p (.int .i64 0), VV.p (.int .i64 0), VV.p (.int .i64 0), VV.p (.int .i64 0), VV.p (.int .i64 0)]) 1 [(0, v4)] r3.2.1).bind fun r5 =>
(callFV C σ.length id_triunelaw10_May [r5.1] r5.2).bind fun r6 =>
(pUnV Go.Proofs.Try.prog .not (cls r6.1)).bind fun v7 =>
ifVV v7 (
some (gcV false σ.length (cls r3.1) r6.2.1)) (
(idxA false 3 1 r2.1 (VV.p (Go.Value.int Go.IntKind.i64 0))).bind fun v8 =>
(ld1V r6.2.1 v8).bind fun v9 =>
(idxA false 3 1 r2.1 (VV.p (Go.Value.int Go.IntKind.i64 1))).bind fun v10 =>
(ld1V r6.2.1 v10).bind fun v11 =>
(idxA false 3 1 r2.1 (VV.p (Go.Value.int Go.IntKind.i64 2))).bind fun v12 =>
(ld1V r6.2.1 v12).bind fun v13 =>
(ldnV 5 r6.2.1 r1.1).bind fun v14 =>
(bslV false false 1 (VV.p (.int .u16 0)) 3 [(0, v9), (1, v11), (2, v13)] r6.2.1).bind fun r15 =>
(callFV C σ.length id_vote_Vote [v14, r15.1] r15.2).bind fun r16 =>
(extV 0 (cls r16.1)).bind fun v17 =>
(extV 1 (cls r16.1)).bind fun v18 =>
(bslV false false 1 (VV.p (.int .u16 0)) 3 [(0, v9), (1, v13), (2, v11)] r16.2.1).bind fun r19 =>
(bslV false false 1 (VV.p (.int .u16 0)) 3 [(0, v11), (1, v9), (2, v13)] r19.2).bind fun r20 =>
(bslV false false 1 (VV.p (.int .u16 0)) 3 [(0, v11), (1, v13), (2, v9)] r20.2).bind fun r21 =>
(bslV false false 1 (VV.p (.int .u16 0)) 3 [(0, v13), (1, v9), (2, v11)] r21.2).bind fun r22 =>
(bslV false false 1 (VV.p (.int .u16 0)) 3 [(0, v13), (1, v11), (2, v9)] r22.2).bind fun r23 =>
(bslV false false 1 (VV.p (.slice none 0 0)) 5 [(0, r19.1), (1, r20.1), (2, r21.1), (3, r22.1), (4, r23.1)] r23.2).bind fun r24 =>
S_triunelaw12_VoteTurned_11 C I σ [(2, r1.1), (5, (cls r3.1)), (7, v9), (8, v11), (10, v17), (11, v18), (12, r24.1), (13, (VV.p (Go.Value.int Go.IntKind.i64 0)))] r24.2)
theorem F_triunelaw12_VoteTurned_eq (C : VOracle) (I : VIter) (σ : List VObj) (x0 : VV) (x1 : VV) : bodyV Go.Proofs.Try.prog C I Hints id_triunelaw12_VoteTurned [x0, x1] σ = F_triunelaw12_VoteTurned C I σ x0 x1 := by kernel_rfl
theorem call_triunelaw12_VoteTurned {σ : List VObj} {x0 : VV} {x1 : VV} {r : VOut} (h : F_triunelaw12_VoteTurned Cl iterLV σ x0 x1 = some r) : Cl id_triunelaw12_VoteTurned [x0, x1] σ = some r := callV_intro (by kernel_rfl) ((F_triunelaw12_VoteTurned_eq _ _ _ _ _).trans h)
end Go.Proofs.Ytkpamaplmjlagaa.Hoas
