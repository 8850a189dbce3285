/-
  No cell of these rows narrows 'for every input' (looked for: loops, veiled, ifaces, maps, wideKeys, modest, calm, conditions, laid).
  DERIVED. THE GIVEN ROWS OF THIS SEAT. 8 by the template 'for every input the law returns true; each argument reads behind the call as it read before'; 0 by the template 'total and deterministic' (their statements: YtkpamaplmjlagaaTotals.lean).
  GIVEN WITH THE SEED: the statements are not yours to turn. If you find one false, say at which input.
  Laid BY PROGRAM, IN A SANDBOX (cutbox-rows.mjs): the forced cells as the released guide's own fill.sh prints them over the translation 4816ec1699dc3f0b… (all of the seat's roots in one cut). By AI agents, Wed Nov 11 2026. No macro, syntax, notation, axiom, sorry.
-/
import Derived.Test.YtkpamaplmjlagaaChecked
import GoSem.Claim
import GoSem.ClaimJoined
import GoSem.ClaimMapViews
import Derived.JoinedTies
import Derived.KernelRfl
namespace Go.Proofs.Ytkpamaplmjlagaa
/- THE CELL 'sum', in the pinned program and in every row, IS THE sha256 OF THE DUMP (.gsa) THAT YtkpamaplmjlagaaProg.lean LOADS. Nothing in Lean hashes anything: it is a label: what it is worth is what the hold of that sum in a sandbox is worth. -/
noncomputable def Try.pinned : Pinned := { name := "ytkpamaplmjlagaa", sum := "4816ec1699dc3f0bd8c4a0d3b109adfa7629d352b5f12384f70b51330188482b", checked := Try.checked }
namespace Rows
def none {H : Type} : Left H := { results := [], args := [] }

/-- 'triunelaw16.JobsFail': WHATEVER THE INPUT: true; the input reads as it did. -/
def jobsFailSpec : ChangeSpec := { name := "jobsFail", fn := fun _ => fun
  | [d1, d2, d3] => { results := [.lit (.bool true)], args := [d1, d2, d3] }
  | _ => none }
def jobsFailRow : OpenClaim := { program := "ytkpamaplmjlagaa", sum := "4816ec1699dc3f0bd8c4a0d3b109adfa7629d352b5f12384f70b51330188482b", func := "triune/triunelaw16.JobsFail", spec := "jobsFail", unfollowed := true, recurses := true, apart := false }
def JobsFailSaid : Prop := jobsFailRow.holds Try.pinned (OpenSpec.ofChange jobsFailSpec)

/-- ITS FALSE NEIGHBOUR: 'it returns false'. Refute it at one input. -/
def jobsFailWrong : ChangeSpec := { name := "jobsFail", fn := fun _ => fun
  | [d1, d2, d3] => { results := [.lit (.bool false)], args := [d1, d2, d3] }
  | _ => none }
def JobsFailWrongFalsely : Prop := jobsFailRow.holds Try.pinned (OpenSpec.ofChange jobsFailWrong)

/-- 'triunelaw12.VoteTells': WHATEVER THE INPUT: true; the input reads as it did. -/
def voteTellsSpec : ChangeSpec := { name := "voteTells", fn := fun _ => fun
  | [d1, d2, d3] => { results := [.lit (.bool true)], args := [d1, d2, d3] }
  | _ => none }
def voteTellsRow : OpenClaim := { program := "ytkpamaplmjlagaa", sum := "4816ec1699dc3f0bd8c4a0d3b109adfa7629d352b5f12384f70b51330188482b", func := "triune/triunelaw12.VoteTells", spec := "voteTells", unfollowed := true, recurses := true, apart := false }
def VoteTellsSaid : Prop := voteTellsRow.holds Try.pinned (OpenSpec.ofChange voteTellsSpec)

/-- ITS FALSE NEIGHBOUR: 'it returns false'. Refute it at one input. -/
def voteTellsWrong : ChangeSpec := { name := "voteTells", fn := fun _ => fun
  | [d1, d2, d3] => { results := [.lit (.bool false)], args := [d1, d2, d3] }
  | _ => none }
def VoteTellsWrongFalsely : Prop := voteTellsRow.holds Try.pinned (OpenSpec.ofChange voteTellsWrong)

/-- 'triunelaw12.VoteTurned': WHATEVER THE INPUT: true; the input reads as it did. -/
def voteTurnedSpec : ChangeSpec := { name := "voteTurned", fn := fun _ => fun
  | [d1, d2] => { results := [.lit (.bool true)], args := [d1, d2] }
  | _ => none }
def voteTurnedRow : OpenClaim := { program := "ytkpamaplmjlagaa", sum := "4816ec1699dc3f0bd8c4a0d3b109adfa7629d352b5f12384f70b51330188482b", func := "triune/triunelaw12.VoteTurned", spec := "voteTurned", unfollowed := true, recurses := true, apart := false }
def VoteTurnedSaid : Prop := voteTurnedRow.holds Try.pinned (OpenSpec.ofChange voteTurnedSpec)

/-- ITS FALSE NEIGHBOUR: 'it returns false'. Refute it at one input. -/
def voteTurnedWrong : ChangeSpec := { name := "voteTurned", fn := fun _ => fun
  | [d1, d2] => { results := [.lit (.bool false)], args := [d1, d2] }
  | _ => none }
def VoteTurnedWrongFalsely : Prop := voteTurnedRow.holds Try.pinned (OpenSpec.ofChange voteTurnedWrong)

/-- 'triunelaw08.MasterEnds': WHATEVER THE INPUT: true; the input reads as it did. -/
def masterEndsSpec : ChangeSpec := { name := "masterEnds", fn := fun _ => fun
  | [d1, d2, d3] => { results := [.lit (.bool true)], args := [d1, d2, d3] }
  | _ => none }
def masterEndsRow : OpenClaim := { program := "ytkpamaplmjlagaa", sum := "4816ec1699dc3f0bd8c4a0d3b109adfa7629d352b5f12384f70b51330188482b", func := "triune/triunelaw08.MasterEnds", spec := "masterEnds", inPlace := ["internal/reflectlite.TypeOf"], unfollowed := true, recurses := true, apart := false }
def MasterEndsSaid : Prop := masterEndsRow.holds Try.pinned (OpenSpec.ofChange masterEndsSpec)

/-- ITS FALSE NEIGHBOUR: 'it returns false'. Refute it at one input. -/
def masterEndsWrong : ChangeSpec := { name := "masterEnds", fn := fun _ => fun
  | [d1, d2, d3] => { results := [.lit (.bool false)], args := [d1, d2, d3] }
  | _ => none }
def MasterEndsWrongFalsely : Prop := masterEndsRow.holds Try.pinned (OpenSpec.ofChange masterEndsWrong)

/-- 'triunelaw08.MasterGood': WHATEVER THE INPUT: true; the input reads as it did. -/
def masterGoodSpec : ChangeSpec := { name := "masterGood", fn := fun _ => fun
  | [d1, d2, d3] => { results := [.lit (.bool true)], args := [d1, d2, d3] }
  | _ => none }
def masterGoodRow : OpenClaim := { program := "ytkpamaplmjlagaa", sum := "4816ec1699dc3f0bd8c4a0d3b109adfa7629d352b5f12384f70b51330188482b", func := "triune/triunelaw08.MasterGood", spec := "masterGood", inPlace := ["internal/reflectlite.TypeOf"], unfollowed := true, recurses := true, apart := false }
def MasterGoodSaid : Prop := masterGoodRow.holds Try.pinned (OpenSpec.ofChange masterGoodSpec)

/-- ITS FALSE NEIGHBOUR: 'it returns false'. Refute it at one input. -/
def masterGoodWrong : ChangeSpec := { name := "masterGood", fn := fun _ => fun
  | [d1, d2, d3] => { results := [.lit (.bool false)], args := [d1, d2, d3] }
  | _ => none }
def MasterGoodWrongFalsely : Prop := masterGoodRow.holds Try.pinned (OpenSpec.ofChange masterGoodWrong)

/-- 'triunelaw13.JudgeTells': WHATEVER THE INPUT: true; the input reads as it did. -/
def judgeTellsSpec : ChangeSpec := { name := "judgeTells", fn := fun _ => fun
  | [d1, d2, d3] => { results := [.lit (.bool true)], args := [d1, d2, d3] }
  | _ => none }
def judgeTellsRow : OpenClaim := { program := "ytkpamaplmjlagaa", sum := "4816ec1699dc3f0bd8c4a0d3b109adfa7629d352b5f12384f70b51330188482b", func := "triune/triunelaw13.JudgeTells", spec := "judgeTells", unfollowed := true, recurses := true, apart := false }
def JudgeTellsSaid : Prop := judgeTellsRow.holds Try.pinned (OpenSpec.ofChange judgeTellsSpec)

/-- ITS FALSE NEIGHBOUR: 'it returns false'. Refute it at one input. -/
def judgeTellsWrong : ChangeSpec := { name := "judgeTells", fn := fun _ => fun
  | [d1, d2, d3] => { results := [.lit (.bool false)], args := [d1, d2, d3] }
  | _ => none }
def JudgeTellsWrongFalsely : Prop := judgeTellsRow.holds Try.pinned (OpenSpec.ofChange judgeTellsWrong)

/-- 'triunelaw13.JudgeTwo': WHATEVER THE INPUT: true; the input reads as it did. -/
def judgeTwoSpec : ChangeSpec := { name := "judgeTwo", fn := fun _ => fun
  | [d1, d2, d3] => { results := [.lit (.bool true)], args := [d1, d2, d3] }
  | _ => none }
def judgeTwoRow : OpenClaim := { program := "ytkpamaplmjlagaa", sum := "4816ec1699dc3f0bd8c4a0d3b109adfa7629d352b5f12384f70b51330188482b", func := "triune/triunelaw13.JudgeTwo", spec := "judgeTwo", unfollowed := true, recurses := true, apart := false }
def JudgeTwoSaid : Prop := judgeTwoRow.holds Try.pinned (OpenSpec.ofChange judgeTwoSpec)

/-- ITS FALSE NEIGHBOUR: 'it returns false'. Refute it at one input. -/
def judgeTwoWrong : ChangeSpec := { name := "judgeTwo", fn := fun _ => fun
  | [d1, d2, d3] => { results := [.lit (.bool false)], args := [d1, d2, d3] }
  | _ => none }
def JudgeTwoWrongFalsely : Prop := judgeTwoRow.holds Try.pinned (OpenSpec.ofChange judgeTwoWrong)

/-- 'triunelaw13.JudgeFine': WHATEVER THE INPUT: true; the input reads as it did. -/
def judgeFineSpec : ChangeSpec := { name := "judgeFine", fn := fun _ => fun
  | [d1, d2, d3] => { results := [.lit (.bool true)], args := [d1, d2, d3] }
  | _ => none }
def judgeFineRow : OpenClaim := { program := "ytkpamaplmjlagaa", sum := "4816ec1699dc3f0bd8c4a0d3b109adfa7629d352b5f12384f70b51330188482b", func := "triune/triunelaw13.JudgeFine", spec := "judgeFine", unfollowed := true, recurses := true, apart := false }
def JudgeFineSaid : Prop := judgeFineRow.holds Try.pinned (OpenSpec.ofChange judgeFineSpec)

/-- ITS FALSE NEIGHBOUR: 'it returns false'. Refute it at one input. -/
def judgeFineWrong : ChangeSpec := { name := "judgeFine", fn := fun _ => fun
  | [d1, d2, d3] => { results := [.lit (.bool false)], args := [d1, d2, d3] }
  | _ => none }
def JudgeFineWrongFalsely : Prop := judgeFineRow.holds Try.pinned (OpenSpec.ofChange judgeFineWrong)

/- THE SECOND FORM. 'bulk': how many values and letters a reading holds, each counted each time it is reached (what is shared counts as often as it is met; a slice's spare places count too). A statement '..UptoSaid' is the law's where the arguments, and the package variables that the reading takes, are together of bulk at most 1048576: NARROWER than '..Said'. Prove '..Said' where nothing that the law and all that it calls make is longer than what came in: it says more and counts as full. Else prove '..UptoSaid'. A law counts once. -/
mutual
def uptoBulk {H : Type} : DataW H → Nat
  | .lit (.string bytes) => bytes.length + 1
  | .lit _ => 1
  | .nil => 1
  | .ptr d => uptoBulk d + 1
  | .slice elems spare => uptoBulkAll elems + uptoBulkAll spare + 1
  | .agg parts => uptoBulkAll parts + 1
  | .iface _ d => uptoBulk d + 1
  | .map entries => uptoBulkEntries entries + 1
  | .held _ => 1
def uptoBulkAll {H : Type} : List (DataW H) → Nat
  | [] => 0
  | d :: r => uptoBulk d + uptoBulkAll r
def uptoBulkEntries {H : Type} : List (Lit × DataW H) → Nat
  | [] => 0
  | x :: r => uptoBulkEntry x + uptoBulkEntries r
def uptoBulkEntry {H : Type} : Lit × DataW H → Nat
  | (.string bytes, d) => bytes.length + uptoBulk d + 1
  | (_, d) => uptoBulk d + 1
 end
def uptoSmall : (H : Type) → List (DataW H) → Bool := fun _ ds => decide (uptoBulkAll ds ≤ 1048576)
def OpenSpec.upto (s : _root_.Go.ChangeSpec) : _root_.Go.OpenSpec := { _root_.Go.OpenSpec.ofChange s with cond := some uptoSmall }

/-- 'triunelaw16.JobsFail', WHERE WHAT IT READS IS OF BULK AT MOST 1048576: true; the input reads as it did. -/
def jobsFailUptoRow : OpenClaim := { program := "ytkpamaplmjlagaa", sum := "4816ec1699dc3f0bd8c4a0d3b109adfa7629d352b5f12384f70b51330188482b", func := "triune/triunelaw16.JobsFail", spec := "jobsFail", unfollowed := true, recurses := true, apart := false, narrowed := true }
def JobsFailUptoSaid : Prop := jobsFailUptoRow.holds Try.pinned (OpenSpec.upto jobsFailSpec)

/-- 'triunelaw12.VoteTells', WHERE WHAT IT READS IS OF BULK AT MOST 1048576: true; the input reads as it did. -/
def voteTellsUptoRow : OpenClaim := { program := "ytkpamaplmjlagaa", sum := "4816ec1699dc3f0bd8c4a0d3b109adfa7629d352b5f12384f70b51330188482b", func := "triune/triunelaw12.VoteTells", spec := "voteTells", unfollowed := true, recurses := true, apart := false, narrowed := true }
def VoteTellsUptoSaid : Prop := voteTellsUptoRow.holds Try.pinned (OpenSpec.upto voteTellsSpec)

/-- 'triunelaw12.VoteTurned', WHERE WHAT IT READS IS OF BULK AT MOST 1048576: true; the input reads as it did. -/
def voteTurnedUptoRow : OpenClaim := { program := "ytkpamaplmjlagaa", sum := "4816ec1699dc3f0bd8c4a0d3b109adfa7629d352b5f12384f70b51330188482b", func := "triune/triunelaw12.VoteTurned", spec := "voteTurned", unfollowed := true, recurses := true, apart := false, narrowed := true }
def VoteTurnedUptoSaid : Prop := voteTurnedUptoRow.holds Try.pinned (OpenSpec.upto voteTurnedSpec)

/-- 'triunelaw08.MasterEnds', WHERE WHAT IT READS IS OF BULK AT MOST 1048576: true; the input reads as it did. -/
def masterEndsUptoRow : OpenClaim := { program := "ytkpamaplmjlagaa", sum := "4816ec1699dc3f0bd8c4a0d3b109adfa7629d352b5f12384f70b51330188482b", func := "triune/triunelaw08.MasterEnds", spec := "masterEnds", inPlace := ["internal/reflectlite.TypeOf"], unfollowed := true, recurses := true, apart := false, narrowed := true }
def MasterEndsUptoSaid : Prop := masterEndsUptoRow.holds Try.pinned (OpenSpec.upto masterEndsSpec)

/-- 'triunelaw08.MasterGood', WHERE WHAT IT READS IS OF BULK AT MOST 1048576: true; the input reads as it did. -/
def masterGoodUptoRow : OpenClaim := { program := "ytkpamaplmjlagaa", sum := "4816ec1699dc3f0bd8c4a0d3b109adfa7629d352b5f12384f70b51330188482b", func := "triune/triunelaw08.MasterGood", spec := "masterGood", inPlace := ["internal/reflectlite.TypeOf"], unfollowed := true, recurses := true, apart := false, narrowed := true }
def MasterGoodUptoSaid : Prop := masterGoodUptoRow.holds Try.pinned (OpenSpec.upto masterGoodSpec)

/-- 'triunelaw13.JudgeTells', WHERE WHAT IT READS IS OF BULK AT MOST 1048576: true; the input reads as it did. -/
def judgeTellsUptoRow : OpenClaim := { program := "ytkpamaplmjlagaa", sum := "4816ec1699dc3f0bd8c4a0d3b109adfa7629d352b5f12384f70b51330188482b", func := "triune/triunelaw13.JudgeTells", spec := "judgeTells", unfollowed := true, recurses := true, apart := false, narrowed := true }
def JudgeTellsUptoSaid : Prop := judgeTellsUptoRow.holds Try.pinned (OpenSpec.upto judgeTellsSpec)

/-- 'triunelaw13.JudgeTwo', WHERE WHAT IT READS IS OF BULK AT MOST 1048576: true; the input reads as it did. -/
def judgeTwoUptoRow : OpenClaim := { program := "ytkpamaplmjlagaa", sum := "4816ec1699dc3f0bd8c4a0d3b109adfa7629d352b5f12384f70b51330188482b", func := "triune/triunelaw13.JudgeTwo", spec := "judgeTwo", unfollowed := true, recurses := true, apart := false, narrowed := true }
def JudgeTwoUptoSaid : Prop := judgeTwoUptoRow.holds Try.pinned (OpenSpec.upto judgeTwoSpec)

/-- 'triunelaw13.JudgeFine', WHERE WHAT IT READS IS OF BULK AT MOST 1048576: true; the input reads as it did. -/
def judgeFineUptoRow : OpenClaim := { program := "ytkpamaplmjlagaa", sum := "4816ec1699dc3f0bd8c4a0d3b109adfa7629d352b5f12384f70b51330188482b", func := "triune/triunelaw13.JudgeFine", spec := "judgeFine", unfollowed := true, recurses := true, apart := false, narrowed := true }
def JudgeFineUptoSaid : Prop := judgeFineUptoRow.holds Try.pinned (OpenSpec.upto judgeFineSpec)

end Rows
end Go.Proofs.Ytkpamaplmjlagaa
