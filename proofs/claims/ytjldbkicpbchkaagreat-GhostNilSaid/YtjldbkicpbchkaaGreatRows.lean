/-
  No cell of these rows narrows 'for every input' (looked for: loops, veiled, ifaces, maps, wideKeys, modest, calm, conditions, laid).
  DERIVED. THE GIVEN ROWS OF THIS SEAT. 4 by the template 'for every input the law returns true; each argument reads behind the call as it read before'; 0 by the template 'total and deterministic' (their statements: YtjldbkicpbchkaaGreatTotals.lean).
  GIVEN WITH THE SEED: the statements are not yours to turn. If you find one false, say at which input.
  Laid BY PROGRAM, IN A SANDBOX (cutbox-rows.mjs): the forced cells as the released guide's own fill.sh prints them over the translation 0c5a5d1b71a39a4b… (all of the seat's roots in one cut). By AI agents, Wed Nov 11 2026. No macro, syntax, notation, axiom, sorry.
-/
import Derived.Test.YtjldbkicpbchkaaGreatChecked
import GoSem.Claim
import GoSem.ClaimJoined
import GoSem.ClaimMapViews
import Derived.JoinedTies
import Derived.KernelRfl
namespace Go.Proofs.YtjldbkicpbchkaaGreat
/- THE CELL 'sum', in the pinned program and in every row, IS THE sha256 OF THE DUMP (.gsa) THAT YtjldbkicpbchkaaGreatProg.lean LOADS. Nothing in Lean hashes anything: it is a label: what it is worth is what the hold of that sum in a sandbox is worth. -/
noncomputable def Tryz.pinned : Pinned := { name := "ytjldbkicpbchkaagreat", sum := "0c5a5d1b71a39a4b259826ee754eaebf77156966181255c2e1b6de6fe01d9247", checked := Tryz.checked }
namespace Rows
def none {H : Type} : Left H := { results := [], args := [] }

/-- 'coadjutorlaw31.GhostNil': WHATEVER THE INPUT: true; the input reads as it did. -/
def ghostNilSpec : ChangeSpec := { name := "ghostNil", fn := fun _ => fun
  | [d1, d2, d3] => { results := [.lit (.bool true)], args := [d1, d2, d3] }
  | _ => none }
def ghostNilRow : OpenClaim := { program := "ytjldbkicpbchkaagreat", sum := "0c5a5d1b71a39a4b259826ee754eaebf77156966181255c2e1b6de6fe01d9247", func := "coadjutor/coadjutorlaw31.GhostNil", spec := "ghostNil", inPlace := ["internal/abi.NoEscape", "internal/bytealg.MakeNoZero"], unfollowed := true, recurses := true, apart := false }
def GhostNilSaid : Prop := ghostNilRow.holds Tryz.pinned (OpenSpec.ofChange ghostNilSpec)

/-- ITS FALSE NEIGHBOUR: 'it returns false'. Refute it at one input. -/
def ghostNilWrong : ChangeSpec := { name := "ghostNil", fn := fun _ => fun
  | [d1, d2, d3] => { results := [.lit (.bool false)], args := [d1, d2, d3] }
  | _ => none }
def GhostNilWrongFalsely : Prop := ghostNilRow.holds Tryz.pinned (OpenSpec.ofChange ghostNilWrong)

/-- 'coadjutorlaw28.UpdateRecords': WHATEVER THE INPUT: true; the input reads as it did. -/
def updateRecordsSpec : ChangeSpec := { name := "updateRecords", fn := fun _ => fun
  | [d1, d2] => { results := [.lit (.bool true)], args := [d1, d2] }
  | _ => none }
def updateRecordsRow : OpenClaim := { program := "ytjldbkicpbchkaagreat", sum := "0c5a5d1b71a39a4b259826ee754eaebf77156966181255c2e1b6de6fe01d9247", func := "coadjutor/coadjutorlaw28.UpdateRecords", spec := "updateRecords", inPlace := ["internal/abi.NoEscape", "internal/bytealg.MakeNoZero"], unfollowed := true, recurses := true, apart := false }
def UpdateRecordsSaid : Prop := updateRecordsRow.holds Tryz.pinned (OpenSpec.ofChange updateRecordsSpec)

/-- ITS FALSE NEIGHBOUR: 'it returns false'. Refute it at one input. -/
def updateRecordsWrong : ChangeSpec := { name := "updateRecords", fn := fun _ => fun
  | [d1, d2] => { results := [.lit (.bool false)], args := [d1, d2] }
  | _ => none }
def UpdateRecordsWrongFalsely : Prop := updateRecordsRow.holds Tryz.pinned (OpenSpec.ofChange updateRecordsWrong)

/-- 'coadjutorlaw28.UpdateNil': WHATEVER THE INPUT: true; the input reads as it did. -/
def updateNilSpec : ChangeSpec := { name := "updateNil", fn := fun _ => fun
  | [d1, d2, d3] => { results := [.lit (.bool true)], args := [d1, d2, d3] }
  | _ => none }
def updateNilRow : OpenClaim := { program := "ytjldbkicpbchkaagreat", sum := "0c5a5d1b71a39a4b259826ee754eaebf77156966181255c2e1b6de6fe01d9247", func := "coadjutor/coadjutorlaw28.UpdateNil", spec := "updateNil", inPlace := ["internal/abi.NoEscape", "internal/bytealg.MakeNoZero"], unfollowed := true, recurses := true, apart := false }
def UpdateNilSaid : Prop := updateNilRow.holds Tryz.pinned (OpenSpec.ofChange updateNilSpec)

/-- ITS FALSE NEIGHBOUR: 'it returns false'. Refute it at one input. -/
def updateNilWrong : ChangeSpec := { name := "updateNil", fn := fun _ => fun
  | [d1, d2, d3] => { results := [.lit (.bool false)], args := [d1, d2, d3] }
  | _ => none }
def UpdateNilWrongFalsely : Prop := updateNilRow.holds Tryz.pinned (OpenSpec.ofChange updateNilWrong)

/-- 'coadjutorlaw28.UpdateServes': WHATEVER THE INPUT: true; the input reads as it did. -/
def updateServesSpec : ChangeSpec := { name := "updateServes", fn := fun _ => fun
  | [d1, d2] => { results := [.lit (.bool true)], args := [d1, d2] }
  | _ => none }
def updateServesRow : OpenClaim := { program := "ytjldbkicpbchkaagreat", sum := "0c5a5d1b71a39a4b259826ee754eaebf77156966181255c2e1b6de6fe01d9247", func := "coadjutor/coadjutorlaw28.UpdateServes", spec := "updateServes", inPlace := ["internal/abi.NoEscape", "internal/bytealg.MakeNoZero"], unfollowed := true, recurses := true, apart := false }
def UpdateServesSaid : Prop := updateServesRow.holds Tryz.pinned (OpenSpec.ofChange updateServesSpec)

/-- ITS FALSE NEIGHBOUR: 'it returns false'. Refute it at one input. -/
def updateServesWrong : ChangeSpec := { name := "updateServes", fn := fun _ => fun
  | [d1, d2] => { results := [.lit (.bool false)], args := [d1, d2] }
  | _ => none }
def UpdateServesWrongFalsely : Prop := updateServesRow.holds Tryz.pinned (OpenSpec.ofChange updateServesWrong)

/- THE SECOND FORM. 'bulk': how many values and letters a reading holds, each counted each time it is reached (what is shared counts as often as it is met; a slice's spare places count too). A statement '..UptoSaid' is the law's where the arguments, and the package variables that the reading takes, are together of bulk at most 1048576: NARROWER than '..Said'. Prove '..Said' where nothing that the law and all that it calls make is longer than what came in: it says more and counts as full. Else prove '..UptoSaid'. A law counts once. -/
mutual
def uptoBulk {H : Type} : DataW H → Nat
  | .lit (.string bytes) => bytes.length + 1
  | .lit _ => 1
  | .nil => 1
  | .ptr d => uptoBulk d + 1
  | .slice elems spare => uptoBulkAll elems + uptoBulkAll spare + 1
  | .agg parts => uptoBulkAll parts + 1
  | .iface _ d => uptoBulk d + 1
  | .map entries => uptoBulkEntries entries + 1
  | .held _ => 1
def uptoBulkAll {H : Type} : List (DataW H) → Nat
  | [] => 0
  | d :: r => uptoBulk d + uptoBulkAll r
def uptoBulkEntries {H : Type} : List (Lit × DataW H) → Nat
  | [] => 0
  | x :: r => uptoBulkEntry x + uptoBulkEntries r
def uptoBulkEntry {H : Type} : Lit × DataW H → Nat
  | (.string bytes, d) => bytes.length + uptoBulk d + 1
  | (_, d) => uptoBulk d + 1
 end
def uptoSmall : (H : Type) → List (DataW H) → Bool := fun _ ds => decide (uptoBulkAll ds ≤ 1048576)
def OpenSpec.upto (s : _root_.Go.ChangeSpec) : _root_.Go.OpenSpec := { _root_.Go.OpenSpec.ofChange s with cond := some uptoSmall }

/-- 'coadjutorlaw31.GhostNil', WHERE WHAT IT READS IS OF BULK AT MOST 1048576: true; the input reads as it did. -/
def ghostNilUptoRow : OpenClaim := { program := "ytjldbkicpbchkaagreat", sum := "0c5a5d1b71a39a4b259826ee754eaebf77156966181255c2e1b6de6fe01d9247", func := "coadjutor/coadjutorlaw31.GhostNil", spec := "ghostNil", inPlace := ["internal/abi.NoEscape", "internal/bytealg.MakeNoZero"], unfollowed := true, recurses := true, apart := false, narrowed := true }
def GhostNilUptoSaid : Prop := ghostNilUptoRow.holds Tryz.pinned (OpenSpec.upto ghostNilSpec)

/-- 'coadjutorlaw28.UpdateRecords', WHERE WHAT IT READS IS OF BULK AT MOST 1048576: true; the input reads as it did. -/
def updateRecordsUptoRow : OpenClaim := { program := "ytjldbkicpbchkaagreat", sum := "0c5a5d1b71a39a4b259826ee754eaebf77156966181255c2e1b6de6fe01d9247", func := "coadjutor/coadjutorlaw28.UpdateRecords", spec := "updateRecords", inPlace := ["internal/abi.NoEscape", "internal/bytealg.MakeNoZero"], unfollowed := true, recurses := true, apart := false, narrowed := true }
def UpdateRecordsUptoSaid : Prop := updateRecordsUptoRow.holds Tryz.pinned (OpenSpec.upto updateRecordsSpec)

/-- 'coadjutorlaw28.UpdateNil', WHERE WHAT IT READS IS OF BULK AT MOST 1048576: true; the input reads as it did. -/
def updateNilUptoRow : OpenClaim := { program := "ytjldbkicpbchkaagreat", sum := "0c5a5d1b71a39a4b259826ee754eaebf77156966181255c2e1b6de6fe01d9247", func := "coadjutor/coadjutorlaw28.UpdateNil", spec := "updateNil", inPlace := ["internal/abi.NoEscape", "internal/bytealg.MakeNoZero"], unfollowed := true, recurses := true, apart := false, narrowed := true }
def UpdateNilUptoSaid : Prop := updateNilUptoRow.holds Tryz.pinned (OpenSpec.upto updateNilSpec)

/-- 'coadjutorlaw28.UpdateServes', WHERE WHAT IT READS IS OF BULK AT MOST 1048576: true; the input reads as it did. -/
def updateServesUptoRow : OpenClaim := { program := "ytjldbkicpbchkaagreat", sum := "0c5a5d1b71a39a4b259826ee754eaebf77156966181255c2e1b6de6fe01d9247", func := "coadjutor/coadjutorlaw28.UpdateServes", spec := "updateServes", inPlace := ["internal/abi.NoEscape", "internal/bytealg.MakeNoZero"], unfollowed := true, recurses := true, apart := false, narrowed := true }
def UpdateServesUptoSaid : Prop := updateServesUptoRow.holds Tryz.pinned (OpenSpec.upto updateServesSpec)

end Rows
end Go.Proofs.YtjldbkicpbchkaaGreat
