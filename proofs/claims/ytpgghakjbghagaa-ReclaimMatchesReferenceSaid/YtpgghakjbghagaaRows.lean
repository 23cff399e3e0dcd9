/-
  No cell of these rows narrows 'for every input' (looked for: loops, veiled, ifaces, maps, wideKeys, modest, calm, conditions, laid).
  DERIVED. THE GIVEN ROWS OF THIS SEAT. 5 by the template 'for every input the law returns true; each argument reads behind the call as it read before'; 0 by the template 'total and deterministic' (their statements: YtpgghakjbghagaaTotals.lean).
  GIVEN WITH THE SEED: the statements are not yours to turn. If you find one false, say at which input.
  Laid BY PROGRAM, IN A SANDBOX (cutbox-rows.mjs): the forced cells as the released guide's own fill.sh prints them over the translation a12d3d746b9db4ca… (all of the seat's roots in one cut). By AI agents, Wed Nov 11 2026. No macro, syntax, notation, axiom, sorry.
-/
import Derived.Test.YtpgghakjbghagaaChecked
import GoSem.Claim
import GoSem.ClaimJoined
import GoSem.ClaimMapViews
import Derived.JoinedTies
import Derived.KernelRfl
namespace Go.Proofs.Ytpgghakjbghagaa
/- THE CELL 'sum', in the pinned program and in every row, IS THE sha256 OF THE DUMP (.gsa) THAT YtpgghakjbghagaaProg.lean LOADS. Nothing in Lean hashes anything: it is a label: what it is worth is what the hold of that sum in a sandbox is worth. -/
noncomputable def Try.pinned : Pinned := { name := "ytpgghakjbghagaa", sum := "a12d3d746b9db4cafd5198888e639b6a03c31e74cbd70eed28564aa8875f4d55", checked := Try.checked }
namespace Rows
def none {H : Type} : Left H := { results := [], args := [] }

/-- 'wageofficelaw41.ReclaimMatchesReference': WHATEVER THE INPUT: true; the input reads as it did. -/
def reclaimMatchesReferenceSpec : ChangeSpec := { name := "reclaimMatchesReference", fn := fun _ => fun
  | [d1, d2, d3, d4, d5] => { results := [.lit (.bool true)], args := [d1, d2, d3, d4, d5] }
  | _ => none }
def reclaimMatchesReferenceRow : OpenClaim := { program := "ytpgghakjbghagaa", sum := "a12d3d746b9db4cafd5198888e639b6a03c31e74cbd70eed28564aa8875f4d55", func := "wageoffice/wageofficelaw41.ReclaimMatchesReference", spec := "reclaimMatchesReference", unfollowed := true, recurses := true, apart := false }
def ReclaimMatchesReferenceSaid : Prop := reclaimMatchesReferenceRow.holds Try.pinned (OpenSpec.ofChange reclaimMatchesReferenceSpec)

/-- ITS FALSE NEIGHBOUR: 'it returns false'. Refute it at one input. -/
def reclaimMatchesReferenceWrong : ChangeSpec := { name := "reclaimMatchesReference", fn := fun _ => fun
  | [d1, d2, d3, d4, d5] => { results := [.lit (.bool false)], args := [d1, d2, d3, d4, d5] }
  | _ => none }
def ReclaimMatchesReferenceWrongFalsely : Prop := reclaimMatchesReferenceRow.holds Try.pinned (OpenSpec.ofChange reclaimMatchesReferenceWrong)

/-- 'wageofficelaw41.ReclaimAsDue': WHATEVER THE INPUT: true; the input reads as it did. -/
def reclaimAsDueSpec : ChangeSpec := { name := "reclaimAsDue", fn := fun _ => fun
  | [d] => { results := [.lit (.bool true)], args := [d] }
  | _ => none }
def reclaimAsDueRow : OpenClaim := { program := "ytpgghakjbghagaa", sum := "a12d3d746b9db4cafd5198888e639b6a03c31e74cbd70eed28564aa8875f4d55", func := "wageoffice/wageofficelaw41.ReclaimAsDue", spec := "reclaimAsDue", unfollowed := true, recurses := true, apart := false }
def ReclaimAsDueSaid : Prop := reclaimAsDueRow.holds Try.pinned (OpenSpec.ofChange reclaimAsDueSpec)

/-- ITS FALSE NEIGHBOUR: 'it returns false'. Refute it at one input. -/
def reclaimAsDueWrong : ChangeSpec := { name := "reclaimAsDue", fn := fun _ => fun
  | [d] => { results := [.lit (.bool false)], args := [d] }
  | _ => none }
def ReclaimAsDueWrongFalsely : Prop := reclaimAsDueRow.holds Try.pinned (OpenSpec.ofChange reclaimAsDueWrong)

/-- 'wageofficelaw41.ReclaimSecure': WHATEVER THE INPUT: true; the input reads as it did. -/
def reclaimSecureSpec : ChangeSpec := { name := "reclaimSecure", fn := fun _ => fun
  | [d1, d2] => { results := [.lit (.bool true)], args := [d1, d2] }
  | _ => none }
def reclaimSecureRow : OpenClaim := { program := "ytpgghakjbghagaa", sum := "a12d3d746b9db4cafd5198888e639b6a03c31e74cbd70eed28564aa8875f4d55", func := "wageoffice/wageofficelaw41.ReclaimSecure", spec := "reclaimSecure", unfollowed := true, recurses := true, apart := false }
def ReclaimSecureSaid : Prop := reclaimSecureRow.holds Try.pinned (OpenSpec.ofChange reclaimSecureSpec)

/-- ITS FALSE NEIGHBOUR: 'it returns false'. Refute it at one input. -/
def reclaimSecureWrong : ChangeSpec := { name := "reclaimSecure", fn := fun _ => fun
  | [d1, d2] => { results := [.lit (.bool false)], args := [d1, d2] }
  | _ => none }
def ReclaimSecureWrongFalsely : Prop := reclaimSecureRow.holds Try.pinned (OpenSpec.ofChange reclaimSecureWrong)

/-- 'wageofficelaw41.ReclaimTooMuch': WHATEVER THE INPUT: true; the input reads as it did. -/
def reclaimTooMuchSpec : ChangeSpec := { name := "reclaimTooMuch", fn := fun _ => fun
  | [d1, d2, d3] => { results := [.lit (.bool true)], args := [d1, d2, d3] }
  | _ => none }
def reclaimTooMuchRow : OpenClaim := { program := "ytpgghakjbghagaa", sum := "a12d3d746b9db4cafd5198888e639b6a03c31e74cbd70eed28564aa8875f4d55", func := "wageoffice/wageofficelaw41.ReclaimTooMuch", spec := "reclaimTooMuch", unfollowed := true, recurses := true, apart := false }
def ReclaimTooMuchSaid : Prop := reclaimTooMuchRow.holds Try.pinned (OpenSpec.ofChange reclaimTooMuchSpec)

/-- ITS FALSE NEIGHBOUR: 'it returns false'. Refute it at one input. -/
def reclaimTooMuchWrong : ChangeSpec := { name := "reclaimTooMuch", fn := fun _ => fun
  | [d1, d2, d3] => { results := [.lit (.bool false)], args := [d1, d2, d3] }
  | _ => none }
def ReclaimTooMuchWrongFalsely : Prop := reclaimTooMuchRow.holds Try.pinned (OpenSpec.ofChange reclaimTooMuchWrong)

/-- 'wageofficelaw41.ReclaimSchedules': WHATEVER THE INPUT: true; the input reads as it did. -/
def reclaimSchedulesSpec : ChangeSpec := { name := "reclaimSchedules", fn := fun _ => fun
  | [d1, d2, d3, d4] => { results := [.lit (.bool true)], args := [d1, d2, d3, d4] }
  | _ => none }
def reclaimSchedulesRow : OpenClaim := { program := "ytpgghakjbghagaa", sum := "a12d3d746b9db4cafd5198888e639b6a03c31e74cbd70eed28564aa8875f4d55", func := "wageoffice/wageofficelaw41.ReclaimSchedules", spec := "reclaimSchedules", unfollowed := true, recurses := true, apart := false }
def ReclaimSchedulesSaid : Prop := reclaimSchedulesRow.holds Try.pinned (OpenSpec.ofChange reclaimSchedulesSpec)

/-- ITS FALSE NEIGHBOUR: 'it returns false'. Refute it at one input. -/
def reclaimSchedulesWrong : ChangeSpec := { name := "reclaimSchedules", fn := fun _ => fun
  | [d1, d2, d3, d4] => { results := [.lit (.bool false)], args := [d1, d2, d3, d4] }
  | _ => none }
def ReclaimSchedulesWrongFalsely : Prop := reclaimSchedulesRow.holds Try.pinned (OpenSpec.ofChange reclaimSchedulesWrong)

/- THE SECOND FORM. 'bulk': how many values and letters a reading holds, each counted each time it is reached (what is shared counts as often as it is met; a slice's spare places count too). A statement '..UptoSaid' is the law's where the arguments, and the package variables that the reading takes, are together of bulk at most 1048576: NARROWER than '..Said'. Prove '..Said' where nothing that the law and all that it calls make is longer than what came in: it says more and counts as full. Else prove '..UptoSaid'. A law counts once. -/
mutual
def uptoBulk {H : Type} : DataW H → Nat
  | .lit (.string bytes) => bytes.length + 1
  | .lit _ => 1
  | .nil => 1
  | .ptr d => uptoBulk d + 1
  | .slice elems spare => uptoBulkAll elems + uptoBulkAll spare + 1
  | .agg parts => uptoBulkAll parts + 1
  | .iface _ d => uptoBulk d + 1
  | .map entries => uptoBulkEntries entries + 1
  | .held _ => 1
def uptoBulkAll {H : Type} : List (DataW H) → Nat
  | [] => 0
  | d :: r => uptoBulk d + uptoBulkAll r
def uptoBulkEntries {H : Type} : List (Lit × DataW H) → Nat
  | [] => 0
  | x :: r => uptoBulkEntry x + uptoBulkEntries r
def uptoBulkEntry {H : Type} : Lit × DataW H → Nat
  | (.string bytes, d) => bytes.length + uptoBulk d + 1
  | (_, d) => uptoBulk d + 1
 end
def uptoSmall : (H : Type) → List (DataW H) → Bool := fun _ ds => decide (uptoBulkAll ds ≤ 1048576)
def OpenSpec.upto (s : _root_.Go.ChangeSpec) : _root_.Go.OpenSpec := { _root_.Go.OpenSpec.ofChange s with cond := some uptoSmall }

/-- 'wageofficelaw41.ReclaimMatchesReference', WHERE WHAT IT READS IS OF BULK AT MOST 1048576: true; the input reads as it did. -/
def reclaimMatchesReferenceUptoRow : OpenClaim := { program := "ytpgghakjbghagaa", sum := "a12d3d746b9db4cafd5198888e639b6a03c31e74cbd70eed28564aa8875f4d55", func := "wageoffice/wageofficelaw41.ReclaimMatchesReference", spec := "reclaimMatchesReference", unfollowed := true, recurses := true, apart := false, narrowed := true }
def ReclaimMatchesReferenceUptoSaid : Prop := reclaimMatchesReferenceUptoRow.holds Try.pinned (OpenSpec.upto reclaimMatchesReferenceSpec)

/-- 'wageofficelaw41.ReclaimAsDue', WHERE WHAT IT READS IS OF BULK AT MOST 1048576: true; the input reads as it did. -/
def reclaimAsDueUptoRow : OpenClaim := { program := "ytpgghakjbghagaa", sum := "a12d3d746b9db4cafd5198888e639b6a03c31e74cbd70eed28564aa8875f4d55", func := "wageoffice/wageofficelaw41.ReclaimAsDue", spec := "reclaimAsDue", unfollowed := true, recurses := true, apart := false, narrowed := true }
def ReclaimAsDueUptoSaid : Prop := reclaimAsDueUptoRow.holds Try.pinned (OpenSpec.upto reclaimAsDueSpec)

/-- 'wageofficelaw41.ReclaimSecure', WHERE WHAT IT READS IS OF BULK AT MOST 1048576: true; the input reads as it did. -/
def reclaimSecureUptoRow : OpenClaim := { program := "ytpgghakjbghagaa", sum := "a12d3d746b9db4cafd5198888e639b6a03c31e74cbd70eed28564aa8875f4d55", func := "wageoffice/wageofficelaw41.ReclaimSecure", spec := "reclaimSecure", unfollowed := true, recurses := true, apart := false, narrowed := true }
def ReclaimSecureUptoSaid : Prop := reclaimSecureUptoRow.holds Try.pinned (OpenSpec.upto reclaimSecureSpec)

/-- 'wageofficelaw41.ReclaimTooMuch', WHERE WHAT IT READS IS OF BULK AT MOST 1048576: true; the input reads as it did. -/
def reclaimTooMuchUptoRow : OpenClaim := { program := "ytpgghakjbghagaa", sum := "a12d3d746b9db4cafd5198888e639b6a03c31e74cbd70eed28564aa8875f4d55", func := "wageoffice/wageofficelaw41.ReclaimTooMuch", spec := "reclaimTooMuch", unfollowed := true, recurses := true, apart := false, narrowed := true }
def ReclaimTooMuchUptoSaid : Prop := reclaimTooMuchUptoRow.holds Try.pinned (OpenSpec.upto reclaimTooMuchSpec)

/-- 'wageofficelaw41.ReclaimSchedules', WHERE WHAT IT READS IS OF BULK AT MOST 1048576: true; the input reads as it did. -/
def reclaimSchedulesUptoRow : OpenClaim := { program := "ytpgghakjbghagaa", sum := "a12d3d746b9db4cafd5198888e639b6a03c31e74cbd70eed28564aa8875f4d55", func := "wageoffice/wageofficelaw41.ReclaimSchedules", spec := "reclaimSchedules", unfollowed := true, recurses := true, apart := false, narrowed := true }
def ReclaimSchedulesUptoSaid : Prop := reclaimSchedulesUptoRow.holds Try.pinned (OpenSpec.upto reclaimSchedulesSpec)

end Rows
end Go.Proofs.Ytpgghakjbghagaa
