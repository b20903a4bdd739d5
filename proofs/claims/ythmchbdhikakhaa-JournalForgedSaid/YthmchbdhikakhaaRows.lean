/-
  No cell of these rows narrows 'for every input' (looked for: loops, veiled, ifaces, maps, wideKeys, modest, calm, conditions, laid).
  DERIVED. THE GIVEN ROWS OF THIS SEAT. 10 by the template 'for every input the law returns true; each argument reads behind the call as it read before'; 0 by the template 'total and deterministic' (their statements: YthmchbdhikakhaaTotals.lean).
  GIVEN WITH THE SEED: the statements are not yours to turn. If you find one false, say at which input.
  Laid BY PROGRAM, IN A SANDBOX (cutbox-rows.mjs): the forced cells as the released guide's own fill.sh prints them over the translation ce53db8f26e29283… (all of the seat's roots in one cut). By AI agents, Wed Nov 11 2026. No macro, syntax, notation, axiom, sorry.
-/
import Derived.Test.YthmchbdhikakhaaChecked
import GoSem.Claim
import GoSem.ClaimJoined
import GoSem.ClaimMapViews
import Derived.JoinedTies
import Derived.KernelRfl
namespace Go.Proofs.Ythmchbdhikakhaa
/- THE CELL 'sum', in the pinned program and in every row, IS THE sha256 OF THE DUMP (.gsa) THAT YthmchbdhikakhaaProg.lean LOADS. Nothing in Lean hashes anything: it is a label: what it is worth is what the hold of that sum in a sandbox is worth. -/
noncomputable def Try.pinned : Pinned := { name := "ythmchbdhikakhaa", sum := "ce53db8f26e29283cc4a948fa49cdeef224ffdce607b099c9dea79781504c9db", checked := Try.checked }
namespace Rows
def none {H : Type} : Left H := { results := [], args := [] }

/-- 'custumallaw10.DiskLasts': WHATEVER THE INPUT: true; the input reads as it did. -/
def diskLastsSpec : ChangeSpec := { name := "diskLasts", fn := fun _ => fun
  | [d1, d2, d3] => { results := [.lit (.bool true)], args := [d1, d2, d3] }
  | _ => none }
def diskLastsRow : OpenClaim := { program := "ythmchbdhikakhaa", sum := "ce53db8f26e29283cc4a948fa49cdeef224ffdce607b099c9dea79781504c9db", func := "custumal/custumallaw10.DiskLasts", spec := "diskLasts", unfollowed := true, recurses := true, apart := false }
def DiskLastsSaid : Prop := diskLastsRow.holds Try.pinned (OpenSpec.ofChange diskLastsSpec)

/-- ITS FALSE NEIGHBOUR: 'it returns false'. Refute it at one input. -/
def diskLastsWrong : ChangeSpec := { name := "diskLasts", fn := fun _ => fun
  | [d1, d2, d3] => { results := [.lit (.bool false)], args := [d1, d2, d3] }
  | _ => none }
def DiskLastsWrongFalsely : Prop := diskLastsRow.holds Try.pinned (OpenSpec.ofChange diskLastsWrong)

/-- 'custumallaw10.DiskJobs': WHATEVER THE INPUT: true; the input reads as it did. -/
def diskJobsSpec : ChangeSpec := { name := "diskJobs", fn := fun _ => fun
  | [d1, d2] => { results := [.lit (.bool true)], args := [d1, d2] }
  | _ => none }
def diskJobsRow : OpenClaim := { program := "ythmchbdhikakhaa", sum := "ce53db8f26e29283cc4a948fa49cdeef224ffdce607b099c9dea79781504c9db", func := "custumal/custumallaw10.DiskJobs", spec := "diskJobs", unfollowed := true, recurses := true, apart := false }
def DiskJobsSaid : Prop := diskJobsRow.holds Try.pinned (OpenSpec.ofChange diskJobsSpec)

/-- ITS FALSE NEIGHBOUR: 'it returns false'. Refute it at one input. -/
def diskJobsWrong : ChangeSpec := { name := "diskJobs", fn := fun _ => fun
  | [d1, d2] => { results := [.lit (.bool false)], args := [d1, d2] }
  | _ => none }
def DiskJobsWrongFalsely : Prop := diskJobsRow.holds Try.pinned (OpenSpec.ofChange diskJobsWrong)

/-- 'custumallaw10.DiskNews': WHATEVER THE INPUT: true; the input reads as it did. -/
def diskNewsSpec : ChangeSpec := { name := "diskNews", fn := fun _ => fun
  | [d] => { results := [.lit (.bool true)], args := [d] }
  | _ => none }
def diskNewsRow : OpenClaim := { program := "ythmchbdhikakhaa", sum := "ce53db8f26e29283cc4a948fa49cdeef224ffdce607b099c9dea79781504c9db", func := "custumal/custumallaw10.DiskNews", spec := "diskNews", unfollowed := true, recurses := true, apart := false }
def DiskNewsSaid : Prop := diskNewsRow.holds Try.pinned (OpenSpec.ofChange diskNewsSpec)

/-- ITS FALSE NEIGHBOUR: 'it returns false'. Refute it at one input. -/
def diskNewsWrong : ChangeSpec := { name := "diskNews", fn := fun _ => fun
  | [d] => { results := [.lit (.bool false)], args := [d] }
  | _ => none }
def DiskNewsWrongFalsely : Prop := diskNewsRow.holds Try.pinned (OpenSpec.ofChange diskNewsWrong)

/-- 'custumallaw12.ExtentCuts': WHATEVER THE INPUT: true; the input reads as it did. -/
def extentCutsSpec : ChangeSpec := { name := "extentCuts", fn := fun _ => fun
  | [d1, d2, d3] => { results := [.lit (.bool true)], args := [d1, d2, d3] }
  | _ => none }
def extentCutsRow : OpenClaim := { program := "ythmchbdhikakhaa", sum := "ce53db8f26e29283cc4a948fa49cdeef224ffdce607b099c9dea79781504c9db", func := "custumal/custumallaw12.ExtentCuts", spec := "extentCuts", unfollowed := true, recurses := true, apart := false }
def ExtentCutsSaid : Prop := extentCutsRow.holds Try.pinned (OpenSpec.ofChange extentCutsSpec)

/-- ITS FALSE NEIGHBOUR: 'it returns false'. Refute it at one input. -/
def extentCutsWrong : ChangeSpec := { name := "extentCuts", fn := fun _ => fun
  | [d1, d2, d3] => { results := [.lit (.bool false)], args := [d1, d2, d3] }
  | _ => none }
def ExtentCutsWrongFalsely : Prop := extentCutsRow.holds Try.pinned (OpenSpec.ofChange extentCutsWrong)

/-- 'custumallaw12.ExtentAreas': WHATEVER THE INPUT: true; the input reads as it did. -/
def extentAreasSpec : ChangeSpec := { name := "extentAreas", fn := fun _ => fun
  | [d1, d2, d3] => { results := [.lit (.bool true)], args := [d1, d2, d3] }
  | _ => none }
def extentAreasRow : OpenClaim := { program := "ythmchbdhikakhaa", sum := "ce53db8f26e29283cc4a948fa49cdeef224ffdce607b099c9dea79781504c9db", func := "custumal/custumallaw12.ExtentAreas", spec := "extentAreas", unfollowed := true, recurses := true, apart := false }
def ExtentAreasSaid : Prop := extentAreasRow.holds Try.pinned (OpenSpec.ofChange extentAreasSpec)

/-- ITS FALSE NEIGHBOUR: 'it returns false'. Refute it at one input. -/
def extentAreasWrong : ChangeSpec := { name := "extentAreas", fn := fun _ => fun
  | [d1, d2, d3] => { results := [.lit (.bool false)], args := [d1, d2, d3] }
  | _ => none }
def ExtentAreasWrongFalsely : Prop := extentAreasRow.holds Try.pinned (OpenSpec.ofChange extentAreasWrong)

/-- 'custumallaw12.ExtentZeros': WHATEVER THE INPUT: true; the input reads as it did. -/
def extentZerosSpec : ChangeSpec := { name := "extentZeros", fn := fun _ => fun
  | [d1, d2, d3] => { results := [.lit (.bool true)], args := [d1, d2, d3] }
  | _ => none }
def extentZerosRow : OpenClaim := { program := "ythmchbdhikakhaa", sum := "ce53db8f26e29283cc4a948fa49cdeef224ffdce607b099c9dea79781504c9db", func := "custumal/custumallaw12.ExtentZeros", spec := "extentZeros", unfollowed := true, recurses := true, apart := false }
def ExtentZerosSaid : Prop := extentZerosRow.holds Try.pinned (OpenSpec.ofChange extentZerosSpec)

/-- ITS FALSE NEIGHBOUR: 'it returns false'. Refute it at one input. -/
def extentZerosWrong : ChangeSpec := { name := "extentZeros", fn := fun _ => fun
  | [d1, d2, d3] => { results := [.lit (.bool false)], args := [d1, d2, d3] }
  | _ => none }
def ExtentZerosWrongFalsely : Prop := extentZerosRow.holds Try.pinned (OpenSpec.ofChange extentZerosWrong)

/-- 'custumallaw11.JournalNews': WHATEVER THE INPUT: true; the input reads as it did. -/
def journalNewsSpec : ChangeSpec := { name := "journalNews", fn := fun _ => fun
  | [d1, d2, d3] => { results := [.lit (.bool true)], args := [d1, d2, d3] }
  | _ => none }
def journalNewsRow : OpenClaim := { program := "ythmchbdhikakhaa", sum := "ce53db8f26e29283cc4a948fa49cdeef224ffdce607b099c9dea79781504c9db", func := "custumal/custumallaw11.JournalNews", spec := "journalNews", unfollowed := true, recurses := true, apart := false }
def JournalNewsSaid : Prop := journalNewsRow.holds Try.pinned (OpenSpec.ofChange journalNewsSpec)

/-- ITS FALSE NEIGHBOUR: 'it returns false'. Refute it at one input. -/
def journalNewsWrong : ChangeSpec := { name := "journalNews", fn := fun _ => fun
  | [d1, d2, d3] => { results := [.lit (.bool false)], args := [d1, d2, d3] }
  | _ => none }
def JournalNewsWrongFalsely : Prop := journalNewsRow.holds Try.pinned (OpenSpec.ofChange journalNewsWrong)

/-- 'custumallaw11.JournalLays': WHATEVER THE INPUT: true; the input reads as it did. -/
def journalLaysSpec : ChangeSpec := { name := "journalLays", fn := fun _ => fun
  | [d1, d2] => { results := [.lit (.bool true)], args := [d1, d2] }
  | _ => none }
def journalLaysRow : OpenClaim := { program := "ythmchbdhikakhaa", sum := "ce53db8f26e29283cc4a948fa49cdeef224ffdce607b099c9dea79781504c9db", func := "custumal/custumallaw11.JournalLays", spec := "journalLays", unfollowed := true, recurses := true, apart := false }
def JournalLaysSaid : Prop := journalLaysRow.holds Try.pinned (OpenSpec.ofChange journalLaysSpec)

/-- ITS FALSE NEIGHBOUR: 'it returns false'. Refute it at one input. -/
def journalLaysWrong : ChangeSpec := { name := "journalLays", fn := fun _ => fun
  | [d1, d2] => { results := [.lit (.bool false)], args := [d1, d2] }
  | _ => none }
def JournalLaysWrongFalsely : Prop := journalLaysRow.holds Try.pinned (OpenSpec.ofChange journalLaysWrong)

/-- 'custumallaw11.JournalForged': WHATEVER THE INPUT: true; the input reads as it did. -/
def journalForgedSpec : ChangeSpec := { name := "journalForged", fn := fun _ => fun
  | [d1, d2, d3] => { results := [.lit (.bool true)], args := [d1, d2, d3] }
  | _ => none }
def journalForgedRow : OpenClaim := { program := "ythmchbdhikakhaa", sum := "ce53db8f26e29283cc4a948fa49cdeef224ffdce607b099c9dea79781504c9db", func := "custumal/custumallaw11.JournalForged", spec := "journalForged", unfollowed := true, recurses := true, apart := false }
def JournalForgedSaid : Prop := journalForgedRow.holds Try.pinned (OpenSpec.ofChange journalForgedSpec)

/-- ITS FALSE NEIGHBOUR: 'it returns false'. Refute it at one input. -/
def journalForgedWrong : ChangeSpec := { name := "journalForged", fn := fun _ => fun
  | [d1, d2, d3] => { results := [.lit (.bool false)], args := [d1, d2, d3] }
  | _ => none }
def JournalForgedWrongFalsely : Prop := journalForgedRow.holds Try.pinned (OpenSpec.ofChange journalForgedWrong)

/-- 'custumallaw11.JournalFalls': WHATEVER THE INPUT: true; the input reads as it did. -/
def journalFallsSpec : ChangeSpec := { name := "journalFalls", fn := fun _ => fun
  | [d1, d2] => { results := [.lit (.bool true)], args := [d1, d2] }
  | _ => none }
def journalFallsRow : OpenClaim := { program := "ythmchbdhikakhaa", sum := "ce53db8f26e29283cc4a948fa49cdeef224ffdce607b099c9dea79781504c9db", func := "custumal/custumallaw11.JournalFalls", spec := "journalFalls", unfollowed := true, recurses := true, apart := false }
def JournalFallsSaid : Prop := journalFallsRow.holds Try.pinned (OpenSpec.ofChange journalFallsSpec)

/-- ITS FALSE NEIGHBOUR: 'it returns false'. Refute it at one input. -/
def journalFallsWrong : ChangeSpec := { name := "journalFalls", fn := fun _ => fun
  | [d1, d2] => { results := [.lit (.bool false)], args := [d1, d2] }
  | _ => none }
def JournalFallsWrongFalsely : Prop := journalFallsRow.holds Try.pinned (OpenSpec.ofChange journalFallsWrong)

/- THE SECOND FORM. 'bulk': how many values and letters a reading holds, each counted each time it is reached (what is shared counts as often as it is met; a slice's spare places count too). A statement '..UptoSaid' is the law's where the arguments, and the package variables that the reading takes, are together of bulk at most 1048576: NARROWER than '..Said'. Prove '..Said' where nothing that the law and all that it calls make is longer than what came in: it says more and counts as full. Else prove '..UptoSaid'. A law counts once. -/
mutual
def uptoBulk {H : Type} : DataW H → Nat
  | .lit (.string bytes) => bytes.length + 1
  | .lit _ => 1
  | .nil => 1
  | .ptr d => uptoBulk d + 1
  | .slice elems spare => uptoBulkAll elems + uptoBulkAll spare + 1
  | .agg parts => uptoBulkAll parts + 1
  | .iface _ d => uptoBulk d + 1
  | .map entries => uptoBulkEntries entries + 1
  | .held _ => 1
def uptoBulkAll {H : Type} : List (DataW H) → Nat
  | [] => 0
  | d :: r => uptoBulk d + uptoBulkAll r
def uptoBulkEntries {H : Type} : List (Lit × DataW H) → Nat
  | [] => 0
  | x :: r => uptoBulkEntry x + uptoBulkEntries r
def uptoBulkEntry {H : Type} : Lit × DataW H → Nat
  | (.string bytes, d) => bytes.length + uptoBulk d + 1
  | (_, d) => uptoBulk d + 1
 end
def uptoSmall : (H : Type) → List (DataW H) → Bool := fun _ ds => decide (uptoBulkAll ds ≤ 1048576)
def OpenSpec.upto (s : _root_.Go.ChangeSpec) : _root_.Go.OpenSpec := { _root_.Go.OpenSpec.ofChange s with cond := some uptoSmall }

/-- 'custumallaw10.DiskLasts', WHERE WHAT IT READS IS OF BULK AT MOST 1048576: true; the input reads as it did. -/
def diskLastsUptoRow : OpenClaim := { program := "ythmchbdhikakhaa", sum := "ce53db8f26e29283cc4a948fa49cdeef224ffdce607b099c9dea79781504c9db", func := "custumal/custumallaw10.DiskLasts", spec := "diskLasts", unfollowed := true, recurses := true, apart := false, narrowed := true }
def DiskLastsUptoSaid : Prop := diskLastsUptoRow.holds Try.pinned (OpenSpec.upto diskLastsSpec)

/-- 'custumallaw10.DiskJobs', WHERE WHAT IT READS IS OF BULK AT MOST 1048576: true; the input reads as it did. -/
def diskJobsUptoRow : OpenClaim := { program := "ythmchbdhikakhaa", sum := "ce53db8f26e29283cc4a948fa49cdeef224ffdce607b099c9dea79781504c9db", func := "custumal/custumallaw10.DiskJobs", spec := "diskJobs", unfollowed := true, recurses := true, apart := false, narrowed := true }
def DiskJobsUptoSaid : Prop := diskJobsUptoRow.holds Try.pinned (OpenSpec.upto diskJobsSpec)

/-- 'custumallaw10.DiskNews', WHERE WHAT IT READS IS OF BULK AT MOST 1048576: true; the input reads as it did. -/
def diskNewsUptoRow : OpenClaim := { program := "ythmchbdhikakhaa", sum := "ce53db8f26e29283cc4a948fa49cdeef224ffdce607b099c9dea79781504c9db", func := "custumal/custumallaw10.DiskNews", spec := "diskNews", unfollowed := true, recurses := true, apart := false, narrowed := true }
def DiskNewsUptoSaid : Prop := diskNewsUptoRow.holds Try.pinned (OpenSpec.upto diskNewsSpec)

/-- 'custumallaw12.ExtentCuts', WHERE WHAT IT READS IS OF BULK AT MOST 1048576: true; the input reads as it did. -/
def extentCutsUptoRow : OpenClaim := { program := "ythmchbdhikakhaa", sum := "ce53db8f26e29283cc4a948fa49cdeef224ffdce607b099c9dea79781504c9db", func := "custumal/custumallaw12.ExtentCuts", spec := "extentCuts", unfollowed := true, recurses := true, apart := false, narrowed := true }
def ExtentCutsUptoSaid : Prop := extentCutsUptoRow.holds Try.pinned (OpenSpec.upto extentCutsSpec)

/-- 'custumallaw12.ExtentAreas', WHERE WHAT IT READS IS OF BULK AT MOST 1048576: true; the input reads as it did. -/
def extentAreasUptoRow : OpenClaim := { program := "ythmchbdhikakhaa", sum := "ce53db8f26e29283cc4a948fa49cdeef224ffdce607b099c9dea79781504c9db", func := "custumal/custumallaw12.ExtentAreas", spec := "extentAreas", unfollowed := true, recurses := true, apart := false, narrowed := true }
def ExtentAreasUptoSaid : Prop := extentAreasUptoRow.holds Try.pinned (OpenSpec.upto extentAreasSpec)

/-- 'custumallaw12.ExtentZeros', WHERE WHAT IT READS IS OF BULK AT MOST 1048576: true; the input reads as it did. -/
def extentZerosUptoRow : OpenClaim := { program := "ythmchbdhikakhaa", sum := "ce53db8f26e29283cc4a948fa49cdeef224ffdce607b099c9dea79781504c9db", func := "custumal/custumallaw12.ExtentZeros", spec := "extentZeros", unfollowed := true, recurses := true, apart := false, narrowed := true }
def ExtentZerosUptoSaid : Prop := extentZerosUptoRow.holds Try.pinned (OpenSpec.upto extentZerosSpec)

/-- 'custumallaw11.JournalNews', WHERE WHAT IT READS IS OF BULK AT MOST 1048576: true; the input reads as it did. -/
def journalNewsUptoRow : OpenClaim := { program := "ythmchbdhikakhaa", sum := "ce53db8f26e29283cc4a948fa49cdeef224ffdce607b099c9dea79781504c9db", func := "custumal/custumallaw11.JournalNews", spec := "journalNews", unfollowed := true, recurses := true, apart := false, narrowed := true }
def JournalNewsUptoSaid : Prop := journalNewsUptoRow.holds Try.pinned (OpenSpec.upto journalNewsSpec)

/-- 'custumallaw11.JournalLays', WHERE WHAT IT READS IS OF BULK AT MOST 1048576: true; the input reads as it did. -/
def journalLaysUptoRow : OpenClaim := { program := "ythmchbdhikakhaa", sum := "ce53db8f26e29283cc4a948fa49cdeef224ffdce607b099c9dea79781504c9db", func := "custumal/custumallaw11.JournalLays", spec := "journalLays", unfollowed := true, recurses := true, apart := false, narrowed := true }
def JournalLaysUptoSaid : Prop := journalLaysUptoRow.holds Try.pinned (OpenSpec.upto journalLaysSpec)

/-- 'custumallaw11.JournalForged', WHERE WHAT IT READS IS OF BULK AT MOST 1048576: true; the input reads as it did. -/
def journalForgedUptoRow : OpenClaim := { program := "ythmchbdhikakhaa", sum := "ce53db8f26e29283cc4a948fa49cdeef224ffdce607b099c9dea79781504c9db", func := "custumal/custumallaw11.JournalForged", spec := "journalForged", unfollowed := true, recurses := true, apart := false, narrowed := true }
def JournalForgedUptoSaid : Prop := journalForgedUptoRow.holds Try.pinned (OpenSpec.upto journalForgedSpec)

/-- 'custumallaw11.JournalFalls', WHERE WHAT IT READS IS OF BULK AT MOST 1048576: true; the input reads as it did. -/
def journalFallsUptoRow : OpenClaim := { program := "ythmchbdhikakhaa", sum := "ce53db8f26e29283cc4a948fa49cdeef224ffdce607b099c9dea79781504c9db", func := "custumal/custumallaw11.JournalFalls", spec := "journalFalls", unfollowed := true, recurses := true, apart := false, narrowed := true }
def JournalFallsUptoSaid : Prop := journalFallsUptoRow.holds Try.pinned (OpenSpec.upto journalFallsSpec)

end Rows
end Go.Proofs.Ythmchbdhikakhaa
