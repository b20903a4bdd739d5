/-
  No cell of these rows narrows 'for every input' (looked for: loops, veiled, ifaces, maps, wideKeys, modest, calm, conditions, laid).
  DERIVED. THE GIVEN ROWS OF THIS SEAT. 6 by the template 'for every input the law returns true; each argument reads behind the call as it read before'; 0 by the template 'total and deterministic' (their statements: YtnakbdgoaepehaaTotals.lean).
  GIVEN WITH THE SEED: the statements are not yours to turn. If you find one false, say at which input.
  Laid BY PROGRAM, IN A SANDBOX (cutbox-rows.mjs): the forced cells as the released guide's own fill.sh prints them over the translation db6d4a9d8c820c24… (all of the seat's roots in one cut). By AI agents, Wed Nov 11 2026. No macro, syntax, notation, axiom, sorry.
-/
import Derived.Test.YtnakbdgoaepehaaChecked
import GoSem.Claim
import GoSem.ClaimJoined
import GoSem.ClaimMapViews
import Derived.JoinedTies
import Derived.KernelRfl
namespace Go.Proofs.Ytnakbdgoaepehaa
/- THE CELL 'sum', in the pinned program and in every row, IS THE sha256 OF THE DUMP (.gsa) THAT YtnakbdgoaepehaaProg.lean LOADS. Nothing in Lean hashes anything: it is a label: what it is worth is what the hold of that sum in a sandbox is worth. -/
noncomputable def Try.pinned : Pinned := { name := "ytnakbdgoaepehaa", sum := "db6d4a9d8c820c2479bc4008d449f0e0138cc21564b6b5b4b799ff9a2606aed0", checked := Try.checked }
namespace Rows
def none {H : Type} : Left H := { results := [], args := [] }

/-- 'custumallaw13.PathThree': WHATEVER THE INPUT: true; the input reads as it did. -/
def pathThreeSpec : ChangeSpec := { name := "pathThree", fn := fun _ => fun
  | [d1, d2, d3] => { results := [.lit (.bool true)], args := [d1, d2, d3] }
  | _ => none }
def pathThreeRow : OpenClaim := { program := "ytnakbdgoaepehaa", sum := "db6d4a9d8c820c2479bc4008d449f0e0138cc21564b6b5b4b799ff9a2606aed0", func := "custumal/custumallaw13.PathThree", spec := "pathThree", inPlace := ["internal/bytealg.Compare"], apart := false }
def PathThreeSaid : Prop := pathThreeRow.holds Try.pinned (OpenSpec.ofChange pathThreeSpec)

/-- ITS FALSE NEIGHBOUR: 'it returns false'. Refute it at one input. -/
def pathThreeWrong : ChangeSpec := { name := "pathThree", fn := fun _ => fun
  | [d1, d2, d3] => { results := [.lit (.bool false)], args := [d1, d2, d3] }
  | _ => none }
def PathThreeWrongFalsely : Prop := pathThreeRow.holds Try.pinned (OpenSpec.ofChange pathThreeWrong)

/-- 'custumallaw13.PathBits': WHATEVER THE INPUT: true; the input reads as it did. -/
def pathBitsSpec : ChangeSpec := { name := "pathBits", fn := fun _ => fun
  | [d1, d2, d3] => { results := [.lit (.bool true)], args := [d1, d2, d3] }
  | _ => none }
def pathBitsRow : OpenClaim := { program := "ytnakbdgoaepehaa", sum := "db6d4a9d8c820c2479bc4008d449f0e0138cc21564b6b5b4b799ff9a2606aed0", func := "custumal/custumallaw13.PathBits", spec := "pathBits", inPlace := ["internal/bytealg.Compare"], apart := false }
def PathBitsSaid : Prop := pathBitsRow.holds Try.pinned (OpenSpec.ofChange pathBitsSpec)

/-- ITS FALSE NEIGHBOUR: 'it returns false'. Refute it at one input. -/
def pathBitsWrong : ChangeSpec := { name := "pathBits", fn := fun _ => fun
  | [d1, d2, d3] => { results := [.lit (.bool false)], args := [d1, d2, d3] }
  | _ => none }
def PathBitsWrongFalsely : Prop := pathBitsRow.holds Try.pinned (OpenSpec.ofChange pathBitsWrong)

/-- 'custumallaw20.CacheFull': WHATEVER THE INPUT: true; the input reads as it did. -/
def cacheFullSpec : ChangeSpec := { name := "cacheFull", fn := fun _ => fun
  | [d1, d2] => { results := [.lit (.bool true)], args := [d1, d2] }
  | _ => none }
def cacheFullRow : OpenClaim := { program := "ytnakbdgoaepehaa", sum := "db6d4a9d8c820c2479bc4008d449f0e0138cc21564b6b5b4b799ff9a2606aed0", func := "custumal/custumallaw20.CacheFull", spec := "cacheFull", apart := false }
def CacheFullSaid : Prop := cacheFullRow.holds Try.pinned (OpenSpec.ofChange cacheFullSpec)

/-- ITS FALSE NEIGHBOUR: 'it returns false'. Refute it at one input. -/
def cacheFullWrong : ChangeSpec := { name := "cacheFull", fn := fun _ => fun
  | [d1, d2] => { results := [.lit (.bool false)], args := [d1, d2] }
  | _ => none }
def CacheFullWrongFalsely : Prop := cacheFullRow.holds Try.pinned (OpenSpec.ofChange cacheFullWrong)

/-- 'custumallaw20.CacheJobs': WHATEVER THE INPUT: true; the input reads as it did. -/
def cacheJobsSpec : ChangeSpec := { name := "cacheJobs", fn := fun _ => fun
  | [d1, d2, d3] => { results := [.lit (.bool true)], args := [d1, d2, d3] }
  | _ => none }
def cacheJobsRow : OpenClaim := { program := "ytnakbdgoaepehaa", sum := "db6d4a9d8c820c2479bc4008d449f0e0138cc21564b6b5b4b799ff9a2606aed0", func := "custumal/custumallaw20.CacheJobs", spec := "cacheJobs", apart := false }
def CacheJobsSaid : Prop := cacheJobsRow.holds Try.pinned (OpenSpec.ofChange cacheJobsSpec)

/-- ITS FALSE NEIGHBOUR: 'it returns false'. Refute it at one input. -/
def cacheJobsWrong : ChangeSpec := { name := "cacheJobs", fn := fun _ => fun
  | [d1, d2, d3] => { results := [.lit (.bool false)], args := [d1, d2, d3] }
  | _ => none }
def CacheJobsWrongFalsely : Prop := cacheJobsRow.holds Try.pinned (OpenSpec.ofChange cacheJobsWrong)

/-- 'custumallaw20.CacheApart': WHATEVER THE INPUT: true; the input reads as it did. -/
def cacheApartSpec : ChangeSpec := { name := "cacheApart", fn := fun _ => fun
  | [d1, d2] => { results := [.lit (.bool true)], args := [d1, d2] }
  | _ => none }
def cacheApartRow : OpenClaim := { program := "ytnakbdgoaepehaa", sum := "db6d4a9d8c820c2479bc4008d449f0e0138cc21564b6b5b4b799ff9a2606aed0", func := "custumal/custumallaw20.CacheApart", spec := "cacheApart", apart := false }
def CacheApartSaid : Prop := cacheApartRow.holds Try.pinned (OpenSpec.ofChange cacheApartSpec)

/-- ITS FALSE NEIGHBOUR: 'it returns false'. Refute it at one input. -/
def cacheApartWrong : ChangeSpec := { name := "cacheApart", fn := fun _ => fun
  | [d1, d2] => { results := [.lit (.bool false)], args := [d1, d2] }
  | _ => none }
def CacheApartWrongFalsely : Prop := cacheApartRow.holds Try.pinned (OpenSpec.ofChange cacheApartWrong)

/-- 'custumallaw13.PathSorts': WHATEVER THE INPUT: true; the input reads as it did. -/
def pathSortsSpec : ChangeSpec := { name := "pathSorts", fn := fun _ => fun
  | [d] => { results := [.lit (.bool true)], args := [d] }
  | _ => none }
def pathSortsRow : OpenClaim := { program := "ytnakbdgoaepehaa", sum := "db6d4a9d8c820c2479bc4008d449f0e0138cc21564b6b5b4b799ff9a2606aed0", func := "custumal/custumallaw13.PathSorts", spec := "pathSorts", inPlace := ["internal/bytealg.Compare"], unfollowed := true, recurses := true, apart := false }
def PathSortsSaid : Prop := pathSortsRow.holds Try.pinned (OpenSpec.ofChange pathSortsSpec)

/-- ITS FALSE NEIGHBOUR: 'it returns false'. Refute it at one input. -/
def pathSortsWrong : ChangeSpec := { name := "pathSorts", fn := fun _ => fun
  | [d] => { results := [.lit (.bool false)], args := [d] }
  | _ => none }
def PathSortsWrongFalsely : Prop := pathSortsRow.holds Try.pinned (OpenSpec.ofChange pathSortsWrong)

/- THE SECOND FORM. 'bulk': how many values and letters a reading holds, each counted each time it is reached (what is shared counts as often as it is met; a slice's spare places count too). A statement '..UptoSaid' is the law's where the arguments, and the package variables that the reading takes, are together of bulk at most 1048576: NARROWER than '..Said'. Prove '..Said' where nothing that the law and all that it calls make is longer than what came in: it says more and counts as full. Else prove '..UptoSaid'. A law counts once. -/
mutual
def uptoBulk {H : Type} : DataW H → Nat
  | .lit (.string bytes) => bytes.length + 1
  | .lit _ => 1
  | .nil => 1
  | .ptr d => uptoBulk d + 1
  | .slice elems spare => uptoBulkAll elems + uptoBulkAll spare + 1
  | .agg parts => uptoBulkAll parts + 1
  | .iface _ d => uptoBulk d + 1
  | .map entries => uptoBulkEntries entries + 1
  | .held _ => 1
def uptoBulkAll {H : Type} : List (DataW H) → Nat
  | [] => 0
  | d :: r => uptoBulk d + uptoBulkAll r
def uptoBulkEntries {H : Type} : List (Lit × DataW H) → Nat
  | [] => 0
  | x :: r => uptoBulkEntry x + uptoBulkEntries r
def uptoBulkEntry {H : Type} : Lit × DataW H → Nat
  | (.string bytes, d) => bytes.length + uptoBulk d + 1
  | (_, d) => uptoBulk d + 1
 end
def uptoSmall : (H : Type) → List (DataW H) → Bool := fun _ ds => decide (uptoBulkAll ds ≤ 1048576)
def OpenSpec.upto (s : _root_.Go.ChangeSpec) : _root_.Go.OpenSpec := { _root_.Go.OpenSpec.ofChange s with cond := some uptoSmall }

/-- 'custumallaw13.PathThree', WHERE WHAT IT READS IS OF BULK AT MOST 1048576: true; the input reads as it did. -/
def pathThreeUptoRow : OpenClaim := { program := "ytnakbdgoaepehaa", sum := "db6d4a9d8c820c2479bc4008d449f0e0138cc21564b6b5b4b799ff9a2606aed0", func := "custumal/custumallaw13.PathThree", spec := "pathThree", inPlace := ["internal/bytealg.Compare"], apart := false, narrowed := true }
def PathThreeUptoSaid : Prop := pathThreeUptoRow.holds Try.pinned (OpenSpec.upto pathThreeSpec)

/-- 'custumallaw13.PathBits', WHERE WHAT IT READS IS OF BULK AT MOST 1048576: true; the input reads as it did. -/
def pathBitsUptoRow : OpenClaim := { program := "ytnakbdgoaepehaa", sum := "db6d4a9d8c820c2479bc4008d449f0e0138cc21564b6b5b4b799ff9a2606aed0", func := "custumal/custumallaw13.PathBits", spec := "pathBits", inPlace := ["internal/bytealg.Compare"], apart := false, narrowed := true }
def PathBitsUptoSaid : Prop := pathBitsUptoRow.holds Try.pinned (OpenSpec.upto pathBitsSpec)

/-- 'custumallaw20.CacheFull', WHERE WHAT IT READS IS OF BULK AT MOST 1048576: true; the input reads as it did. -/
def cacheFullUptoRow : OpenClaim := { program := "ytnakbdgoaepehaa", sum := "db6d4a9d8c820c2479bc4008d449f0e0138cc21564b6b5b4b799ff9a2606aed0", func := "custumal/custumallaw20.CacheFull", spec := "cacheFull", apart := false, narrowed := true }
def CacheFullUptoSaid : Prop := cacheFullUptoRow.holds Try.pinned (OpenSpec.upto cacheFullSpec)

/-- 'custumallaw20.CacheJobs', WHERE WHAT IT READS IS OF BULK AT MOST 1048576: true; the input reads as it did. -/
def cacheJobsUptoRow : OpenClaim := { program := "ytnakbdgoaepehaa", sum := "db6d4a9d8c820c2479bc4008d449f0e0138cc21564b6b5b4b799ff9a2606aed0", func := "custumal/custumallaw20.CacheJobs", spec := "cacheJobs", apart := false, narrowed := true }
def CacheJobsUptoSaid : Prop := cacheJobsUptoRow.holds Try.pinned (OpenSpec.upto cacheJobsSpec)

/-- 'custumallaw20.CacheApart', WHERE WHAT IT READS IS OF BULK AT MOST 1048576: true; the input reads as it did. -/
def cacheApartUptoRow : OpenClaim := { program := "ytnakbdgoaepehaa", sum := "db6d4a9d8c820c2479bc4008d449f0e0138cc21564b6b5b4b799ff9a2606aed0", func := "custumal/custumallaw20.CacheApart", spec := "cacheApart", apart := false, narrowed := true }
def CacheApartUptoSaid : Prop := cacheApartUptoRow.holds Try.pinned (OpenSpec.upto cacheApartSpec)

/-- 'custumallaw13.PathSorts', WHERE WHAT IT READS IS OF BULK AT MOST 1048576: true; the input reads as it did. -/
def pathSortsUptoRow : OpenClaim := { program := "ytnakbdgoaepehaa", sum := "db6d4a9d8c820c2479bc4008d449f0e0138cc21564b6b5b4b799ff9a2606aed0", func := "custumal/custumallaw13.PathSorts", spec := "pathSorts", inPlace := ["internal/bytealg.Compare"], unfollowed := true, recurses := true, apart := false, narrowed := true }
def PathSortsUptoSaid : Prop := pathSortsUptoRow.holds Try.pinned (OpenSpec.upto pathSortsSpec)

end Rows
end Go.Proofs.Ytnakbdgoaepehaa
