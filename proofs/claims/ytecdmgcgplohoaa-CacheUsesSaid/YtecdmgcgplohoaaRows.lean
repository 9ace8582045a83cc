/-
  No cell of these rows narrows 'for every input' (looked for: loops, veiled, ifaces, maps, wideKeys, modest, calm, conditions, laid).
  DERIVED. THE GIVEN ROWS OF THIS SEAT. 6 by the template 'for every input the law returns true; each argument reads behind the call as it read before'; 0 by the template 'total and deterministic' (their statements: YtecdmgcgplohoaaTotals.lean).
  GIVEN WITH THE SEED: the statements are not yours to turn. If you find one false, say at which input.
  Laid BY PROGRAM, IN A SANDBOX (cutbox-rows.mjs): the forced cells as the released guide's own fill.sh prints them over the translation 124080e11538a7c8… (all of the seat's roots in one cut). By AI agents, Wed Nov 11 2026. No macro, syntax, notation, axiom, sorry.
-/
import Derived.Test.YtecdmgcgplohoaaChecked
import GoSem.Claim
import GoSem.ClaimJoined
import GoSem.ClaimMapViews
import Derived.JoinedTies
import Derived.KernelRfl
namespace Go.Proofs.Ytecdmgcgplohoaa
/- THE CELL 'sum', in the pinned program and in every row, IS THE sha256 OF THE DUMP (.gsa) THAT YtecdmgcgplohoaaProg.lean LOADS. Nothing in Lean hashes anything: it is a label: what it is worth is what the hold of that sum in a sandbox is worth. -/
noncomputable def Try.pinned : Pinned := { name := "ytecdmgcgplohoaa", sum := "124080e11538a7c8342ce0514d437afb887ba7d27f942aecd9019c05a3012171", checked := Try.checked }
namespace Rows
def none {H : Type} : Left H := { results := [], args := [] }

/-- 'syllabarylaw28.CacheMatchesReference': WHATEVER THE INPUT: true; the input reads as it did. -/
def cacheMatchesReferenceSpec : ChangeSpec := { name := "cacheMatchesReference", fn := fun _ => fun
  | [d1, d2] => { results := [.lit (.bool true)], args := [d1, d2] }
  | _ => none }
def cacheMatchesReferenceRow : OpenClaim := { program := "ytecdmgcgplohoaa", sum := "124080e11538a7c8342ce0514d437afb887ba7d27f942aecd9019c05a3012171", func := "syllabary/syllabarylaw28.CacheMatchesReference", spec := "cacheMatchesReference", unfollowed := true, recurses := true, apart := false }
def CacheMatchesReferenceSaid : Prop := cacheMatchesReferenceRow.holds Try.pinned (OpenSpec.ofChange cacheMatchesReferenceSpec)

/-- ITS FALSE NEIGHBOUR: 'it returns false'. Refute it at one input. -/
def cacheMatchesReferenceWrong : ChangeSpec := { name := "cacheMatchesReference", fn := fun _ => fun
  | [d1, d2] => { results := [.lit (.bool false)], args := [d1, d2] }
  | _ => none }
def CacheMatchesReferenceWrongFalsely : Prop := cacheMatchesReferenceRow.holds Try.pinned (OpenSpec.ofChange cacheMatchesReferenceWrong)

/-- 'syllabarylaw28.CacheKeeps': WHATEVER THE INPUT: true; the input reads as it did. -/
def cacheKeepsSpec : ChangeSpec := { name := "cacheKeeps", fn := fun _ => fun
  | [d1, d2] => { results := [.lit (.bool true)], args := [d1, d2] }
  | _ => none }
def cacheKeepsRow : OpenClaim := { program := "ytecdmgcgplohoaa", sum := "124080e11538a7c8342ce0514d437afb887ba7d27f942aecd9019c05a3012171", func := "syllabary/syllabarylaw28.CacheKeeps", spec := "cacheKeeps", unfollowed := true, recurses := true, apart := false }
def CacheKeepsSaid : Prop := cacheKeepsRow.holds Try.pinned (OpenSpec.ofChange cacheKeepsSpec)

/-- ITS FALSE NEIGHBOUR: 'it returns false'. Refute it at one input. -/
def cacheKeepsWrong : ChangeSpec := { name := "cacheKeeps", fn := fun _ => fun
  | [d1, d2] => { results := [.lit (.bool false)], args := [d1, d2] }
  | _ => none }
def CacheKeepsWrongFalsely : Prop := cacheKeepsRow.holds Try.pinned (OpenSpec.ofChange cacheKeepsWrong)

/-- 'syllabarylaw28.CacheLatest': WHATEVER THE INPUT: true; the input reads as it did. -/
def cacheLatestSpec : ChangeSpec := { name := "cacheLatest", fn := fun _ => fun
  | [d1, d2, d3] => { results := [.lit (.bool true)], args := [d1, d2, d3] }
  | _ => none }
def cacheLatestRow : OpenClaim := { program := "ytecdmgcgplohoaa", sum := "124080e11538a7c8342ce0514d437afb887ba7d27f942aecd9019c05a3012171", func := "syllabary/syllabarylaw28.CacheLatest", spec := "cacheLatest", unfollowed := true, recurses := true, apart := false }
def CacheLatestSaid : Prop := cacheLatestRow.holds Try.pinned (OpenSpec.ofChange cacheLatestSpec)

/-- ITS FALSE NEIGHBOUR: 'it returns false'. Refute it at one input. -/
def cacheLatestWrong : ChangeSpec := { name := "cacheLatest", fn := fun _ => fun
  | [d1, d2, d3] => { results := [.lit (.bool false)], args := [d1, d2, d3] }
  | _ => none }
def CacheLatestWrongFalsely : Prop := cacheLatestRow.holds Try.pinned (OpenSpec.ofChange cacheLatestWrong)

/-- 'syllabarylaw28.CacheLeaves': WHATEVER THE INPUT: true; the input reads as it did. -/
def cacheLeavesSpec : ChangeSpec := { name := "cacheLeaves", fn := fun _ => fun
  | [d1, d2, d3] => { results := [.lit (.bool true)], args := [d1, d2, d3] }
  | _ => none }
def cacheLeavesRow : OpenClaim := { program := "ytecdmgcgplohoaa", sum := "124080e11538a7c8342ce0514d437afb887ba7d27f942aecd9019c05a3012171", func := "syllabary/syllabarylaw28.CacheLeaves", spec := "cacheLeaves", unfollowed := true, recurses := true, apart := false }
def CacheLeavesSaid : Prop := cacheLeavesRow.holds Try.pinned (OpenSpec.ofChange cacheLeavesSpec)

/-- ITS FALSE NEIGHBOUR: 'it returns false'. Refute it at one input. -/
def cacheLeavesWrong : ChangeSpec := { name := "cacheLeaves", fn := fun _ => fun
  | [d1, d2, d3] => { results := [.lit (.bool false)], args := [d1, d2, d3] }
  | _ => none }
def CacheLeavesWrongFalsely : Prop := cacheLeavesRow.holds Try.pinned (OpenSpec.ofChange cacheLeavesWrong)

/-- 'syllabarylaw28.CacheUses': WHATEVER THE INPUT: true; the input reads as it did. -/
def cacheUsesSpec : ChangeSpec := { name := "cacheUses", fn := fun _ => fun
  | [d1, d2, d3] => { results := [.lit (.bool true)], args := [d1, d2, d3] }
  | _ => none }
def cacheUsesRow : OpenClaim := { program := "ytecdmgcgplohoaa", sum := "124080e11538a7c8342ce0514d437afb887ba7d27f942aecd9019c05a3012171", func := "syllabary/syllabarylaw28.CacheUses", spec := "cacheUses", unfollowed := true, recurses := true, apart := false }
def CacheUsesSaid : Prop := cacheUsesRow.holds Try.pinned (OpenSpec.ofChange cacheUsesSpec)

/-- ITS FALSE NEIGHBOUR: 'it returns false'. Refute it at one input. -/
def cacheUsesWrong : ChangeSpec := { name := "cacheUses", fn := fun _ => fun
  | [d1, d2, d3] => { results := [.lit (.bool false)], args := [d1, d2, d3] }
  | _ => none }
def CacheUsesWrongFalsely : Prop := cacheUsesRow.holds Try.pinned (OpenSpec.ofChange cacheUsesWrong)

/-- 'syllabarylaw28.CacheDrops': WHATEVER THE INPUT: true; the input reads as it did. -/
def cacheDropsSpec : ChangeSpec := { name := "cacheDrops", fn := fun _ => fun
  | [d1, d2, d3] => { results := [.lit (.bool true)], args := [d1, d2, d3] }
  | _ => none }
def cacheDropsRow : OpenClaim := { program := "ytecdmgcgplohoaa", sum := "124080e11538a7c8342ce0514d437afb887ba7d27f942aecd9019c05a3012171", func := "syllabary/syllabarylaw28.CacheDrops", spec := "cacheDrops", unfollowed := true, recurses := true, apart := false }
def CacheDropsSaid : Prop := cacheDropsRow.holds Try.pinned (OpenSpec.ofChange cacheDropsSpec)

/-- ITS FALSE NEIGHBOUR: 'it returns false'. Refute it at one input. -/
def cacheDropsWrong : ChangeSpec := { name := "cacheDrops", fn := fun _ => fun
  | [d1, d2, d3] => { results := [.lit (.bool false)], args := [d1, d2, d3] }
  | _ => none }
def CacheDropsWrongFalsely : Prop := cacheDropsRow.holds Try.pinned (OpenSpec.ofChange cacheDropsWrong)

/- THE SECOND FORM. 'bulk': how many values and letters a reading holds, each counted each time it is reached (what is shared counts as often as it is met; a slice's spare places count too). A statement '..UptoSaid' is the law's where the arguments, and the package variables that the reading takes, are together of bulk at most 1048576: NARROWER than '..Said'. Prove '..Said' where nothing that the law and all that it calls make is longer than what came in: it says more and counts as full. Else prove '..UptoSaid'. A law counts once. -/
mutual
def uptoBulk {H : Type} : DataW H → Nat
  | .lit (.string bytes) => bytes.length + 1
  | .lit _ => 1
  | .nil => 1
  | .ptr d => uptoBulk d + 1
  | .slice elems spare => uptoBulkAll elems + uptoBulkAll spare + 1
  | .agg parts => uptoBulkAll parts + 1
  | .iface _ d => uptoBulk d + 1
  | .map entries => uptoBulkEntries entries + 1
  | .held _ => 1
def uptoBulkAll {H : Type} : List (DataW H) → Nat
  | [] => 0
  | d :: r => uptoBulk d + uptoBulkAll r
def uptoBulkEntries {H : Type} : List (Lit × DataW H) → Nat
  | [] => 0
  | x :: r => uptoBulkEntry x + uptoBulkEntries r
def uptoBulkEntry {H : Type} : Lit × DataW H → Nat
  | (.string bytes, d) => bytes.length + uptoBulk d + 1
  | (_, d) => uptoBulk d + 1
 end
def uptoSmall : (H : Type) → List (DataW H) → Bool := fun _ ds => decide (uptoBulkAll ds ≤ 1048576)
def OpenSpec.upto (s : _root_.Go.ChangeSpec) : _root_.Go.OpenSpec := { _root_.Go.OpenSpec.ofChange s with cond := some uptoSmall }

/-- 'syllabarylaw28.CacheMatchesReference', WHERE WHAT IT READS IS OF BULK AT MOST 1048576: true; the input reads as it did. -/
def cacheMatchesReferenceUptoRow : OpenClaim := { program := "ytecdmgcgplohoaa", sum := "124080e11538a7c8342ce0514d437afb887ba7d27f942aecd9019c05a3012171", func := "syllabary/syllabarylaw28.CacheMatchesReference", spec := "cacheMatchesReference", unfollowed := true, recurses := true, apart := false, narrowed := true }
def CacheMatchesReferenceUptoSaid : Prop := cacheMatchesReferenceUptoRow.holds Try.pinned (OpenSpec.upto cacheMatchesReferenceSpec)

/-- 'syllabarylaw28.CacheKeeps', WHERE WHAT IT READS IS OF BULK AT MOST 1048576: true; the input reads as it did. -/
def cacheKeepsUptoRow : OpenClaim := { program := "ytecdmgcgplohoaa", sum := "124080e11538a7c8342ce0514d437afb887ba7d27f942aecd9019c05a3012171", func := "syllabary/syllabarylaw28.CacheKeeps", spec := "cacheKeeps", unfollowed := true, recurses := true, apart := false, narrowed := true }
def CacheKeepsUptoSaid : Prop := cacheKeepsUptoRow.holds Try.pinned (OpenSpec.upto cacheKeepsSpec)

/-- 'syllabarylaw28.CacheLatest', WHERE WHAT IT READS IS OF BULK AT MOST 1048576: true; the input reads as it did. -/
def cacheLatestUptoRow : OpenClaim := { program := "ytecdmgcgplohoaa", sum := "124080e11538a7c8342ce0514d437afb887ba7d27f942aecd9019c05a3012171", func := "syllabary/syllabarylaw28.CacheLatest", spec := "cacheLatest", unfollowed := true, recurses := true, apart := false, narrowed := true }
def CacheLatestUptoSaid : Prop := cacheLatestUptoRow.holds Try.pinned (OpenSpec.upto cacheLatestSpec)

/-- 'syllabarylaw28.CacheLeaves', WHERE WHAT IT READS IS OF BULK AT MOST 1048576: true; the input reads as it did. -/
def cacheLeavesUptoRow : OpenClaim := { program := "ytecdmgcgplohoaa", sum := "124080e11538a7c8342ce0514d437afb887ba7d27f942aecd9019c05a3012171", func := "syllabary/syllabarylaw28.CacheLeaves", spec := "cacheLeaves", unfollowed := true, recurses := true, apart := false, narrowed := true }
def CacheLeavesUptoSaid : Prop := cacheLeavesUptoRow.holds Try.pinned (OpenSpec.upto cacheLeavesSpec)

/-- 'syllabarylaw28.CacheUses', WHERE WHAT IT READS IS OF BULK AT MOST 1048576: true; the input reads as it did. -/
def cacheUsesUptoRow : OpenClaim := { program := "ytecdmgcgplohoaa", sum := "124080e11538a7c8342ce0514d437afb887ba7d27f942aecd9019c05a3012171", func := "syllabary/syllabarylaw28.CacheUses", spec := "cacheUses", unfollowed := true, recurses := true, apart := false, narrowed := true }
def CacheUsesUptoSaid : Prop := cacheUsesUptoRow.holds Try.pinned (OpenSpec.upto cacheUsesSpec)

/-- 'syllabarylaw28.CacheDrops', WHERE WHAT IT READS IS OF BULK AT MOST 1048576: true; the input reads as it did. -/
def cacheDropsUptoRow : OpenClaim := { program := "ytecdmgcgplohoaa", sum := "124080e11538a7c8342ce0514d437afb887ba7d27f942aecd9019c05a3012171", func := "syllabary/syllabarylaw28.CacheDrops", spec := "cacheDrops", unfollowed := true, recurses := true, apart := false, narrowed := true }
def CacheDropsUptoSaid : Prop := cacheDropsUptoRow.holds Try.pinned (OpenSpec.upto cacheDropsSpec)

end Rows
end Go.Proofs.Ytecdmgcgplohoaa
