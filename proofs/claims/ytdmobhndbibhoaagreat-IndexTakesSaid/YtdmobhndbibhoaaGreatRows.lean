/-
  No cell of these rows narrows 'for every input' (looked for: loops, veiled, ifaces, maps, wideKeys, modest, calm, conditions, laid).
  DERIVED. THE GIVEN ROWS OF THIS SEAT. 5 by the template 'for every input the law returns true; each argument reads behind the call as it read before'; 0 by the template 'total and deterministic' (their statements: YtdmobhndbibhoaaGreatTotals.lean).
  GIVEN WITH THE SEED: the statements are not yours to turn. If you find one false, say at which input.
  Laid BY PROGRAM, IN A SANDBOX (cutbox-rows.mjs): the forced cells as the released guide's own fill.sh prints them over the translation b34376ca790b32d4… (all of the seat's roots in one cut). By AI agents, Wed Nov 11 2026. No macro, syntax, notation, axiom, sorry.
-/
import Derived.Test.YtdmobhndbibhoaaGreatChecked
import GoSem.Claim
import GoSem.ClaimJoined
import GoSem.ClaimMapViews
import Derived.JoinedTies
import Derived.KernelRfl
namespace Go.Proofs.YtdmobhndbibhoaaGreat
/- THE CELL 'sum', in the pinned program and in every row, IS THE sha256 OF THE DUMP (.gsa) THAT YtdmobhndbibhoaaGreatProg.lean LOADS. Nothing in Lean hashes anything: it is a label: what it is worth is what the hold of that sum in a sandbox is worth. -/
noncomputable def Tryz.pinned : Pinned := { name := "ytdmobhndbibhoaagreat", sum := "b34376ca790b32d428fbf1f6bf90967c5f959854ceb6102ee78b51c87369c2b8", checked := Tryz.checked }
namespace Rows
def none {H : Type} : Left H := { results := [], args := [] }

/-- 'larchlaw24.IndexMethods': WHATEVER THE INPUT: true; the input reads as it did. -/
def indexMethodsSpec : ChangeSpec := { name := "indexMethods", fn := fun _ => fun
  | [d1, d2, d3] => { results := [.lit (.bool true)], args := [d1, d2, d3] }
  | _ => none }
def indexMethodsRow : OpenClaim := { program := "ytdmobhndbibhoaagreat", sum := "b34376ca790b32d428fbf1f6bf90967c5f959854ceb6102ee78b51c87369c2b8", func := "larch/larchlaw24.IndexMethods", spec := "indexMethods", inPlace := ["sync/atomic.StorePointer", "sync/atomic.StoreInt64", "sync/atomic.LoadPointer", "sync/atomic.LoadUint32", "sync/atomic.LoadInt64", "sync/atomic.CompareAndSwapPointer", "sync/atomic.StoreUint32"], unfollowed := true, recurses := true, apart := false }
def IndexMethodsSaid : Prop := indexMethodsRow.holds Tryz.pinned (OpenSpec.ofChange indexMethodsSpec)

/-- ITS FALSE NEIGHBOUR: 'it returns false'. Refute it at one input. -/
def indexMethodsWrong : ChangeSpec := { name := "indexMethods", fn := fun _ => fun
  | [d1, d2, d3] => { results := [.lit (.bool false)], args := [d1, d2, d3] }
  | _ => none }
def IndexMethodsWrongFalsely : Prop := indexMethodsRow.holds Tryz.pinned (OpenSpec.ofChange indexMethodsWrong)

/-- 'larchtop.LarchScans': WHATEVER THE INPUT: true; the input reads as it did. -/
def larchScansSpec : ChangeSpec := { name := "larchScans", fn := fun _ => fun
  | [d] => { results := [.lit (.bool true)], args := [d] }
  | _ => none }
def larchScansRow : OpenClaim := { program := "ytdmobhndbibhoaagreat", sum := "b34376ca790b32d428fbf1f6bf90967c5f959854ceb6102ee78b51c87369c2b8", func := "larch/larchtop.LarchScans", spec := "larchScans", inPlace := ["slices.overlaps[larch/api.Pair]", "sync/atomic.StorePointer", "sync/atomic.StoreInt64", "sync/atomic.LoadPointer", "sync/atomic.LoadUint32", "sync/atomic.LoadInt64", "sync/atomic.CompareAndSwapPointer", "sync/atomic.StoreUint32"], unfollowed := true, recurses := true, apart := false }
def LarchScansSaid : Prop := larchScansRow.holds Tryz.pinned (OpenSpec.ofChange larchScansSpec)

/-- ITS FALSE NEIGHBOUR: 'it returns false'. Refute it at one input. -/
def larchScansWrong : ChangeSpec := { name := "larchScans", fn := fun _ => fun
  | [d] => { results := [.lit (.bool false)], args := [d] }
  | _ => none }
def LarchScansWrongFalsely : Prop := larchScansRow.holds Tryz.pinned (OpenSpec.ofChange larchScansWrong)

/-- 'larchlaw24.IndexTakes': WHATEVER THE INPUT: true; the input reads as it did. -/
def indexTakesSpec : ChangeSpec := { name := "indexTakes", fn := fun _ => fun
  | [d1, d2] => { results := [.lit (.bool true)], args := [d1, d2] }
  | _ => none }
def indexTakesRow : OpenClaim := { program := "ytdmobhndbibhoaagreat", sum := "b34376ca790b32d428fbf1f6bf90967c5f959854ceb6102ee78b51c87369c2b8", func := "larch/larchlaw24.IndexTakes", spec := "indexTakes", inPlace := ["sync/atomic.StorePointer", "sync/atomic.StoreInt64", "sync/atomic.LoadPointer", "sync/atomic.LoadUint32", "sync/atomic.LoadInt64", "sync/atomic.CompareAndSwapPointer", "sync/atomic.StoreUint32"], unfollowed := true, recurses := true, apart := false }
def IndexTakesSaid : Prop := indexTakesRow.holds Tryz.pinned (OpenSpec.ofChange indexTakesSpec)

/-- ITS FALSE NEIGHBOUR: 'it returns false'. Refute it at one input. -/
def indexTakesWrong : ChangeSpec := { name := "indexTakes", fn := fun _ => fun
  | [d1, d2] => { results := [.lit (.bool false)], args := [d1, d2] }
  | _ => none }
def IndexTakesWrongFalsely : Prop := indexTakesRow.holds Tryz.pinned (OpenSpec.ofChange indexTakesWrong)

/-- 'larchlaw24.IndexKeeps': WHATEVER THE INPUT: true; the input reads as it did. -/
def indexKeepsSpec : ChangeSpec := { name := "indexKeeps", fn := fun _ => fun
  | [d1, d2] => { results := [.lit (.bool true)], args := [d1, d2] }
  | _ => none }
def indexKeepsRow : OpenClaim := { program := "ytdmobhndbibhoaagreat", sum := "b34376ca790b32d428fbf1f6bf90967c5f959854ceb6102ee78b51c87369c2b8", func := "larch/larchlaw24.IndexKeeps", spec := "indexKeeps", inPlace := ["sync/atomic.StorePointer", "sync/atomic.StoreInt64", "sync/atomic.LoadPointer", "sync/atomic.LoadUint32", "sync/atomic.LoadInt64", "sync/atomic.CompareAndSwapPointer", "sync/atomic.StoreUint32"], unfollowed := true, recurses := true, apart := false }
def IndexKeepsSaid : Prop := indexKeepsRow.holds Tryz.pinned (OpenSpec.ofChange indexKeepsSpec)

/-- ITS FALSE NEIGHBOUR: 'it returns false'. Refute it at one input. -/
def indexKeepsWrong : ChangeSpec := { name := "indexKeeps", fn := fun _ => fun
  | [d1, d2] => { results := [.lit (.bool false)], args := [d1, d2] }
  | _ => none }
def IndexKeepsWrongFalsely : Prop := indexKeepsRow.holds Tryz.pinned (OpenSpec.ofChange indexKeepsWrong)

/-- 'larchlaw24.IndexWeaves': WHATEVER THE INPUT: true; the input reads as it did. -/
def indexWeavesSpec : ChangeSpec := { name := "indexWeaves", fn := fun _ => fun
  | [d1, d2, d3] => { results := [.lit (.bool true)], args := [d1, d2, d3] }
  | _ => none }
def indexWeavesRow : OpenClaim := { program := "ytdmobhndbibhoaagreat", sum := "b34376ca790b32d428fbf1f6bf90967c5f959854ceb6102ee78b51c87369c2b8", func := "larch/larchlaw24.IndexWeaves", spec := "indexWeaves", inPlace := ["sync/atomic.StorePointer", "sync/atomic.StoreInt64", "sync/atomic.LoadPointer", "sync/atomic.LoadUint32", "sync/atomic.LoadInt64", "sync/atomic.CompareAndSwapPointer", "sync/atomic.StoreUint32"], unfollowed := true, recurses := true, apart := false }
def IndexWeavesSaid : Prop := indexWeavesRow.holds Tryz.pinned (OpenSpec.ofChange indexWeavesSpec)

/-- ITS FALSE NEIGHBOUR: 'it returns false'. Refute it at one input. -/
def indexWeavesWrong : ChangeSpec := { name := "indexWeaves", fn := fun _ => fun
  | [d1, d2, d3] => { results := [.lit (.bool false)], args := [d1, d2, d3] }
  | _ => none }
def IndexWeavesWrongFalsely : Prop := indexWeavesRow.holds Tryz.pinned (OpenSpec.ofChange indexWeavesWrong)

/- THE SECOND FORM. 'bulk': how many values and letters a reading holds, each counted each time it is reached (what is shared counts as often as it is met; a slice's spare places count too). A statement '..UptoSaid' is the law's where the arguments, and the package variables that the reading takes, are together of bulk at most 1048576: NARROWER than '..Said'. Prove '..Said' where nothing that the law and all that it calls make is longer than what came in: it says more and counts as full. Else prove '..UptoSaid'. A law counts once. -/
mutual
def uptoBulk {H : Type} : DataW H → Nat
  | .lit (.string bytes) => bytes.length + 1
  | .lit _ => 1
  | .nil => 1
  | .ptr d => uptoBulk d + 1
  | .slice elems spare => uptoBulkAll elems + uptoBulkAll spare + 1
  | .agg parts => uptoBulkAll parts + 1
  | .iface _ d => uptoBulk d + 1
  | .map entries => uptoBulkEntries entries + 1
  | .held _ => 1
def uptoBulkAll {H : Type} : List (DataW H) → Nat
  | [] => 0
  | d :: r => uptoBulk d + uptoBulkAll r
def uptoBulkEntries {H : Type} : List (Lit × DataW H) → Nat
  | [] => 0
  | x :: r => uptoBulkEntry x + uptoBulkEntries r
def uptoBulkEntry {H : Type} : Lit × DataW H → Nat
  | (.string bytes, d) => bytes.length + uptoBulk d + 1
  | (_, d) => uptoBulk d + 1
 end
def uptoSmall : (H : Type) → List (DataW H) → Bool := fun _ ds => decide (uptoBulkAll ds ≤ 1048576)
def OpenSpec.upto (s : _root_.Go.ChangeSpec) : _root_.Go.OpenSpec := { _root_.Go.OpenSpec.ofChange s with cond := some uptoSmall }

/-- 'larchlaw24.IndexMethods', WHERE WHAT IT READS IS OF BULK AT MOST 1048576: true; the input reads as it did. -/
def indexMethodsUptoRow : OpenClaim := { program := "ytdmobhndbibhoaagreat", sum := "b34376ca790b32d428fbf1f6bf90967c5f959854ceb6102ee78b51c87369c2b8", func := "larch/larchlaw24.IndexMethods", spec := "indexMethods", inPlace := ["sync/atomic.StorePointer", "sync/atomic.StoreInt64", "sync/atomic.LoadPointer", "sync/atomic.LoadUint32", "sync/atomic.LoadInt64", "sync/atomic.CompareAndSwapPointer", "sync/atomic.StoreUint32"], unfollowed := true, recurses := true, apart := false, narrowed := true }
def IndexMethodsUptoSaid : Prop := indexMethodsUptoRow.holds Tryz.pinned (OpenSpec.upto indexMethodsSpec)

/-- 'larchtop.LarchScans', WHERE WHAT IT READS IS OF BULK AT MOST 1048576: true; the input reads as it did. -/
def larchScansUptoRow : OpenClaim := { program := "ytdmobhndbibhoaagreat", sum := "b34376ca790b32d428fbf1f6bf90967c5f959854ceb6102ee78b51c87369c2b8", func := "larch/larchtop.LarchScans", spec := "larchScans", inPlace := ["slices.overlaps[larch/api.Pair]", "sync/atomic.StorePointer", "sync/atomic.StoreInt64", "sync/atomic.LoadPointer", "sync/atomic.LoadUint32", "sync/atomic.LoadInt64", "sync/atomic.CompareAndSwapPointer", "sync/atomic.StoreUint32"], unfollowed := true, recurses := true, apart := false, narrowed := true }
def LarchScansUptoSaid : Prop := larchScansUptoRow.holds Tryz.pinned (OpenSpec.upto larchScansSpec)

/-- 'larchlaw24.IndexTakes', WHERE WHAT IT READS IS OF BULK AT MOST 1048576: true; the input reads as it did. -/
def indexTakesUptoRow : OpenClaim := { program := "ytdmobhndbibhoaagreat", sum := "b34376ca790b32d428fbf1f6bf90967c5f959854ceb6102ee78b51c87369c2b8", func := "larch/larchlaw24.IndexTakes", spec := "indexTakes", inPlace := ["sync/atomic.StorePointer", "sync/atomic.StoreInt64", "sync/atomic.LoadPointer", "sync/atomic.LoadUint32", "sync/atomic.LoadInt64", "sync/atomic.CompareAndSwapPointer", "sync/atomic.StoreUint32"], unfollowed := true, recurses := true, apart := false, narrowed := true }
def IndexTakesUptoSaid : Prop := indexTakesUptoRow.holds Tryz.pinned (OpenSpec.upto indexTakesSpec)

/-- 'larchlaw24.IndexKeeps', WHERE WHAT IT READS IS OF BULK AT MOST 1048576: true; the input reads as it did. -/
def indexKeepsUptoRow : OpenClaim := { program := "ytdmobhndbibhoaagreat", sum := "b34376ca790b32d428fbf1f6bf90967c5f959854ceb6102ee78b51c87369c2b8", func := "larch/larchlaw24.IndexKeeps", spec := "indexKeeps", inPlace := ["sync/atomic.StorePointer", "sync/atomic.StoreInt64", "sync/atomic.LoadPointer", "sync/atomic.LoadUint32", "sync/atomic.LoadInt64", "sync/atomic.CompareAndSwapPointer", "sync/atomic.StoreUint32"], unfollowed := true, recurses := true, apart := false, narrowed := true }
def IndexKeepsUptoSaid : Prop := indexKeepsUptoRow.holds Tryz.pinned (OpenSpec.upto indexKeepsSpec)

/-- 'larchlaw24.IndexWeaves', WHERE WHAT IT READS IS OF BULK AT MOST 1048576: true; the input reads as it did. -/
def indexWeavesUptoRow : OpenClaim := { program := "ytdmobhndbibhoaagreat", sum := "b34376ca790b32d428fbf1f6bf90967c5f959854ceb6102ee78b51c87369c2b8", func := "larch/larchlaw24.IndexWeaves", spec := "indexWeaves", inPlace := ["sync/atomic.StorePointer", "sync/atomic.StoreInt64", "sync/atomic.LoadPointer", "sync/atomic.LoadUint32", "sync/atomic.LoadInt64", "sync/atomic.CompareAndSwapPointer", "sync/atomic.StoreUint32"], unfollowed := true, recurses := true, apart := false, narrowed := true }
def IndexWeavesUptoSaid : Prop := indexWeavesUptoRow.holds Tryz.pinned (OpenSpec.upto indexWeavesSpec)

end Rows
end Go.Proofs.YtdmobhndbibhoaaGreat
