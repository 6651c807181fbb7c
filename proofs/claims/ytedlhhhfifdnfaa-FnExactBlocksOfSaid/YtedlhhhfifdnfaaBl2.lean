import Derived.Test.YtedlhhhfifdnfaaProg
import Derived.Test.YtedlhhhfifdnfaaGen
import Derived.WalkKit
import Derived.Outline
import Derived.Deep.LoopGhost
import Derived.Deep.DeepCutAuto
import Derived.Deep.CutBlock
import Derived.Deep.Light
import Derived.Deep.QuietTactic
import Derived.BigQuiet
import Derived.StillTailTactics
import Derived.KernelRfl
import Derived.IntWalk
import Derived.Deep.DeepMust
import Derived.Lib.Hide
import Derived.Test.YtedlhhhfifdnfaaBl1
import Derived.Test.YtedlhhhfifdnfaaOwn
set_option linter.unusedVariables false
set_option linter.unusedSimpArgs false
namespace Go.Proofs.Ytedlhhhfifdnfaa
open Go.RowKit
theorem infoBool : (Try.prog.info? 4).map (fun i => (i.zero, i.size, i.bytes)) = some (some (.bool false), 1, 1) := by kernel_rfl
theorem infoInt64 : (Try.prog.info? 2).map (fun i => (i.zero, i.size, i.bytes)) = some (some (.int .i64 0), 1, 8) := by kernel_rfl
theorem made1 (z : Value) (n : Nat) : madeCells #[z] n = Array.replicate n z := by
  apply Array.ext
  · simp [madeCells]
  · intro i h1 h2
    simp [madeCells, Nat.mod_one]
/-- A row of flags at block g. -/
def Flags (w : World) (g : Nat) (b : List Bool) : Prop := w.heap[g]? = some (.cells (b.map Value.bool).toArray 4 (0, 0))
theorem Flags.cell {w : World} {g : Nat} {b : List Bool} (f : Flags w g b) (k : Nat) (hk : k < b.length) : w.cell? ⟨g, k, none⟩ = some (.bool b[k]) := by
  rw [cell_of_blk f]
  simp [hk]
theorem Flags.free {w : World} {g : Nat} {b : List Bool} (f : Flags w g b) (k : Nat) : w.frozen? ⟨g, k, none⟩ = false := free_of_blk f k
theorem Flags.set {w : World} {g : Nat} {b : List Bool} (f : Flags w g b) (k : Nat) (v : Bool) : Flags (w.setCell ⟨g, k, none⟩ (.bool v)) g (b.set k v) := by
  have := blk_setCell f k (.bool v)
  unfold Flags
  rw [this, List.map_set]
  simp
theorem Flags.upd {w w' : World} {g : Nat} {b : List Bool} (f : Flags w g b) {S : Nat → Prop} (h : Upd S w w') (hs : ¬ S g) : Flags w' g b := (h.block g (Array.getElem?_eq_some_iff.1 f).1 hs).trans f
theorem Flags.start (w : World) (n : Nat) : Flags (w.alloc (.cells (madeCells (Value.cells (.bool false)) (n * 1)) 4)) w.heap.size (List.replicate n false) := by
  unfold Flags
  rw [heap_alloc_new]
  simp [Value.cells, made1]
theorem Flags.start0 (w : World) (n : Nat) : Flags (w.alloc (.cells ((madeCells (Value.cells (.bool false)) (n * 1)).setIfInBounds 0 (.bool true)) 4)) w.heap.size ((List.replicate n false).set 0 true) := by
  unfold Flags
  rw [heap_alloc_new, List.map_set]
  have : ((List.replicate n (Value.bool false)).set 0 (Value.bool true)).toArray = (Array.replicate n (Value.bool false)).setIfInBounds 0 (Value.bool true) := by
    apply Array.ext'
    simp
  simp [Value.cells, made1, this]
end Go.Proofs.Ytedlhhhfifdnfaa
