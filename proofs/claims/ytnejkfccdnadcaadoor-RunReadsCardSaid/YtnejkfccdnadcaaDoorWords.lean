/- Words for memory: a block of one cell that is known whole; small facts. -/
import Derived.Test.YtnejkfccdnadcaaDoorRows
import Derived.WalkKit
import Derived.WalkSpells
import Derived.WalkLawsBesides
import Derived.Lib.Hide
import Derived.OneCell
import Derived.Deep.Draws
import Derived.Laws.Rows
namespace Go.Proofs.YtnejkfccdnadcaaDoor
open Go.RowKit

theorem ret_bool {a b : Bool} (h : a = b) : Ending.returned (.bool a) = .returned (.bool b) := by rw [h]
theorem ret_int {k : IntKind} {a b : Int} (h : a = b) : Ending.returned (.int k a) = .returned (.int k b) := by rw [h]

/-- Block b is the one cell v, of type t, not frozen. -/
def At (w : World) (b : Nat) (v : Value) (t : TypeId) : Prop := w.heap[b]? = some (.cells #[v] t (0, 0))

section
variable {w w' : World} {b : Nat} {v : Value} {t : TypeId}
theorem At.cell (h : At w b v t) : w.cell? ⟨b, 0, none⟩ = some v := cell_of_one h
theorem At.free (h : At w b v t) : w.frozen? ⟨b, 0, none⟩ = false := free_of_one h
theorem At.lt (h : At w b v t) : b < w.heap.size := lt_of_block h
theorem At.new (w : World) (v : Value) (t : TypeId) : At (w.alloc (.cells #[v] t)) w.heap.size v t := heap_alloc_new w _
theorem At.alloc (h : At w b v t) (o : Obj) : At (w.alloc o) b v t := (Below.heap_alloc w o b h.lt).trans h
theorem At.set (h : At w b v t) (u : Value) : At (w.setCell ⟨b, 0, none⟩ u) b u t := one_setCell h
theorem At.far (h : At w b v t) {p : Addr} (hp : b ≠ p.block) (u : Value) : At (w.setCell p u) b v t := (Below.heap_setCell w p u b hp).trans h
theorem At.below {B : Nat} (h : At w b v t) (hb : Below B w w') (hB : b < B) : At w' b v t := (hb.block b hB).trans h
theorem At.drew (h : At w b v t) : At w.drew b v t := h
theorem At.drewN (h : At w b v t) (n : Nat) : At (w.drewN n) b v t := h
theorem At.grown {row : Option Nat} (h : At w b v t) (hg : w.grownBy w' row) (hr : some b ≠ row) : At w' b v t := (hg.block b h.lt hr).trans h
end

theorem below_drewN {B : Nat} {a w : World} (h : Below B a w) (n : Nat) : Below B a (w.drewN n) := ⟨h.os, h.tape, h.output, h.size, h.block⟩
theorem below_alloc' {w w' : World} (h : Below w.heap.size w w') (o : Obj) : Below w.heap.size w (w'.alloc o) := h.alloc h.size o

end Go.Proofs.YtnejkfccdnadcaaDoor
