/- A slice of one byte as a string; what lies below, behind calls. -/
import Derived.Test.YtnejkfccdnadcaaDoorLexJa
import Derived.Laws.IdiomStrings
namespace Go.Proofs.YtnejkfccdnadcaaDoor
open Go.RowKit Go.Shelf Go.Lib

theorem conv_y {W : World} {b : Nat} {y : Nat} (hy : y < 256) (h : W.cell? ⟨b, 0, none⟩ = some (.int .u8 (y : Int))) :
    (convert 61 9 (.slice (some ⟨b, 0, none⟩) 1 1)).run Tryd.prog W = .ok (.string ⟨#[UInt8.ofNat y]⟩) W := by
  have hyt : (UInt8.ofNat y).toNat = y := by rw [UInt8.toNat_ofNat']; omega
  refine run_convert_bytes_back (P := Tryd.prog) W 61 9 5 ⟨b, 0, none⟩ 1 [UInt8.ofNat y] Tryd.underlying61 Tryd.underlying5 Tryd.underlying9 (fun j hj => ?_)
  obtain rfl : j = 0 := by simpa using hj
  simpa [Addr.add, hyt] using h

theorem ch1 {w a : World} (h : Below w.drew.heap.size w.drew a) : Below w.heap.size w a := ((Below.refl w.heap.size w).drew).trans h
theorem ch2 {w a : World} {o : Obj} (h : Below (w.alloc o).drew.heap.size (w.alloc o).drew a) : Below w.heap.size w a := (((Below.refl w.heap.size w).alloc (Nat.le_refl _) o).drew).trans (h.mono (by show w.heap.size ≤ (w.alloc o).heap.size; simp))
theorem ch3 {w a b : World} (h : Below w.heap.size w a) (k : Below a.heap.size a b) : Below w.heap.size w b := h.trans (k.mono h.size)
theorem ch4 {w a b : World} {o : Obj} (h : Below w.heap.size w a) (k : Below (a.alloc o).heap.size (a.alloc o) b) : Below w.heap.size w b := (h.alloc h.size o).trans (k.mono (by have := h.size; simp; omega))

end Go.Proofs.YtnejkfccdnadcaaDoor
