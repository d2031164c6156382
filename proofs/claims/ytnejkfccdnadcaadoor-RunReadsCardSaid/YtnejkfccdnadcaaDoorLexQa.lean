/- Rows of numbers. -/
import Derived.Test.YtnejkfccdnadcaaDoorLexO
import Derived.Test.YtnejkfccdnadcaaDoorLexCa
import Derived.Test.YtnejkfccdnadcaaDoorAppend
namespace Go.Proofs.YtnejkfccdnadcaaDoor
open Go.RowKit Go.Shelf Go.Lib

/-- A slice of int64 in memory, below block B. -/
def NRow (w : World) (B : Nat) (A : Option Addr) (L : List Int) : Prop :=
  0 < L.length → ∃ b off, A = some ⟨b, off, none⟩ ∧ b < B ∧ ∀ i (h : i < L.length), w.cell? ⟨b, off + i, none⟩ = some (.int .i64 L[i])

theorem NRow.below {w w' : World} {B C : Nat} {A : Option Addr} {L : List Int} (h : NRow w B A L) (hb : Below C w w') (hBC : B ≤ C) : NRow w' B A L := by
  intro hl
  obtain ⟨b, off, e, hlt, hc⟩ := h hl
  exact ⟨b, off, e, hlt, fun i hi => (hb.cell (p := ⟨b, _, none⟩) (by show b < C; omega)).trans (hc i hi)⟩

theorem NRow.more {w : World} {B C : Nat} {A : Option Addr} {L : List Int} (h : NRow w B A L) (hBC : B ≤ C) : NRow w C A L := by
  intro hl
  obtain ⟨b, off, e, hlt, hc⟩ := h hl
  exact ⟨b, off, e, by omega, hc⟩

theorem nrow_own {w : World} {base : Nat} {e : TypeId} {v : Value} {L : List Int} (h : w.ownsRow base e 1 v L.length (L.map (Value.int .i64))) :
    ∃ A cap, v = .slice A L.length cap ∧ L.length ≤ cap ∧ (A = none → cap = 0) ∧ NRow w w.heap.size A L := by
  rcases h.2 with ⟨rfl, h0⟩ | ⟨g, cap, cur, rfl, _, hg, hnc, _⟩
  · exact ⟨_, _, by rw [h0], by omega, fun _ => rfl, fun h => by omega⟩
  · refine ⟨_, cap, rfl, hnc, (fun h => by cases h), fun _ => ⟨g, 0, rfl, lt_of_block hg, fun i hi => ?_⟩⟩
    have hc := h.cells (g := g) rfl
    have ha : ∀ j, (⟨g, 0, none⟩ : Addr).add j = ⟨g, 0 + j, none⟩ := fun j => by unfold Addr.add; split <;> simp_all
    have := hc i (.int .i64 L[i]) (by simp [hi])
    rwa [ha] at this

theorem infoL : (Tryd.prog.info? 2).map (fun i => (i.zero, i.size, i.bytes)) = some (some (.int .i64 0), 1, 8) := by kernel_rfl

end Go.Proofs.YtnejkfccdnadcaaDoor
