/- The document's Number at every text. -/
import Derived.Test.YtnejkfccdnadcaaDoorLexU
namespace Go.Proofs.YtnejkfccdnadcaaDoor
open Go.RowKit Go.Shelf Go.Lib

set_option maxHeartbeats 1000000 in
set_option maxRecDepth 100000 in
theorem refNumber_none (most : Int) (w : World) :
    Calls Tryd.prog 25 #[.string ByteArray.empty, .int .i64 most] w fun e w' => e = .returned (.agg #[.int .i64 0, .bool false]) ∧ Below w.heap.size w w' := by
  go_enter Tryd.func25, Tryd.ntmps25
  go_wp2
  exact num_ret rfl ⟨rfl, (Below.refl _ w).alloc (Nat.le_refl _) _⟩

theorem refNumber_any (s : ByteArray) (most : Int) (w : World) (hs : s.size ≤ 1000000) (hm2 : most ≤ 9223372036854775807) :
    Calls Tryd.prog 25 #[.string s, .int .i64 most] w fun e w' =>
      ((NumOk s.data.toList most ∧ e = .returned (.agg #[.int .i64 (numV s.data.toList), .bool true])) ∨ (¬ NumOk s.data.toList most ∧ e = .returned (.agg #[.int .i64 0, .bool false]))) ∧ Below w.heap.size w w' := by
  rcases Nat.eq_zero_or_pos s.size with h | h
  · have he : s.data.toList = [] := List.eq_nil_of_length_eq_zero (by rw [← Lib.size_eq]; exact h)
    have hs' : s = ByteArray.empty := by
      apply ByteArray.ext
      apply Array.toList_inj.1
      rw [he]; rfl
    rw [hs']
    exact (refNumber_none most w).mono fun e w' ⟨h1, h2⟩ => ⟨.inr ⟨fun h => h.1.1 rfl, h1⟩, h2⟩
  · exact refNumber_pos s most w h hs hm2

end Go.Proofs.YtnejkfccdnadcaaDoor
