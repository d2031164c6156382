/- Rows of words. -/
import Derived.Test.YtnejkfccdnadcaaDoorLexCa
namespace Go.Proofs.YtnejkfccdnadcaaDoor
open Go.RowKit Go.Shelf Go.Lib

/-- A slice of words in memory, below block B. -/
def WRow (w : World) (B : Nat) (A : Option Addr) (L : List Wd) : Prop :=
  0 < L.length → ∃ b off, A = some ⟨b, off, none⟩ ∧ b < B ∧ ∀ i (h : i < L.length),
    w.cell? ⟨b, off + i * 3, none⟩ = some (.int .i64 L[i].p) ∧ w.cell? ⟨b, off + i * 3 + 1, none⟩ = some (.int .i64 L[i].q) ∧ w.cell? ⟨b, off + i * 3 + 2, none⟩ = some (.string L[i].t)

theorem WRow.below {w w' : World} {B C : Nat} {A : Option Addr} {L : List Wd} (h : WRow w B A L) (hb : Below C w w') (hBC : B ≤ C) : WRow w' B A L := by
  intro hl
  obtain ⟨b, off, e, hlt, hc⟩ := h hl
  refine ⟨b, off, e, hlt, fun i hi => ?_⟩
  obtain ⟨h0, h1, h2⟩ := hc i hi
  exact ⟨(hb.cell (p := ⟨b, _, none⟩) (by show b < C; omega)).trans h0, (hb.cell (p := ⟨b, _, none⟩) (by show b < C; omega)).trans h1, (hb.cell (p := ⟨b, _, none⟩) (by show b < C; omega)).trans h2⟩

theorem WRow.more {w : World} {B C : Nat} {A : Option Addr} {L : List Wd} (h : WRow w B A L) (hBC : B ≤ C) : WRow w C A L := by
  intro hl
  obtain ⟨b, off, e, hlt, hc⟩ := h hl
  exact ⟨b, off, e, by omega, hc⟩

theorem wcells_at (L : List Wd) : ∀ i (h : i < L.length), (L.flatMap Wd.cells)[i * 3]? = some (.int .i64 L[i].p) ∧ (L.flatMap Wd.cells)[i * 3 + 1]? = some (.int .i64 L[i].q) ∧ (L.flatMap Wd.cells)[i * 3 + 2]? = some (.string L[i].t) := by
  induction L with
  | nil => intro i h; simp at h
  | cons x r ih =>
    intro i h
    cases i with
    | zero => simp [Wd.cells]
    | succ j =>
      obtain ⟨a, b, c⟩ := ih j (by simpa using h)
      have e : ∀ m, (Wd.cells x ++ List.flatMap Wd.cells r)[m + 3]? = (List.flatMap Wd.cells r)[m]? := fun m => by simp [Wd.cells]
      simp only [List.flatMap_cons, List.getElem_cons_succ]
      refine ⟨?_, ?_, ?_⟩
      · rw [show (j + 1) * 3 = j * 3 + 3 by omega, e]; exact a
      · rw [show (j + 1) * 3 + 1 = (j * 3 + 1) + 3 by omega, e]; exact b
      · rw [show (j + 1) * 3 + 2 = (j * 3 + 2) + 3 by omega, e]; exact c

/-- What the call's own row of words gives to a reader. -/
theorem wrow_own {w : World} {base : Nat} {e : TypeId} {v : Value} {L : List Wd} (h : w.ownsRow base e 3 v L.length (L.flatMap Wd.cells)) :
    ∃ A cap, v = .slice A L.length cap ∧ L.length ≤ cap ∧ (A = none → cap = 0) ∧ WRow w w.heap.size A L := by
  rcases h.2 with ⟨rfl, h0⟩ | ⟨g, cap, cur, rfl, _, hg, hnc, _⟩
  · exact ⟨_, _, by rw [h0], by omega, fun _ => rfl, fun h => by omega⟩
  · refine ⟨_, cap, rfl, hnc, (fun h => by cases h), fun _ => ⟨g, 0, rfl, lt_of_block hg, fun i hi => ?_⟩⟩
    obtain ⟨a, b, c⟩ := wcells_at L i hi
    have hc := h.cells (g := g) rfl
    have ha : ∀ j, (⟨g, 0, none⟩ : Addr).add j = ⟨g, 0 + j, none⟩ := fun j => by unfold Addr.add; split <;> simp_all
    exact ⟨by have := hc _ _ a; rwa [ha] at this, by have := hc _ _ b; rwa [ha] at this, by have := hc _ _ c; rwa [ha] at this⟩

set_option maxHeartbeats 1000000 in
theorem digits_small (i : Nat) (hi : i < 100) (w : World) :
    Calls Tryd.prog 32 #[.int .i64 i] w fun e w' => e = .returned (.string ⟨(Lib.decDigits i).toArray⟩) ∧ w = w' := by
  have hd := Lib.hid (Tryd.strconv_FormatInt_10_small i hi w)
  go_enter Tryd.func32, Tryd.ntmps32
  go_wp2_with (go_at_call 39; refine hd.out.mono ?_; rintro e w' ⟨rfl, rfl⟩)
  go_ret
  exact ⟨rfl, rfl⟩

end Go.Proofs.YtnejkfccdnadcaaDoor
