/- Rows of words; Same; the chapter's example. -/
import Derived.Test.YtjmokodifkjfgaaDoorLexC
namespace Go.Proofs.YtjmokodifkjfgaaDoor
open Go.RowKit Go.Shelf Go.Lib

/-- A slice of words in memory, below block B. -/
def WRow (w : World) (B : Nat) (A : Option Addr) (L : List Wd) : Prop :=
  0 < L.length → ∃ b off, A = some ⟨b, off, none⟩ ∧ b < B ∧ ∀ i (h : i < L.length),
    w.cell? ⟨b, off + i * 3, none⟩ = some (.int .i64 L[i].p) ∧ w.cell? ⟨b, off + i * 3 + 1, none⟩ = some (.int .i64 L[i].q) ∧ w.cell? ⟨b, off + i * 3 + 2, none⟩ = some (.string L[i].t)

theorem WRow.below {w w' : World} {B C : Nat} {A : Option Addr} {L : List Wd} (h : WRow w B A L) (hb : Below C w w') (hBC : B ≤ C) : WRow w' B A L := by
  intro hl
  obtain ⟨b, off, e, hlt, hc⟩ := h hl
  refine ⟨b, off, e, hlt, fun i hi => ?_⟩
  obtain ⟨h0, h1, h2⟩ := hc i hi
  exact ⟨(hb.cell (p := ⟨b, _, none⟩) (by show b < C; omega)).trans h0, (hb.cell (p := ⟨b, _, none⟩) (by show b < C; omega)).trans h1, (hb.cell (p := ⟨b, _, none⟩) (by show b < C; omega)).trans h2⟩

theorem WRow.more {w : World} {B C : Nat} {A : Option Addr} {L : List Wd} (h : WRow w B A L) (hBC : B ≤ C) : WRow w C A L := by
  intro hl
  obtain ⟨b, off, e, hlt, hc⟩ := h hl
  exact ⟨b, off, e, by omega, hc⟩

theorem wcells_at (L : List Wd) : ∀ i (h : i < L.length), (L.flatMap Wd.cells)[i * 3]? = some (.int .i64 L[i].p) ∧ (L.flatMap Wd.cells)[i * 3 + 1]? = some (.int .i64 L[i].q) ∧ (L.flatMap Wd.cells)[i * 3 + 2]? = some (.string L[i].t) := by
  induction L with
  | nil => intro i h; simp at h
  | cons x r ih =>
    intro i h
    cases i with
    | zero => simp [Wd.cells]
    | succ j =>
      obtain ⟨a, b, c⟩ := ih j (by simpa using h)
      have e : ∀ m, (Wd.cells x ++ List.flatMap Wd.cells r)[m + 3]? = (List.flatMap Wd.cells r)[m]? := fun m => by simp [Wd.cells]
      simp only [List.flatMap_cons, List.getElem_cons_succ]
      refine ⟨?_, ?_, ?_⟩
      · rw [show (j + 1) * 3 = j * 3 + 3 by omega, e]; exact a
      · rw [show (j + 1) * 3 + 1 = (j * 3 + 1) + 3 by omega, e]; exact b
      · rw [show (j + 1) * 3 + 2 = (j * 3 + 2) + 3 by omega, e]; exact c

/-- What the call's own row of words gives to a reader. -/
theorem wrow_own {w : World} {base : Nat} {e : TypeId} {v : Value} {L : List Wd} (h : w.ownsRow base e 3 v L.length (L.flatMap Wd.cells)) :
    ∃ A cap, v = .slice A L.length cap ∧ L.length ≤ cap ∧ (A = none → cap = 0) ∧ WRow w w.heap.size A L := by
  rcases h.2 with ⟨rfl, h0⟩ | ⟨g, cap, cur, rfl, _, hg, hnc, _⟩
  · exact ⟨_, _, by rw [h0], by omega, fun _ => rfl, fun h => by omega⟩
  · refine ⟨_, cap, rfl, hnc, (fun h => by cases h), fun _ => ⟨g, 0, rfl, lt_of_block hg, fun i hi => ?_⟩⟩
    obtain ⟨a, b, c⟩ := wcells_at L i hi
    have hc := h.cells (g := g) rfl
    have ha : ∀ j, (⟨g, 0, none⟩ : Addr).add j = ⟨g, 0 + j, none⟩ := fun j => by unfold Addr.add; split <;> simp_all
    exact ⟨by have := hc _ _ a; rwa [ha] at this, by have := hc _ _ b; rwa [ha] at this, by have := hc _ _ c; rwa [ha] at this⟩

set_option maxHeartbeats 1000000 in
set_option maxRecDepth 100000 in
theorem same_yes (A1 A2 : Option Addr) (c1 c2 : Nat) (L : List Wd) (w : World) (hn : L.length ≤ 1000000) (h1 : WRow w w.heap.size A1 L) (h2 : WRow w w.heap.size A2 L) :
    Calls Tryd.prog 12 #[.slice A1 L.length c1, .slice A2 L.length c2] w fun e w' => e = .returned (.bool true) ∧ Below w.heap.size w w' := by
  obtain ⟨n, hn'⟩ : ∃ n, n = L.length := ⟨_, rfl⟩
  rw [← hn'] at hn ⊢
  have HN := Lib.hid hn'
  clear hn'
  go_enter Tryd.func12, Tryd.ntmps12
  go_wp2
  go_loopw [5] (fun v5 wr => ∃ i m : Nat, v5 = .int .i64 i ∧ i ≤ n ∧ wr = w.drewN m) (fun v5 _ => n - (RowKit.intOf v5).toNat)
  case atStart => exact ⟨0, 0, rfl, Nat.zero_le _, rfl⟩
  case round =>
    obtain ⟨i, m, rfl, hi, rfl⟩ := hrel
    by_cases hin : i < n
    · have hil : i < L.length := by rw [← HN.out]; exact hin
      obtain ⟨b1, o1, rfl, _, hc1⟩ := h1 (by omega)
      obtain ⟨b2, o2, rfl, _, hc2⟩ := h2 (by omega)
      obtain ⟨a0, a1, a2⟩ := hc1 i hil
      obtain ⟨d0, d1, d2⟩ := hc2 i hil
      clear hc1 hc2 h1 h2
      generalize L[i].p = xp at *
      generalize L[i].q = xq at *
      generalize L[i].t = xt at *
      go_wp2
      go_quiet (fail)
      go_wp2
      go_roundw
      case rel => exact ⟨i + 1, m + nq, by simp, hin, rfl⟩
      case measure => simp [RowKit.intOf]; omega
    · obtain rfl : i = n := by omega
      go_wp2
      go_ret
      exact ⟨rfl, below_drewN (Below.refl _ _) _⟩

set_option maxHeartbeats 1000000 in
theorem digits_small (i : Nat) (hi : i < 100) (w : World) :
    Calls Tryd.prog 18 #[.int .i64 i] w fun e w' => e = .returned (.string ⟨(Lib.decDigits i).toArray⟩) ∧ w = w' := by
  have hd := Lib.hid (Tryd.strconv_FormatInt_10_small i hi w)
  go_enter Tryd.func18, Tryd.ntmps18
  go_wp2_with (go_at_call 30; refine hd.out.mono ?_; rintro e w' ⟨rfl, rfl⟩)
  go_ret
  exact ⟨rfl, rfl⟩

/-- The chapter's example. -/
def exL : List Wd := [⟨0, 1, ⟨#[97]⟩⟩, ⟨3, 1, ⟨#[98]⟩⟩, ⟨7, 2, ⟨#[100]⟩⟩]

theorem exL_words : textW ⟨#[97, 32, 32, 98, 35, 99, 10, 100]⟩ = exL := by kernel_rfl

theorem exL_row (w : World) (t : TypeId) : WRow (w.alloc (.cells #[.int .i64 0, .int .i64 1, .string ⟨#[97]⟩, .int .i64 3, .int .i64 1, .string ⟨#[98]⟩, .int .i64 7, .int .i64 2, .string ⟨#[100]⟩] t)) (w.heap.size + 1) (some ⟨w.heap.size, 0, none⟩) exL := by
  intro _
  have hb := heap_alloc_new w (.cells #[.int .i64 0, .int .i64 1, .string ⟨#[97]⟩, .int .i64 3, .int .i64 1, .string ⟨#[98]⟩, .int .i64 7, .int .i64 2, .string ⟨#[100]⟩] t)
  generalize w.alloc _ = W1 at hb ⊢
  refine ⟨w.heap.size, 0, rfl, by omega, fun i hi => ?_⟩
  have hi3 : i < 3 := hi
  match i, hi3 with
  | 0, _ => exact ⟨by simp [World.cell?, hb, exL], by simp [World.cell?, hb, exL], by simp [World.cell?, hb, exL]⟩
  | 1, _ => exact ⟨by simp [World.cell?, hb, exL], by simp [World.cell?, hb, exL], by simp [World.cell?, hb, exL]⟩
  | 2, _ => exact ⟨by simp [World.cell?, hb, exL], by simp [World.cell?, hb, exL], by simp [World.cell?, hb, exL]⟩

set_option maxHeartbeats 1000000 in
set_option maxRecDepth 100000 in
theorem awake_yes (m : Int) (w : World) (hm : w.cell? ⟨1, 0, none⟩ = some (.int .i64 m)) :
    Calls Tryd.prog 9 #[] w fun e w' => e = .returned (.bool true) ∧ Below w.heap.size w w' := by
  have hw := lexWords_any ⟨#[97, 32, 32, 98, 35, 99, 10, 100]⟩ (by decide) m w hm
  rw [exL_words] at hw
  have hw' := Lib.hid hw
  clear hw
  go_enter Tryd.func9, Tryd.ntmps9
  go_wp2_with (first
    | (go_at_call 11; refine hw'.out.mono ?_; rintro e w1 ⟨v, rfl, hrow, hb1⟩; obtain ⟨A1, c1, rfl, _, _, hr1⟩ := wrow_own hrow)
    | (go_at_call 12; refine (same_yes A1 _ c1 _ exL _ (by decide) ((hr1.below ((Below.refl _ _).alloc (Nat.le_refl _) _) (Nat.le_refl _)).more (by simp)) ((exL_row _ _).more (by simp))).mono ?_; rintro e w2 ⟨rfl, hb2⟩)
    | (go_at_call 18; refine (digits_small 12 (by decide) _).mono ?_; rintro e w3 ⟨rfl, rfl⟩))
  go_ret
  exact ⟨ret_bool (by kernel_rfl), hb1.trans ((((Below.refl _ w1).alloc (Nat.le_refl _) _).trans (hb2.mono (by simp))).mono hb1.size)⟩

set_option maxHeartbeats 1000000 in
theorem short_any (s : ByteArray) (n : Nat) (hn : n ≤ 1000000) (w : World) :
    Calls Tryd.prog 10 #[.string s, .int .i64 n] w fun e w' => (∃ t : ByteArray, e = .returned (.string t) ∧ t.size ≤ n) ∧ w = w' := by
  go_enter Tryd.func10, Tryd.ntmps10
  by_cases h : n < s.size
  · go_wp2
    go_ret
    exact ⟨⟨_, rfl, by simp; omega⟩, rfl⟩
  · go_wp2
    go_ret
    exact ⟨⟨_, rfl, by omega⟩, rfl⟩

end Go.Proofs.YtjmokodifkjfgaaDoor
