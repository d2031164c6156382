/- Requests: rows of them; script. -/
import Derived.Test.YtnejkfccdnadcaaDoorRunA
import Derived.Test.YtnejkfccdnadcaaDoorLexVa
import Derived.Test.YtnejkfccdnadcaaDoorLexZ
namespace Go.Proofs.YtnejkfccdnadcaaDoor
open Go.RowKit Go.Shelf Go.Lib

/-- A request. -/
structure Ak where
  a : Int
  t : Int
  d : Int

def Ak.cells (x : Ak) : List Value := [.int .i64 x.a, .int .i64 x.t, .int .i64 x.d]

/-- A slice of requests in memory, below block B. -/
def ARow (w : World) (B : Nat) (A : Option Addr) (L : List Ak) : Prop :=
  0 < L.length → ∃ b off, A = some ⟨b, off, none⟩ ∧ b < B ∧ ∀ i (h : i < L.length),
    w.cell? ⟨b, off + i * 3, none⟩ = some (.int .i64 L[i].a) ∧ w.cell? ⟨b, off + i * 3 + 1, none⟩ = some (.int .i64 L[i].t) ∧ w.cell? ⟨b, off + i * 3 + 2, none⟩ = some (.int .i64 L[i].d)

theorem ARow.below {w w' : World} {B C : Nat} {A : Option Addr} {L : List Ak} (h : ARow w B A L) (hb : Below C w w') (hBC : B ≤ C) : ARow w' B A L := by
  intro hl
  obtain ⟨b, off, e, hlt, hc⟩ := h hl
  refine ⟨b, off, e, hlt, fun i hi => ?_⟩
  obtain ⟨h0, h1, h2⟩ := hc i hi
  exact ⟨(hb.cell (p := ⟨b, _, none⟩) (by show b < C; omega)).trans h0, (hb.cell (p := ⟨b, _, none⟩) (by show b < C; omega)).trans h1, (hb.cell (p := ⟨b, _, none⟩) (by show b < C; omega)).trans h2⟩

theorem ARow.more {w : World} {B C : Nat} {A : Option Addr} {L : List Ak} (h : ARow w B A L) (hBC : B ≤ C) : ARow w C A L := by
  intro hl
  obtain ⟨b, off, e, hlt, hc⟩ := h hl
  exact ⟨b, off, e, by omega, hc⟩

theorem ARow.take {w : World} {B : Nat} {A : Option Addr} {L : List Ak} (h : ARow w B A L) (k : Nat) : ARow w B A (L.take k) := by
  intro hl
  rw [List.length_take] at hl
  obtain ⟨b, off, e, hlt, hc⟩ := h (by omega)
  refine ⟨b, off, e, hlt, fun i hi => ?_⟩
  rw [List.length_take] at hi
  obtain ⟨h0, h1, h2⟩ := hc i (by omega)
  rw [List.getElem_take]
  exact ⟨h0, h1, h2⟩

theorem acells_at (L : List Ak) : ∀ i (h : i < L.length), (L.flatMap Ak.cells)[i * 3]? = some (.int .i64 L[i].a) ∧ (L.flatMap Ak.cells)[i * 3 + 1]? = some (.int .i64 L[i].t) ∧ (L.flatMap Ak.cells)[i * 3 + 2]? = some (.int .i64 L[i].d) := by
  induction L with
  | nil => intro i h; simp at h
  | cons x r ih =>
    intro i h
    cases i with
    | zero => simp [Ak.cells]
    | succ j =>
      obtain ⟨a, b, c⟩ := ih j (by simpa using h)
      have e : ∀ m, (Ak.cells x ++ List.flatMap Ak.cells r)[m + 3]? = (List.flatMap Ak.cells r)[m]? := fun m => by simp [Ak.cells]
      simp only [List.flatMap_cons, List.getElem_cons_succ]
      refine ⟨?_, ?_, ?_⟩
      · rw [show (j + 1) * 3 = j * 3 + 3 by omega, e]; exact a
      · rw [show (j + 1) * 3 + 1 = (j * 3 + 1) + 3 by omega, e]; exact b
      · rw [show (j + 1) * 3 + 2 = (j * 3 + 2) + 3 by omega, e]; exact c

theorem arow_own {w : World} {base : Nat} {e : TypeId} {v : Value} {L : List Ak} (h : w.ownsRow base e 3 v L.length (L.flatMap Ak.cells)) :
    ∃ A cap, v = .slice A L.length cap ∧ L.length ≤ cap ∧ (A = none → cap = 0) ∧ ARow w w.heap.size A L := by
  rcases h.2 with ⟨rfl, h0⟩ | ⟨g, cap, cur, rfl, _, hg, hnc, _⟩
  · exact ⟨_, _, by rw [h0], by omega, fun _ => rfl, fun h => by omega⟩
  · refine ⟨_, cap, rfl, hnc, (fun h => by cases h), fun _ => ⟨g, 0, rfl, lt_of_block hg, fun i hi => ?_⟩⟩
    obtain ⟨a, b, c⟩ := acells_at L i hi
    have hc := h.cells (g := g) rfl
    have ha : ∀ j, (⟨g, 0, none⟩ : Addr).add j = ⟨g, 0 + j, none⟩ := fun j => by unfold Addr.add; split <;> simp_all
    exact ⟨by have := hc _ _ a; rwa [ha] at this, by have := hc _ _ b; rwa [ha] at this, by have := hc _ _ c; rwa [ha] at this⟩

theorem infoA : (Tryd.prog.info? 46).map (fun i => (i.zero, i.size, i.bytes)) = some (some (.agg #[.int .i64 0, .int .i64 0, .int .i64 0]), 3, 24) := by kernel_rfl

/-- Requests, one behind the other in time. -/
def sortedV (last : Int) : List Ak → Bool
  | [] => true
  | x :: r => decide (last ≤ x.a) && sortedV x.a r

set_option maxHeartbeats 1000000 in
set_option maxRecDepth 100000 in
theorem same_asks (A1 A2 : Option Addr) (c1 c2 : Nat) (L : List Ak) (w : World) (hn : L.length ≤ 1000000) (h1 : ARow w w.heap.size A1 L) (h2 : ARow w w.heap.size A2 L) :
    Calls Tryd.prog 10 #[.slice A1 L.length c1, .slice A2 L.length c2] w fun e w' => e = .returned (.bool true) ∧ Below w.heap.size w w' := by
  obtain ⟨n, hn'⟩ : ∃ n, n = L.length := ⟨_, rfl⟩
  rw [← hn'] at hn ⊢
  have HN := Lib.hid hn'
  clear hn'
  go_enter Tryd.func10, Tryd.ntmps10
  go_wp2
  go_loopw [5] (fun v5 wr => ∃ i m : Nat, v5 = .int .i64 i ∧ i ≤ n ∧ wr = w.drewN m) (fun v5 _ => n - (RowKit.intOf v5).toNat)
  case atStart => exact ⟨0, 0, rfl, Nat.zero_le _, rfl⟩
  case round =>
    obtain ⟨i, m, rfl, hi, rfl⟩ := hrel
    by_cases hin : i < n
    · have hil : i < L.length := by rw [← HN.out]; exact hin
      obtain ⟨b1, o1, rfl, _, hc1⟩ := h1 (by omega)
      obtain ⟨b2, o2, rfl, _, hc2⟩ := h2 (by omega)
      obtain ⟨a0, a1, a2⟩ := hc1 i hil
      obtain ⟨d0, d1, d2⟩ := hc2 i hil
      clear hc1 hc2 h1 h2
      generalize L[i].a = xp at *
      generalize L[i].t = xq at *
      generalize L[i].d = xt at *
      go_wp2
      go_quiet (fail)
      go_wp2
      go_roundw
      case rel => exact ⟨i + 1, m + nq, by simp, hin, rfl⟩
      case measure => simp [RowKit.intOf]; omega
    · obtain rfl : i = n := by omega
      go_wp2
      go_ret
      exact ⟨rfl, below_drewN (Below.refl _ _) _⟩

theorem sorted_step {L : List Ak} {i : Nat} {last : Int} (h : i < L.length) : sortedV last (L.drop i) = (decide (last ≤ L[i].a) && sortedV L[i].a (L.drop (i + 1))) := by
  rw [List.drop_eq_getElem_cons h]
  rfl

set_option maxHeartbeats 1000000 in
set_option maxRecDepth 100000 in
theorem script_any (A : Option Addr) (cap : Nat) (L : List Ak) (w : World) (hn : L.length ≤ 1000000) (hr : ARow w w.heap.size A L) :
    Calls Tryd.prog 17 #[.slice A L.length cap] w fun e w' => e = .returned (.bool (sortedV 0 L)) ∧ Below w.heap.size w w' := by
  obtain ⟨n, hn'⟩ : ∃ n, n = L.length := ⟨_, rfl⟩
  rw [← hn'] at hn ⊢
  have HN := Lib.hid hn'
  clear hn'
  obtain ⟨R, hR⟩ : ∃ R, R = sortedV 0 L := ⟨_, rfl⟩
  rw [← hR]
  have HR : Hid (R = sortedV 0 (L.drop 0)) := Lib.hid hR
  clear hR
  go_enter Tryd.func17, Tryd.ntmps17
  go_wp2
  go_loopw [3, 8] (fun v3 v8 wr => ∃ (i : Nat) (last : Int), v3 = .int .i64 last ∧ v8 = .int .i64 i ∧ i ≤ n ∧ Hid (R = sortedV last (L.drop i)) ∧ Below w.heap.size w wr) (fun _ v8 _ => n - (RowKit.intOf v8).toNat)
  case atStart => exact ⟨0, 0, rfl, rfl, Nat.zero_le _, HR, Below.refl _ _⟩
  case round =>
    obtain ⟨i, last, rfl, rfl, hi, hS, hbr⟩ := hrel
    by_cases hin : i < n
    · have hil : i < L.length := by rw [← HN.out]; exact hin
      obtain ⟨b1, o1, rfl, hlt1, hc1⟩ := hr (by omega)
      obtain ⟨x0, x1, x2⟩ := hc1 i hil
      have a0 := (hbr.cell (p := ⟨b1, _, none⟩) hlt1).trans x0
      have a1 := (hbr.cell (p := ⟨b1, _, none⟩) hlt1).trans x1
      have a2 := (hbr.cell (p := ⟨b1, _, none⟩) hlt1).trans x2
      have HST := Lib.hid (hS.out.trans (sorted_step hil))
      clear x0 x1 x2 hc1
      generalize L[i].a = xa at *
      generalize L[i].t = xt at *
      generalize L[i].d = xd at *
      by_cases hlt : xa < last
      · have HB : Hid (R = false) := Lib.hid (by rw [HST.out, decide_eq_false (by omega)]; rfl)
        go_wp2
        go_ret
        exact ⟨by rw [HB.out]; rfl, hbr.alloc hbr.size _⟩
      · have HB : Hid (R = sortedV xa (L.drop (i + 1))) := Lib.hid (by rw [HST.out, decide_eq_true (by omega)]; rfl)
        go_wp2
        go_roundw
        case rel => exact ⟨i + 1, xa, rfl, by simp, hin, HB, hbr.alloc hbr.size _⟩
        case measure => simp [RowKit.intOf] <;> omega
    · obtain rfl : i = n := by omega
      have HB : Hid (R = true) := Lib.hid (by rw [hS.out, HN.out, List.drop_eq_nil_of_le (Nat.le_refl _)]; rfl)
      go_wp2
      go_ret
      exact ⟨by rw [HB.out]; rfl, hbr⟩

end Go.Proofs.YtnejkfccdnadcaaDoor
