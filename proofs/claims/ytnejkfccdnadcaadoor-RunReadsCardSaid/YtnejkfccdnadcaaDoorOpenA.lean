/- Arguments opened: a slice of requests, a report. -/
import Derived.Test.YtnejkfccdnadcaaDoorOpen
import Derived.Test.YtnejkfccdnadcaaDoorRunB
import Derived.Deep.Strs
namespace Go.Proofs.YtnejkfccdnadcaaDoor
open Go.ChangeShapes Go.WideShapes Go.ChangeAt Go.RowKit Go.Deep
instance : Inhabited Ak := ⟨⟨0, 0, 0⟩⟩

section
variable {H : Type} {enc : TypeId × Value → H} {P : Program} {w : World} {base : Nat} {spare : Nat → Bool} {held : Bool}

theorem at_take {l : List Value} {i : Nat} {v : Value} (h : (l.drop i).take 1 = [v]) : l[i]? = some v := by
  have h1 : ((l.drop i).take 1)[0]? = some v := by rw [h]; rfl
  rw [List.getElem?_take] at h1
  simpa using h1

theorem fld_int {cs : List Value} {i n : Nat} {ty : TypeId} {y : DataW H × List MemPlace} (hu : P.underlying ty = some (.int .i64)) (hc : P.cellsOf ty = 1) (h : DataW.trod enc P w base spare held n ty ((cs.drop i).take (P.cellsOf ty)) = some y) :
    ∃ q : Int, cs[i]? = some (.int .i64 q) ∧ -9223372036854775808 ≤ q ∧ q ≤ 9223372036854775807 := by
  rw [hc] at h
  obtain ⟨q, hq, _, hwf⟩ := DataW.trod_int hu h
  refine ⟨q, at_take hq, ?_⟩
  simp [Lit.wf, IntKind.min, IntKind.max, IntKind.signed, IntKind.bits] at hwf
  omega

theorem fld_bool {cs : List Value} {i n : Nat} {ty : TypeId} {y : DataW H × List MemPlace} (hu : P.underlying ty = some .bool) (hc : P.cellsOf ty = 1) (h : DataW.trod enc P w base spare held n ty ((cs.drop i).take (P.cellsOf ty)) = some y) :
    ∃ q : Bool, cs[i]? = some (.bool q) := by
  rw [hc] at h
  obtain ⟨q, hq, _⟩ := DataW.trod_bool hu h
  exact ⟨q, at_take hq⟩

theorem open_asks {t e : TypeId} {f0 f1 f2 : Field} {fuel : Nat} {cs : List Value} {x : DataW H × List MemPlace} (ht : P.underlying t = some (.slice e)) (he : P.underlying e = some (.struct #[f0, f1, f2])) (hce : P.cellsOf e = 3)
    (h0 : f0.offset = 0 ∧ P.underlying f0.type = some (.int .i64) ∧ P.cellsOf f0.type = 1) (h1 : f1.offset = 1 ∧ P.underlying f1.type = some (.int .i64) ∧ P.cellsOf f1.type = 1) (h2 : f2.offset = 2 ∧ P.underlying f2.type = some (.int .i64) ∧ P.cellsOf f2.type = 1)
    (h : DataW.trod enc P w base (fun _ => true) held fuel t cs = some x) : ∃ A cap L, cs = [.slice A L.length cap] ∧ L.length ≤ maxLen ∧ ARow w w.heap.size A L ∧ L.length ≤ cap ∧
      ∀ x ∈ L, (-9223372036854775808 ≤ x.a ∧ x.a ≤ 9223372036854775807) ∧ (-9223372036854775808 ≤ x.t ∧ x.t ≤ 9223372036854775807) ∧ (-9223372036854775808 ≤ x.d ∧ x.d ≤ 9223372036854775807) := by
  rcases open_slice ht h with ⟨rfl, _⟩ | ⟨a, len, cap, m, n, D, Pl, rfl, _, hl, hm, hmm, _, hx⟩
  · exact ⟨none, 0, [], rfl, Nat.zero_le _, fun h => absurd h (by simp), Nat.le_refl _, fun y hy => by cases hy⟩
  · simp only [if_true] at hmm
    subst hmm
    rw [hce] at hx
    have hk : ∀ k, k < m → ∃ g : Ak, (w.cell? (a.add (k * 3)) = some (.int .i64 g.a) ∧ w.cell? (a.add (k * 3 + 1)) = some (.int .i64 g.t) ∧ w.cell? (a.add (k * 3 + 2)) = some (.int .i64 g.d)) ∧
        (-9223372036854775808 ≤ g.a ∧ g.a ≤ 9223372036854775807) ∧ (-9223372036854775808 ≤ g.t ∧ g.t ≤ 9223372036854775807) ∧ (-9223372036854775808 ≤ g.d ∧ g.d ≤ 9223372036854775807) := by
      intro k hk
      obtain ⟨cs', hc, ht'⟩ := hx k hk
      obtain ⟨y0, y1, y2, n', _, _, t0, t1, t2⟩ := trod_struct3 he ht'
      rw [h0.1] at t0
      rw [h1.1] at t1
      rw [h2.1] at t2
      obtain ⟨q0, e0, b0⟩ := fld_int h0.2.1 h0.2.2 t0
      obtain ⟨q1, e1, b1⟩ := fld_int h1.2.1 h1.2.2 t1
      obtain ⟨q2, e2, b2⟩ := fld_int h2.2.1 h2.2.2 t2
      obtain ⟨_, _, hat⟩ := World.cells?_some hc
      have hadd : ∀ j, (a.add (k * 3)).add j = a.add (k * 3 + j) := fun j => by
        unfold Addr.add
        by_cases h1 : k * 3 = 0 <;> by_cases h2 : j = 0 <;> simp [h1, h2, Nat.add_assoc]
      have g0 := hat 0 (by decide)
      have g1 := hat 1 (by decide)
      have g2 := hat 2 (by decide)
      rw [hadd] at g0 g1 g2
      exact ⟨⟨q0, q1, q2⟩, ⟨g0.trans e0, g1.trans e1, g2.trans e2⟩, b0, b1, b2⟩
    obtain ⟨f, hf⟩ := choose_lt (α := Ak) (n := m) (p := fun k g => (w.cell? (a.add (k * 3)) = some (.int .i64 g.a) ∧ w.cell? (a.add (k * 3 + 1)) = some (.int .i64 g.t) ∧ w.cell? (a.add (k * 3 + 2)) = some (.int .i64 g.d)) ∧
        (-9223372036854775808 ≤ g.a ∧ g.a ≤ 9223372036854775807) ∧ (-9223372036854775808 ≤ g.t ∧ g.t ≤ 9223372036854775807) ∧ (-9223372036854775808 ≤ g.d ∧ g.d ≤ 9223372036854775807)) hk
    refine ⟨some a, m, (List.range len).map f, by simp, by simp; omega, fun hpos => ?_, by simpa using hl, fun y hy => ?_⟩
    rotate_left
    · obtain ⟨k, hk, rfl⟩ := List.mem_map.1 hy
      exact (hf k (by have := List.mem_range.1 hk; omega)).2
    have hpos' : 0 < len := by simpa using hpos
    have h00 := (hf 0 (by omega)).1.1
    have hsp := World.cell?_spot h00
    have hlt := World.block_lt_of_cell? w _ h00
    obtain ⟨b, off, spot⟩ := a
    have hs : spot = none := by simpa [Addr.add] using hsp
    subst hs
    have hadd : ∀ j, (⟨b, off, none⟩ : Addr).add j = ⟨b, off + j, none⟩ := fun j => by unfold Addr.add; split <;> simp_all
    refine ⟨b, off, rfl, by simpa [hadd] using hlt, fun k hk => ?_⟩
    have hk' : k < len := by simpa using hk
    obtain ⟨g0, g1, g2⟩ := (hf k (by omega)).1
    rw [hadd] at g0 g1 g2
    have e : ((List.range len).map f)[k] = f k := by simp
    rw [e]
    exact ⟨g0, by rw [Nat.add_assoc]; exact g1, by rw [Nat.add_assoc]; exact g2⟩

set_option maxRecDepth 100000 in
theorem open_report {fuel : Nat} {cs : List Value} {x : DataW H × List MemPlace} (h : DataW.trod enc Tryd.prog w base spare held fuel 39 cs = some x) :
    ∃ (x0 x1 x2 x3 x4 x5 x6 : Int) (br : Bool), cs = [.int .i64 x0, .int .i64 x1, .int .i64 x2, .int .i64 x3, .int .i64 x4, .int .i64 x5, .int .i64 x6, .bool br] ∧ ((-9223372036854775808 ≤ x0 ∧ x0 ≤ 9223372036854775807) ∧ (-9223372036854775808 ≤ x1 ∧ x1 ≤ 9223372036854775807) ∧ (-9223372036854775808 ≤ x2 ∧ x2 ≤ 9223372036854775807) ∧ (-9223372036854775808 ≤ x3 ∧ x3 ≤ 9223372036854775807) ∧ (-9223372036854775808 ≤ x4 ∧ x4 ≤ 9223372036854775807) ∧ (-9223372036854775808 ≤ x5 ∧ x5 ≤ 9223372036854775807) ∧ (-9223372036854775808 ≤ x6 ∧ x6 ≤ 9223372036854775807)) := by
  obtain ⟨xs, n, _, _, hl, hlen, hf⟩ := DataW.trod_struct Tryd.underlying39 h
  have hl8 : cs.length = 8 := hl.trans (by kernel_rfl)
  have hx8 : xs.length = 8 := hlen
  have c2 : Tryd.prog.cellsOf 2 = 1 := by kernel_rfl
  have c3 : Tryd.prog.cellsOf 3 = 1 := by kernel_rfl
  have c4 : Tryd.prog.cellsOf 4 = 1 := by kernel_rfl
  obtain ⟨q0, e0, b0⟩ := fld_int Tryd.underlying3 c3 ((hf 0 _ rfl).trans (List.getElem?_eq_getElem (by omega)))
  obtain ⟨q1, e1, b1⟩ := fld_int Tryd.underlying3 c3 ((hf 1 _ rfl).trans (List.getElem?_eq_getElem (by omega)))
  obtain ⟨q2, e2, b2⟩ := fld_int Tryd.underlying3 c3 ((hf 2 _ rfl).trans (List.getElem?_eq_getElem (by omega)))
  obtain ⟨q3, e3, b3⟩ := fld_int Tryd.underlying3 c3 ((hf 3 _ rfl).trans (List.getElem?_eq_getElem (by omega)))
  obtain ⟨q4, e4, b4⟩ := fld_int Tryd.underlying2 c2 ((hf 4 _ rfl).trans (List.getElem?_eq_getElem (by omega)))
  obtain ⟨q5, e5, b5⟩ := fld_int Tryd.underlying2 c2 ((hf 5 _ rfl).trans (List.getElem?_eq_getElem (by omega)))
  obtain ⟨q6, e6, b6⟩ := fld_int Tryd.underlying2 c2 ((hf 6 _ rfl).trans (List.getElem?_eq_getElem (by omega)))
  obtain ⟨q7, e7⟩ := fld_bool Tryd.underlying4 c4 ((hf 7 _ rfl).trans (List.getElem?_eq_getElem (by omega)))
  refine ⟨q0, q1, q2, q3, q4, q5, q6, q7, ?_, b0, b1, b2, b3, b4, b5, b6⟩
  match cs, hl8 with
  | [a, b, c, d, e, f, g, i], _ =>
    simp at e0 e1 e2 e3 e4 e5 e6 e7
    rw [e0, e1, e2, e3, e4, e5, e6, e7]
end
end Go.Proofs.YtnejkfccdnadcaaDoor
