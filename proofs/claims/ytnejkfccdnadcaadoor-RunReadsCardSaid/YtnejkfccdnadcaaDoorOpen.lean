/- Arguments opened: rows of three numbers, arrays of numbers by value. -/
import Derived.Test.YtnejkfccdnadcaaDoorRows
import Derived.WalkKit
import Derived.ProofKit
import Derived.OpenShut
import Derived.ShutString
import Derived.ChangeOld
import Derived.Below
import Derived.Deep.Slices
namespace Go.Proofs.YtnejkfccdnadcaaDoor
open Go.ChangeShapes Go.WideShapes Go.ChangeAt Go.RowKit Go.Deep

/-- Rows of three numbers in memory. -/
def TRow (w : World) (B : Nat) (A : Option Addr) (n : Nat) (f : Nat → Nat → Int) : Prop :=
  0 < n → ∃ b off, A = some ⟨b, off, none⟩ ∧ b < B ∧ ∀ i, i < n →
    w.cell? ⟨b, off + i * 3, none⟩ = some (.int .i64 (f i 0)) ∧ w.cell? ⟨b, off + i * 3 + 1, none⟩ = some (.int .i64 (f i 1)) ∧ w.cell? ⟨b, off + i * 3 + 2, none⟩ = some (.int .i64 (f i 2))

theorem TRow.below {w w' : World} {B C : Nat} {A : Option Addr} {n : Nat} {f : Nat → Nat → Int} (h : TRow w B A n f) (hb : Below C w w') (hBC : B ≤ C) : TRow w' B A n f := by
  intro hl
  obtain ⟨b, off, e, hlt, hc⟩ := h hl
  refine ⟨b, off, e, hlt, fun i hi => ?_⟩
  obtain ⟨h0, h1, h2⟩ := hc i hi
  exact ⟨(hb.cell (p := ⟨b, _, none⟩) (by show b < C; omega)).trans h0, (hb.cell (p := ⟨b, _, none⟩) (by show b < C; omega)).trans h1, (hb.cell (p := ⟨b, _, none⟩) (by show b < C; omega)).trans h2⟩

theorem TRow.more {w : World} {B C : Nat} {A : Option Addr} {n : Nat} {f : Nat → Nat → Int} (h : TRow w B A n f) (hBC : B ≤ C) : TRow w C A n f := by
  intro hl
  obtain ⟨b, off, e, hlt, hc⟩ := h hl
  exact ⟨b, off, e, by omega, hc⟩

theorem okWide_array {P : Program} {w : World} {r : Reach} {base : Nat} {t : TypeId} {v : Value} {n : Nat} {e : TypeId} (ht : P.underlying t = some (.array n e)) (h : Value.okWide P w r base t v) : ∃ cs, v = .agg cs ∧ cs.size = P.cellsOf t := by
  simp only [Value.okWide, ht] at h
  obtain ⟨cs, h1, h2, _⟩ := h
  exact ⟨cs, h1, h2⟩

section
variable {H : Type} {enc : TypeId × Value → H} {P : Program} {w : World} {base : Nat} {spare : Nat → Bool} {held : Bool}

/-- An array of n numbers, each one cell. -/
theorem trod_nums {t e : TypeId} {n fuel : Nat} {cs : List Value} {x : DataW H × List MemPlace} (ht : P.underlying t = some (.array n e)) (he : P.underlying e = some (.int .i64)) (hce : P.cellsOf e = 1) (hct : P.cellsOf t = n)
    (h : DataW.trod enc P w base spare held fuel t cs = some x) : ∃ f : Nat → Int, cs.length = n ∧ ∀ i, i < n → cs[i]? = some (.int .i64 (f i)) ∧ (Lit.int .i64 (f i)).wf = true := by
  obtain ⟨xs, m, _, _, hlen, hxs, hi⟩ := DataW.trod_array ht h
  obtain ⟨f, hf⟩ := choose_lt (α := Int) (n := n) (p := fun i q => cs[i]? = some (.int .i64 q) ∧ (Lit.int .i64 q).wf = true) (fun i hin => by
    have h1 := hi i hin
    rw [hce, Nat.mul_one, List.getElem?_eq_getElem (by omega)] at h1
    obtain ⟨q, hq, _, hw⟩ := DataW.trod_int he h1
    refine ⟨q, ?_, hw⟩
    have hl : i < cs.length := by omega
    rw [List.drop_eq_getElem_cons hl, List.take_succ_cons, List.take_zero] at hq
    injection hq with hq
    rw [List.getElem?_eq_getElem hl, hq])
  exact ⟨f, by omega, hf⟩

theorem arr_of2 {cs : Array Value} {f : Nat → Int} (hl : cs.toList.length = 2) (h : ∀ i, i < 2 → cs.toList[i]? = some (.int .i64 (f i)) ∧ (Lit.int .i64 (f i)).wf = true) :
    cs = #[.int .i64 (f 0), .int .i64 (f 1)] ∧ (Lit.int .i64 (f 0)).wf = true ∧ (Lit.int .i64 (f 1)).wf = true := by
  obtain ⟨l⟩ := cs
  match l, hl with
  | [a, b], _ =>
    have h0 := h 0 (by decide); have h1 := h 1 (by decide)
    simp at h0 h1
    exact ⟨by rw [h0.1, h1.1], h0.2, h1.2⟩

theorem arr_of3 {cs : Array Value} {f : Nat → Int} (hl : cs.toList.length = 3) (h : ∀ i, i < 3 → cs.toList[i]? = some (.int .i64 (f i)) ∧ (Lit.int .i64 (f i)).wf = true) :
    cs = #[.int .i64 (f 0), .int .i64 (f 1), .int .i64 (f 2)] ∧ (Lit.int .i64 (f 0)).wf = true ∧ (Lit.int .i64 (f 1)).wf = true ∧ (Lit.int .i64 (f 2)).wf = true := by
  obtain ⟨l⟩ := cs
  match l, hl with
  | [a, b, c], _ =>
    have h0 := h 0 (by decide); have h1 := h 1 (by decide); have h2 := h 2 (by decide)
    simp at h0 h1 h2
    exact ⟨by rw [h0.1, h1.1, h2.1], h0.2, h1.2, h2.2⟩

theorem open_rows3 {t e i : TypeId} {fuel : Nat} {cs : List Value} {x : DataW H × List MemPlace} (ht : P.underlying t = some (.slice e)) (he : P.underlying e = some (.array 3 i)) (hi : P.underlying i = some (.int .i64)) (hce : P.cellsOf e = 3) (hci : P.cellsOf i = 1)
    (h : DataW.trod enc P w base (fun _ => true) held fuel t cs = some x) : ∃ A len cap f, cs = [.slice A len cap] ∧ len ≤ cap ∧ cap ≤ maxLen ∧ TRow w w.heap.size A len f := by
  rcases open_slice ht h with ⟨rfl, _⟩ | ⟨a, len, cap, m, n, D, Pl, rfl, _, hl, hm, hmm, _, hx⟩
  · exact ⟨none, 0, 0, fun _ _ => 0, rfl, Nat.le_refl _, by unfold maxLen; omega, fun h => absurd h (by omega)⟩
  · simp only [if_true] at hmm
    subst hmm
    rw [hce] at hx
    have h3 : ∀ k, k < m → ∃ g : Nat → Int, ∀ j, j < 3 → w.cell? (a.add (k * 3 + j)) = some (.int .i64 (g j)) := by
      intro k hk
      obtain ⟨cs', hc, ht'⟩ := hx k hk
      obtain ⟨g, hlen, hg⟩ := trod_nums he hi hci hce ht'
      obtain ⟨_, _, hat⟩ := World.cells?_some hc
      refine ⟨g, fun j hj => ?_⟩
      have := hat j hj
      rw [(hg j hj).1] at this
      rw [← this]
      congr 1
      unfold Addr.add
      by_cases h1 : k * 3 = 0 <;> by_cases h2 : j = 0 <;> simp [h1, h2, Nat.add_assoc]
    obtain ⟨f, hf⟩ := choose_lt (α := Nat → Int) (n := m) (p := fun k g => ∀ j, j < 3 → w.cell? (a.add (k * 3 + j)) = some (.int .i64 (g j))) h3
    refine ⟨some a, len, m, f, rfl, hl, hm, fun hpos => ?_⟩
    have h00 := hf 0 (by omega) 0 (by decide)
    have hsp := World.cell?_spot h00
    have hlt := World.block_lt_of_cell? w _ h00
    obtain ⟨b, off, spot⟩ := a
    have hs : spot = none := by simpa [Addr.add] using hsp
    subst hs
    have hadd : ∀ j, (⟨b, off, none⟩ : Addr).add j = ⟨b, off + j, none⟩ := fun j => by unfold Addr.add; split <;> simp_all
    refine ⟨b, off, rfl, by simpa [hadd] using hlt, fun k hk => ?_⟩
    have g0 := hf k (by omega) 0 (by decide)
    have g1 := hf k (by omega) 1 (by decide)
    have g2 := hf k (by omega) 2 (by decide)
    rw [hadd] at g0 g1 g2
    exact ⟨g0, by rw [Nat.add_assoc]; exact g1, by rw [Nat.add_assoc]; exact g2⟩
end

end Go.Proofs.YtnejkfccdnadcaaDoor
