/- A slice of int64 opened. -/
import Derived.Test.YtjmokodifkjfgaaDoorOpen
import Derived.Test.YtjmokodifkjfgaaDoorLexQ
namespace Go.Proofs.YtjmokodifkjfgaaDoor
open Go.ChangeShapes Go.WideShapes Go.ChangeAt Go.RowKit Go.Deep
section
variable {H : Type} {enc : TypeId × Value → H} {P : Program} {w : World} {base : Nat} {held : Bool}

theorem open_longs {t e : TypeId} {fuel : Nat} {cs : List Value} {x : DataW H × List MemPlace} (ht : P.underlying t = some (.slice e)) (he : P.underlying e = some (.int .i64)) (hce : P.cellsOf e = 1)
    (h : DataW.trod enc P w base (fun _ => true) held fuel t cs = some x) : ∃ A cap L, cs = [.slice A L.length cap] ∧ L.length ≤ maxLen ∧ NRow w w.heap.size A L ∧ L.length ≤ cap ∧ ∀ y ∈ L, -9223372036854775808 ≤ y ∧ y ≤ 9223372036854775807 := by
  rcases open_slice ht h with ⟨rfl, _⟩ | ⟨a, len, cap, m, n, D, Pl, rfl, _, hl, hm, hmm, _, hx⟩
  · exact ⟨none, 0, [], rfl, Nat.zero_le _, fun h => absurd h (by simp), Nat.le_refl _, fun y hy => by cases hy⟩
  · simp only [if_true] at hmm
    subst hmm
    rw [hce] at hx
    have h1 : ∀ k, k < m → ∃ g : Int, w.cell? (a.add k) = some (.int .i64 g) ∧ -9223372036854775808 ≤ g ∧ g ≤ 9223372036854775807 := by
      intro k hk
      obtain ⟨cs', hc, ht'⟩ := hx k hk
      obtain ⟨q, hq, _, hwf⟩ := DataW.trod_int he ht'
      obtain ⟨_, _, hat⟩ := World.cells?_some hc
      have := hat 0 (by decide)
      refine ⟨q, ?_, ?_⟩
      · rw [hq] at this
        simpa [Addr.add] using this
      · simp [Lit.wf, IntKind.min, IntKind.max, IntKind.signed, IntKind.bits] at hwf
        omega
    obtain ⟨f, hf⟩ := choose_lt (α := Int) (n := m) (p := fun k g => w.cell? (a.add k) = some (.int .i64 g) ∧ -9223372036854775808 ≤ g ∧ g ≤ 9223372036854775807) h1
    refine ⟨some a, m, (List.range len).map f, by simp, by simp; omega, fun hpos => ?_, by simpa using hl, fun y hy => ?_⟩
    rotate_left
    · obtain ⟨k, hk, rfl⟩ := List.mem_map.1 hy
      exact (hf k (by have := List.mem_range.1 hk; omega)).2
    have hpos' : 0 < len := by simpa using hpos
    have h00 := (hf 0 (by omega)).1
    have hsp := World.cell?_spot h00
    have hlt := World.block_lt_of_cell? w _ h00
    obtain ⟨b, off, spot⟩ := a
    have hs : spot = none := by simpa [Addr.add] using hsp
    subst hs
    have hadd : ∀ j, (⟨b, off, none⟩ : Addr).add j = ⟨b, off + j, none⟩ := fun j => by unfold Addr.add; split <;> simp_all
    refine ⟨b, off, rfl, by simpa [hadd] using hlt, fun k hk => ?_⟩
    have hk' : k < len := by simpa using hk
    have g0 := (hf k (by omega)).1
    rw [hadd] at g0
    simpa using g0

theorem open_nums {t e : TypeId} {fuel : Nat} {cs : List Value} {x : DataW H × List MemPlace} (ht : P.underlying t = some (.slice e)) (he : P.underlying e = some (.int .i64)) (hce : P.cellsOf e = 1)
    (h : DataW.trod enc P w base (fun _ => true) held fuel t cs = some x) : ∃ A cap L, cs = [.slice A L.length cap] ∧ L.length ≤ maxLen ∧ NRow w w.heap.size A L := by
  obtain ⟨A, cap, L, h1, h2, h3, _, _⟩ := open_longs ht he hce h
  exact ⟨A, cap, L, h1, h2, h3⟩
end
end Go.Proofs.YtjmokodifkjfgaaDoor
