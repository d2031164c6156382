/- Rows of rows: a new line, a new word, and what else stays. -/
import Derived.Test.YtnejkfccdnadcaaDoorLexK
import Derived.Test.YtnejkfccdnadcaaDoorLexB
namespace Go.Proofs.YtnejkfccdnadcaaDoor
open Go.RowKit Go.Shelf Go.Lib

theorem keepsT_r (q : TypeId) (W : World) : KeepsT q W W := fun _ _ _ h => h
theorem keepsT_t {q : TypeId} {A B C : World} (h : KeepsT q A B) (k : KeepsT q B C) : KeepsT q A C := fun i cs fr e => k i cs fr (h i cs fr e)

theorem keepsT_set {q t : TypeId} {W : World} {B : Nat} {v : Value} (hb : Boxed W B t v) (hqt : q ≠ t) (u : Value) : KeepsT q W (W.setCell ⟨B, 0, none⟩ u) := by
  intro k cs fr h
  refine (Below.heap_setCell W _ _ k fun e => ?_).trans h
  subst e
  have h2 : W.heap[k]? = some (.cells #[v] t (0, 0)) := hb
  rw [h] at h2
  cases h2
  exact hqt rfl

theorem keepsT_grown {q e : TypeId} {W w1 : World} {base size n : Nat} {v : Value} {xs : List Value} (hr : W.ownsRow base e size v n xs) (hqe : q ≠ e) (hg : W.grownBy w1 v.ownBlock) : KeepsT q W w1 := by
  intro k cs fr h
  refine (hg.block k (lt_of_block h) fun e1 => ?_).trans h
  rcases hr.2 with ⟨rfl, _⟩ | ⟨g, cap, cur, rfl, _, hgb, _⟩
  · cases e1
  · have : k = g := by simpa [Value.ownBlock] using e1
    subst this
    rw [h] at hgb
    cases hgb
    exact hqe rfl

theorem boxed_other {W w1 : World} {B : Nat} {t e : TypeId} {u : Value} {base size n : Nat} {v : Value} {xs : List Value} (hb : Boxed W B t u) (hr : W.ownsRow base e size v n xs) (hte : t ≠ e) (hg : W.grownBy w1 v.ownBlock) : Boxed w1 B t u :=
  hb.kept hg (hb.not_row hte hr)

theorem others_grown {e : TypeId} {W w1 : World} {base size n : Nat} {v : Value} {xs : List Value} (hr : W.ownsRow base e size v n xs) (hg : W.grownBy w1 v.ownBlock) : KeepsOthers W w1 := by
  refine KeepsOthers.of_grownBy hg fun j o ej hj => ?_
  rcases hr.2 with ⟨rfl, _⟩ | ⟨g, cap, cur, rfl, _, hgb, _⟩
  · simp [Value.ownBlock] at ej
  · obtain rfl : g = j := by simpa [Value.ownBlock] using ej
    rw [hgb] at hj; cases hj; rfl

section
variable {n0 : Nat} {t3 t4 eo ei q : TypeId} {vo u4 vo' : Value} {W w1 : World} {Bx : Nat} {cs : Array Value} {tmp : Obj} {n k : Nat} {xs ys : List Value}

/-- A new line in the boxed row of all: what holds behind the store. -/
theorem new_line (b3 : Boxed W n0 t3 vo) (b4 : Boxed W (n0 + 1) t4 u4) (bX : W.heap[Bx]? = some (.cells cs ei (0, 0))) (hr : W.ownsRow n0 eo 1 vo n xs) (hn : n0 ≤ W.heap.size) (hg : (W.alloc tmp).grownBy w1 vo.ownBlock)
    (h1 : t3 ≠ eo) (h2 : t4 ≠ eo) (h3 : ei ≠ eo) (h4 : t3 ≠ ei) (h5 : q ≠ eo) (h6 : q ≠ t3) :
    Boxed w1 n0 t3 vo ∧ Boxed (w1.setCell ⟨n0, 0, none⟩ vo') n0 t3 vo' ∧ Boxed (w1.setCell ⟨n0, 0, none⟩ vo') (n0 + 1) t4 u4 ∧ (w1.setCell ⟨n0, 0, none⟩ vo').heap[Bx]? = some (.cells cs ei (0, 0)) ∧
      KeepsOthers W (w1.setCell ⟨n0, 0, none⟩ vo') ∧ KeepsT q W (w1.setCell ⟨n0, 0, none⟩ vo') ∧ Below n0 W (w1.setCell ⟨n0, 0, none⟩ vo') := by
  have hra := hr.alloc tmp
  have a3 := boxed_other (b3.alloc tmp) hra h1 hg
  have a4 := boxed_other (b4.alloc tmp) hra h2 hg
  have aX : w1.heap[Bx]? = some (.cells cs ei (0, 0)) := by
    have hx : (W.alloc tmp).heap[Bx]? = some (.cells cs ei (0, 0)) := (Below.heap_alloc W tmp Bx (lt_of_block bX)).trans bX
    refine (hg.block Bx (lt_of_block hx) fun e => ?_).trans hx
    rcases hra.2 with ⟨rfl, _⟩ | ⟨g, cap, cur, rfl, _, hgb, _⟩
    · cases e
    · have : Bx = g := by simpa [Value.ownBlock] using e
      subst this
      rw [hx] at hgb
      cases hgb
      exact h3 rfl
  refine ⟨a3, a3.set vo', a4.kept (grownBy_setCell' w1 n0 vo') (by simp), ?_, ?_, ?_, ?_⟩
  · refine (Below.heap_setCell w1 _ _ Bx fun e => ?_).trans aX
    subst e
    have h2 : w1.heap[Bx]? = some (.cells #[vo] t3 (0, 0)) := a3
    rw [aX] at h2
    cases h2
    exact h4 rfl
  · exact ((KeepsOthers.alloc W tmp).trans (others_grown hra hg)).trans (KeepsOthers.setCell _ _ _)
  · exact keepsT_t (keepsT_t (fun k _ _ h => (Below.heap_alloc W tmp k (lt_of_block h)).trans h) (keepsT_grown hra h5 hg)) (keepsT_set a3 h6 vo')
  · exact (((Below.refl n0 W).alloc hn tmp).grown hg (by simp; omega) (fun j e => (hra.lt j e).1)).setCell (p := ⟨n0, 0, none⟩) (Nat.le_refl _) vo'

/-- The last line's number is stored. -/
theorem new_last {G : List (List Wd)} {g : List Wd} {V : List Value} {v : Value} {hs : Nat} (b3 : Boxed W n0 t3 vo) (b4 : Boxed W (n0 + 1) t4 u4) (bX : W.heap[Bx]? = some (.cells cs ei (0, 0))) (h4 : t4 ≠ ei) (h5 : t4 ≠ eo) (h6 : q ≠ t4) (u : Value)
    (hms : MS n0 eo ei G g V v hs vo W) :
    Boxed (W.setCell ⟨n0 + 1, 0, none⟩ u) n0 t3 vo ∧ Boxed (W.setCell ⟨n0 + 1, 0, none⟩ u) (n0 + 1) t4 u ∧ (W.setCell ⟨n0 + 1, 0, none⟩ u).heap[Bx]? = some (.cells cs ei (0, 0)) ∧ MS n0 eo ei G g V v hs vo (W.setCell ⟨n0 + 1, 0, none⟩ u) ∧
      KeepsOthers W (W.setCell ⟨n0 + 1, 0, none⟩ u) ∧ KeepsT q W (W.setCell ⟨n0 + 1, 0, none⟩ u) ∧ Below n0 W (W.setCell ⟨n0 + 1, 0, none⟩ u) := by
  refine ⟨b3.kept (grownBy_setCell' W (n0 + 1) u) (by simp), b4.set u, ?_, hms.set b4 h5 h4 u, KeepsOthers.setCell _ _ _, keepsT_set b4 h6 u, (Below.refl n0 W).setCell (p := ⟨n0 + 1, 0, none⟩) (Nat.le_succ _) u⟩
  refine (Below.heap_setCell W _ _ Bx fun e => ?_).trans bX
  subst e
  have h2 : W.heap[n0 + 1]? = some (.cells #[u4] t4 (0, 0)) := b4
  rw [bX] at h2
  cases h2
  exact h4 rfl

/-- A new word in the last line: what holds behind the store. -/
theorem new_word {G : List (List Wd)} {g : List Wd} {x : Wd} {V : List Value} {v v' : Value} {hs bo cap : Nat} (b3 : Boxed W n0 t3 vo) (b4 : Boxed W (n0 + 1) t4 u4) (hms : MS n0 eo ei G g V v hs (.slice (some ⟨bo, 0, none⟩) (V.length + 1) cap) W) (hn : n0 ≤ W.heap.size)
    (hg : (W.alloc tmp).grownBy w1 v.ownBlock) (ho : w1.ownsRow hs ei 3 v' (g.length + 1) (g.flatMap Wd.cells ++ Wd.cells x))
    (h1 : t3 ≠ eo) (h2 : t4 ≠ eo) (h3 : eo ≠ ei) (h4 : t3 ≠ ei) (h5 : t4 ≠ ei) (h6 : q ≠ eo) (h7 : q ≠ ei) :
    MS n0 eo ei G (g ++ [x]) V v' hs (.slice (some ⟨bo, 0, none⟩) (V.length + 1) cap) (w1.setCell ⟨bo, V.length, none⟩ v') ∧ Boxed (w1.setCell ⟨bo, V.length, none⟩ v') n0 t3 vo ∧ Boxed (w1.setCell ⟨bo, V.length, none⟩ v') (n0 + 1) t4 u4 ∧
      KeepsOthers W (w1.setCell ⟨bo, V.length, none⟩ v') ∧ KeepsT q W (w1.setCell ⟨bo, V.length, none⟩ v') ∧ Below n0 W (w1.setCell ⟨bo, V.length, none⟩ v') := by
  have hra := hms.cur.alloc tmp
  have a3 := boxed_other (b3.alloc tmp) hra h4 hg
  have a4 := boxed_other (b4.alloc tmp) hra h5 hg
  obtain ⟨hrow, _, _⟩ := hms.mid h3 hg
  obtain ⟨hst, hgs⟩ := hrow.stored V.length v'
  have hob : (Value.slice (some ⟨bo, 0, none⟩) (V.length + 1) cap).ownBlock = some bo := rfl
  rw [← hob] at hgs
  have hlow := hms.low
  refine ⟨hms.add h3 hg ho, boxed_other a3 hrow h1 hgs, boxed_other a4 hrow h2 hgs, ?_, ?_, ?_⟩
  · exact ((KeepsOthers.alloc W tmp).trans (others_grown hra hg)).trans (KeepsOthers.setCell _ _ _)
  · exact keepsT_t (keepsT_t (fun k _ _ h => (Below.heap_alloc W tmp k (lt_of_block h)).trans h) (keepsT_grown hra h7 hg)) (keepsT_grown hrow h6 hgs)
  · exact (((Below.refl n0 W).alloc hn tmp).grown hg (by simp; omega) (fun j e => by have := (hra.lt j e).1; omega)).setCell (p := ⟨bo, V.length, none⟩) ((hrow.lt bo hob).1) v'
end

end Go.Proofs.YtnejkfccdnadcaaDoor
