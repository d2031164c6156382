/- Rows of rows of words: what the lines hold while they grow. -/
import Derived.Test.YtnejkfccdnadcaaDoorLexDa
import Derived.Deep.AppendLies
import Derived.Laws.OwnMore
namespace Go.Proofs.YtnejkfccdnadcaaDoor
open Go.RowKit Go.Shelf Go.Lib

theorem own_notcell {W W' : World} {base : Nat} {e : TypeId} {size n : Nat} {v : Value} {xs : List Value} {row : Option Nat} (h : W.ownsRow base e size v n xs) (hg : W.grownBy W' row)
    (hr : ∀ r, row = some r → ∃ o : Obj, W.heap[r]? = some o ∧ o.isCells = false) : W'.ownsRow base e size v n xs := by
  refine h.kept hg ?_
  rcases h.2 with ⟨rfl, _⟩ | ⟨g, cap, cur, rfl, _, hgb, _⟩
  · exact .inl rfl
  · refine .inr fun e' => ?_
    obtain ⟨o, ho, hc⟩ := hr g (by simpa [Value.ownBlock] using e'.symm)
    rw [hgb] at ho; cases ho; cases hc

/-- What one row owns stays while another one, of another type, grows. -/
theorem own_other {W W' : World} {base base' : Nat} {e e' : TypeId} {size size' n n' : Nat} {v v' : Value} {xs xs' : List Value} (h : W.ownsRow base e size v n xs) (h' : W.ownsRow base' e' size' v' n' xs') (hee : e ≠ e')
    (hg : W.grownBy W' v'.ownBlock) : W'.ownsRow base e size v n xs := by
  refine h.kept hg ?_
  rcases h.2 with ⟨rfl, _⟩ | ⟨g, cap, cur, rfl, _, hgb, _⟩
  · exact .inl rfl
  · refine .inr fun e1 => ?_
    rcases h'.2 with ⟨rfl, _⟩ | ⟨g', cap', cur', rfl, _, hgb', _⟩
    · cases e1
    · have : g = g' := by simpa [Value.ownBlock] using e1
      subst this
      rw [hgb] at hgb'
      cases hgb'
      exact hee rfl

/-- Rows G are done, with the values V; row g, with the value v, grows; vo is the row of all. -/
structure MS (n0 : Nat) (eo ei : TypeId) (G : List (List Wd)) (g : List Wd) (V : List Value) (v : Value) (hs : Nat) (vo : Value) (W : World) : Prop where
  out : W.ownsRow n0 eo 1 vo (V.length + 1) (V ++ [v])
  len : V.length = G.length
  low : n0 ≤ hs
  high : hs ≤ W.heap.size
  done : ∀ (j : Nat) x y, V[j]? = some x → G[j]? = some y → W.ownsRow n0 ei 3 x y.length (y.flatMap Wd.cells) ∧ ∀ b, x.ownBlock = some b → b < hs
  cur : W.ownsRow hs ei 3 v g.length (g.flatMap Wd.cells)

section
variable {n0 : Nat} {eo ei : TypeId} {G : List (List Wd)} {g : List Wd} {V : List Value} {v : Value} {hs : Nat} {vo : Value} {W W' : World}

theorem MS.kept {row : Option Nat} (h : MS n0 eo ei G g V v hs vo W) (hg : W.grownBy W' row) (hr : ∀ r, row = some r → ∃ o : Obj, W.heap[r]? = some o ∧ o.isCells = false) : MS n0 eo ei G g V v hs vo W' where
  out := own_notcell h.out hg hr
  len := h.len
  low := h.low
  high := Nat.le_trans h.high hg.size
  done := fun j x y hx hy => ⟨own_notcell (h.done j x y hx hy).1 hg hr, (h.done j x y hx hy).2⟩
  cur := own_notcell h.cur hg hr

theorem MS.alloc (h : MS n0 eo ei G g V v hs vo W) (o : Obj) : MS n0 eo ei G g V v hs vo (W.alloc o) :=
  h.kept (World.grownBy_alloc W o none) (fun r e => by cases e)

theorem MS.drew (h : MS n0 eo ei G g V v hs vo W) : MS n0 eo ei G g V v hs vo W.drew where
  out := h.out
  len := h.len
  low := h.low
  high := h.high
  done := h.done
  cur := h.cur

/-- A store elsewhere. -/
theorem MS.set (h : MS n0 eo ei G g V v hs vo W) {B : Nat} {t : TypeId} {u : Value} (hb : Boxed W B t u) (hto : t ≠ eo) (hti : t ≠ ei) (u' : Value) : MS n0 eo ei G g V v hs vo (W.setCell ⟨B, 0, none⟩ u') where
  out := h.out.kept (grownBy_setCell' W B u') (.inr (hb.not_row hto h.out).symm)
  len := h.len
  low := h.low
  high := Nat.le_trans h.high (grownBy_setCell' W B u').size
  done := fun j x y hx hy => ⟨(h.done j x y hx hy).1.kept (grownBy_setCell' W B u') (.inr (hb.not_row hti (h.done j x y hx hy).1).symm), (h.done j x y hx hy).2⟩
  cur := h.cur.kept (grownBy_setCell' W B u') (.inr (hb.not_row hti h.cur).symm)

/-- The first line begins. -/
theorem ms_first {w1 : World} {vo' : Value} (ho : w1.ownsRow n0 eo 1 vo' (0 + 1) ([] ++ [.slice none 0 0])) (hn : n0 ≤ w1.heap.size) : MS n0 eo ei [] [] [] (.slice none 0 0) w1.heap.size vo' w1 where
  out := by simpa using ho
  len := rfl
  low := hn
  high := Nat.le_refl _
  done := fun j x y hx => by simp at hx
  cur := World.ownsRow_nil _ _ _ _

/-- A line more begins. -/
theorem MS.next {w1 : World} {vo' : Value} (h : MS n0 eo ei G g V v hs vo W) (hee : eo ≠ ei) {tmp : Obj} (hg : (W.alloc tmp).grownBy w1 vo.ownBlock)
    (ho : w1.ownsRow n0 eo 1 vo' (V.length + 1 + 1) (V ++ [v] ++ [.slice none 0 0])) : MS n0 eo ei (G ++ [g]) [] (V ++ [v]) (.slice none 0 0) w1.heap.size vo' w1 where
  out := by simpa using ho
  len := by simp [h.len]
  low := by
    have h1 := h.low
    have h2 := h.high
    have h3 := hg.size
    simp at h3
    omega
  high := Nat.le_refl _
  done := fun j x y hx hy => by
    have hsz : W.heap.size ≤ w1.heap.size := by have h3 := hg.size; simp at h3; omega
    rcases Nat.lt_or_ge j V.length with hj | hj
    · rw [List.getElem?_append_left hj] at hx
      rw [List.getElem?_append_left (by rw [← h.len]; exact hj)] at hy
      obtain ⟨h1, h2⟩ := h.done j x y hx hy
      refine ⟨own_other (h1.alloc tmp) (h.out.alloc tmp) hee.symm hg, fun b hb => ?_⟩
      have := h2 b hb
      have := h.high
      omega
    · rw [List.getElem?_append_right hj] at hx
      rw [List.getElem?_append_right (by rw [← h.len]; exact hj)] at hy
      have hj0 : j - V.length = 0 := by
        obtain ⟨h1, _⟩ := List.getElem?_eq_some_iff.1 hx
        simp at h1
        omega
      rw [hj0] at hx
      rw [← h.len, hj0] at hy
      simp at hx hy
      subst hx
      subst hy
      refine ⟨ownsRow_base (own_other (h.cur.alloc tmp) (h.out.alloc tmp) hee.symm hg) h.low, fun b hb => ?_⟩
      have := (h.cur.lt b hb).2
      omega
  cur := World.ownsRow_nil _ _ _ _

/-- Where the growing line's value lies. -/
theorem MS.at (h : MS n0 eo ei G g V v hs vo W) : ∃ bo cap, vo = .slice (some ⟨bo, 0, none⟩) (V.length + 1) cap ∧ n0 ≤ bo ∧ bo < W.heap.size ∧ W.cell? ⟨bo, V.length, none⟩ = some v ∧ W.frozen? ⟨bo, V.length, none⟩ = false := by
  obtain ⟨bo, cap, rfl, hb, hlt⟩ := h.out.form (by omega)
  refine ⟨bo, cap, rfl, hb, hlt, ?_, h.out.frozenAt _⟩
  rw [h.out.cellAt V.length (by omega)]
  simp

/-- The growing line's value. -/
theorem MS.val (h : MS n0 eo ei G g V v hs vo W) : ∃ A c, v = .slice A g.length c := by
  rcases h.cur.2 with ⟨rfl, h0⟩ | ⟨g', cap, cur, rfl, _⟩
  · exact ⟨_, _, by rw [h0]⟩
  · exact ⟨_, _, rfl⟩

/-- A word more: behind the append. -/
theorem MS.mid {w1 : World} {bo cap : Nat} (h : MS n0 eo ei G g V v hs (.slice (some ⟨bo, 0, none⟩) (V.length + 1) cap) W) (hee : eo ≠ ei) {tmp : Obj} (hg : (W.alloc tmp).grownBy w1 v.ownBlock) :
    w1.ownsRow n0 eo 1 (.slice (some ⟨bo, 0, none⟩) (V.length + 1) cap) (V.length + 1) (V ++ [v]) ∧ w1.cell? ⟨bo, V.length, none⟩ = some v ∧ w1.frozen? ⟨bo, V.length, none⟩ = false := by
  have h1 := own_other (h.out.alloc tmp) (h.cur.alloc tmp) hee hg
  refine ⟨h1, ?_, h1.frozenAt _⟩
  rw [h1.cellAt V.length (by omega)]
  simp

/-- A word more: behind the store. -/
theorem MS.add {w1 : World} {v' : Value} {x : Wd} {bo cap : Nat} (h : MS n0 eo ei G g V v hs (.slice (some ⟨bo, 0, none⟩) (V.length + 1) cap) W) (hee : eo ≠ ei) {tmp : Obj} (hg : (W.alloc tmp).grownBy w1 v.ownBlock)
    (ho : w1.ownsRow hs ei 3 v' (g.length + 1) (g.flatMap Wd.cells ++ Wd.cells x)) : MS n0 eo ei G (g ++ [x]) V v' hs (.slice (some ⟨bo, 0, none⟩) (V.length + 1) cap) (w1.setCell ⟨bo, V.length, none⟩ v') := by
  have h1 := own_other (h.out.alloc tmp) (h.cur.alloc tmp) hee hg
  obtain ⟨h2, h3⟩ := h1.stored V.length v'
  have hlow := h.low
  have hhigh := h.high
  have hsz : W.heap.size ≤ w1.heap.size := by have h3 := hg.size; simp at h3; omega
  have hob : (Value.slice (some ⟨bo, 0, none⟩) (V.length + 1) cap).ownBlock = some bo := rfl
  refine ⟨?_, h.len, h.low, by have := h3.size; omega, fun j y z hy hz => ?_, ?_⟩
  · simpa using h2
  · obtain ⟨h4, h5⟩ := h.done j y z hy hz
    refine ⟨?_, h5⟩
    have h6 : w1.ownsRow n0 ei 3 y z.length (z.flatMap Wd.cells) := by
      refine (h4.alloc tmp).kept hg ?_
      cases hyb : y.ownBlock with
      | none => exact .inl rfl
      | some b =>
        refine .inr fun e => ?_
        have := h5 b hyb
        have := (h.cur.lt b e.symm).1
        omega
    exact own_other h6 h1 hee.symm (by rw [hob]; exact h3)
  · have h7 : w1.ownsRow hs ei 3 v' (g ++ [x]).length ((g ++ [x]).flatMap Wd.cells) := by simpa [List.flatMap_append] using ho
    exact own_other h7 h1 hee.symm (by rw [hob]; exact h3)

end

/-- Words by lines: one more word. -/
def lnStep (acc : List (List Wd)) (x : Wd) : List (List Wd) :=
  match acc.getLast? with
  | none => [[x]]
  | some g => if g.getLast?.map Wd.q = some x.q then acc.dropLast ++ [g ++ [x]] else acc ++ [[x]]

/-- Words by lines. -/
def lns (l : List Wd) : List (List Wd) := l.foldl lnStep []

theorem lns_snoc (l : List Wd) (x : Wd) : lns (l ++ [x]) = lnStep (lns l) x := by
  unfold lns
  rw [List.foldl_append]
  rfl

theorem lns_one (x : Wd) : lns [x] = [[x]] := rfl

theorem lns_same {l : List Wd} {G : List (List Wd)} {g : List Wd} {x y : Wd} (h : lns l = G ++ [g ++ [y]]) (hq : y.q = x.q) : lns (l ++ [x]) = G ++ [(g ++ [y]) ++ [x]] := by
  rw [lns_snoc, h]
  unfold lnStep
  simp [hq]

theorem lns_new {l : List Wd} {G : List (List Wd)} {g : List Wd} {x y : Wd} (h : lns l = G ++ [g ++ [y]]) (hq : y.q ≠ x.q) : lns (l ++ [x]) = (G ++ [g ++ [y]]) ++ [[x]] := by
  rw [lns_snoc, h]
  unfold lnStep
  simp [hq]

/-- The lines of the words pre, in the value vo; y is the last word. -/
def LS (n0 : Nat) (eo ei : TypeId) (pre : List Wd) (vo : Value) (W : World) : Prop :=
  (pre = [] ∧ vo = .slice none 0 0) ∨ ∃ G g y V v hs, lns pre = G ++ [g ++ [y]] ∧ pre.getLast? = some y ∧ G.length + 1 ≤ pre.length ∧ g.length + 1 ≤ pre.length ∧ MS n0 eo ei G (g ++ [y]) V v hs vo W

theorem LS.kept {n0 : Nat} {eo ei : TypeId} {pre : List Wd} {vo : Value} {W W' : World} {row : Option Nat} (h : LS n0 eo ei pre vo W) (hg : W.grownBy W' row) (hr : ∀ r, row = some r → ∃ o : Obj, W.heap[r]? = some o ∧ o.isCells = false) : LS n0 eo ei pre vo W' := by
  rcases h with h | ⟨G, g, y, V, v, hs, h1, h2, h3, h4, h5⟩
  · exact .inl h
  · exact .inr ⟨G, g, y, V, v, hs, h1, h2, h3, h4, h5.kept hg hr⟩

end Go.Proofs.YtnejkfccdnadcaaDoor
