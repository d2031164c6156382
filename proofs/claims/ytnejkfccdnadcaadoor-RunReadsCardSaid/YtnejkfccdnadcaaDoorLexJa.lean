/- Digits' lengths; a row of strings under way. -/
import Derived.Test.YtnejkfccdnadcaaDoorLexM
import Derived.Test.YtnejkfccdnadcaaDoorLexQa
import Derived.WalkSmall
namespace Go.Proofs.YtnejkfccdnadcaaDoor
open Go.RowKit Go.Shelf Go.Lib

theorem nDig_le : ∀ (k u : Nat), u < 10 ^ (k + 1) → nDigits u ≤ k + 1 := by
  intro k
  induction k with
  | zero => intro u h; rw [nDigits, dif_pos (by simpa using h)]; exact Nat.le_refl 1
  | succ k ih =>
    intro u h
    by_cases h10 : u < 10
    · rw [nDigits, dif_pos h10]; omega
    · rw [nDigits, dif_neg h10]
      have := ih (u / 10) (by rw [Nat.pow_succ] at h; omega)
      omega

theorem itoa_len (n : Int) (h0 : -9223372036854775808 ≤ n) (h1 : n ≤ 9223372036854775807) : (itoa n).length ≤ 21 := by
  have key : ∀ u : Nat, u < 10 ^ 20 → (decDigits u).length ≤ 20 := fun u hu => by rw [decDigits_length]; exact nDig_le 19 u hu
  unfold itoa
  split
  · have := key n.natAbs (by omega)
    simp only [List.length_cons]
    omega
  · have := key n.toNat (by omega)
    omega

theorem tail_len (sep : List UInt8) : ∀ (L : List (List UInt8)), (∀ x ∈ L, x.length ≤ 21) → (Lib.joinTail sep L).length ≤ L.length * (21 + sep.length) := by
  intro L
  induction L with
  | nil => intro _; simp [Lib.joinTail]
  | cons x L ih =>
    intro h
    have h1 := ih (fun y hy => h y (List.mem_cons_of_mem _ hy))
    have h2 := h x List.mem_cons_self
    have e : Lib.joinTail sep (x :: L) = (sep ++ x) ++ Lib.joinTail sep L := by simp [Lib.joinTail]
    rw [e, List.length_append, List.length_append, List.length_cons, Nat.add_mul]
    omega

theorem join_len (sep : List UInt8) (L : List (List UInt8)) (h : ∀ x ∈ L, x.length ≤ 21) : (Lib.join L sep).length ≤ 21 + L.length * (21 + sep.length) := by
  cases L with
  | nil => simp [Lib.join_nil]
  | cons x r =>
    rw [Lib.join_cons, List.length_append]
    have h1 := tail_len sep r (fun y hy => h y (List.mem_cons_of_mem _ hy))
    have h2 := h x List.mem_cons_self
    rw [List.length_cons, Nat.add_mul]
    omega

theorem tab_below {B : Nat} {w w' : World} (h : Lib.TabIs Tryd.prog w "internal/strconv.uint64pow10" .u64 Lib.pow10Tab) (hb : Below B w w') (hB : 0 < B) : Lib.TabIs Tryd.prog w' "internal/strconv.uint64pow10" .u64 Lib.pow10Tab :=
  var?_below hb (by kernel_rfl) hB h

theorem infoS : (Tryd.prog.info? 9).map (fun i => (i.zero, i.size, i.bytes)) = some (some (.string ByteArray.empty), 1, 16) := by kernel_rfl

/-- The digits of numbers. -/
def digs (L : List Int) : List ByteArray := L.map fun n => ⟨(itoa n).toArray⟩

theorem digs_data (L : List Int) : (digs L).map (·.data.toList) = L.map itoa := by
  unfold digs
  rw [List.map_map]
  rfl

theorem full_block {w : World} {base B n c : Nat} {e : TypeId} {size : Nat} {xs : Array Value} (h : w.ownsRow base e size (.slice (some ⟨B, 0, none⟩) n c) n xs.toList) (hx : xs.size = c * size) : w.heap[B]? = some (.cells xs e (0, 0)) := by
  rcases h.2 with ⟨h1, _⟩ | ⟨g, cap, cur, h1, _, hg, _, _, hs, ht⟩
  · cases h1
  · cases h1
    have hl := h.1
    rw [hg]
    have : cur = xs := by
      apply Array.toList_inj.1
      rw [← ht, List.take_of_length_le]
      simp only [Array.length_toList] at hl ⊢
      omega
    rw [this]

theorem str_cell {w : World} {B n i : Nat} {D : List ByteArray} (h : w.heap[B]? = some (.cells (Lib.cellsOf D n) 9 (0, 0))) (hD : D.length = i) (hi : i < n) :
    w.cell? ⟨B, i, none⟩ = some (.string ByteArray.empty) ∧ w.frozen? ⟨B, i, none⟩ = false := by
  have h1 := Lib.cellsOf_next (done := D) (N := n) (by omega)
  rw [hD] at h1
  exact ⟨by simp [World.cell?, h, h1], by simp [World.frozen?, h]⟩

theorem str_set {w : World} {B n i : Nat} {D : List ByteArray} (h : w.heap[B]? = some (.cells (Lib.cellsOf D n) 9 (0, 0))) (hD : D.length = i) (hi : i < n) (x : ByteArray) :
    (w.setCell ⟨B, i, none⟩ (.string x)).heap[B]? = some (.cells (Lib.cellsOf (D ++ [x]) n) 9 (0, 0)) := by
  obtain ⟨hlt, hk⟩ := Array.getElem?_eq_some_iff.1 h
  have h2 := Lib.cellsOf_set (done := D) (N := n) (by omega) x
  rw [hD] at h2
  rw [← h2]
  show (w.heap.modify B _)[B]? = _
  rw [Array.getElem?_eq_getElem (by rw [Array.size_modify]; exact hlt), Array.getElem_modify_self, hk]
  rfl

theorem take_digs {L : List Int} {i : Nat} (h : i < L.length) : digs (L.take (i + 1)) = digs (L.take i) ++ [⟨(itoa L[i]).toArray⟩] := by
  unfold digs
  rw [List.take_succ_eq_append_getElem h, List.map_append]
  rfl

end Go.Proofs.YtnejkfccdnadcaaDoor
