/- lex.Join. -/
import Derived.Test.YtjmokodifkjfgaaDoorLexM
import Derived.Test.YtjmokodifkjfgaaDoorLexQ
import Derived.WalkSmall
namespace Go.Proofs.YtjmokodifkjfgaaDoor
open Go.RowKit Go.Shelf Go.Lib

theorem nDig_le : ∀ (k u : Nat), u < 10 ^ (k + 1) → nDigits u ≤ k + 1 := by
  intro k
  induction k with
  | zero => intro u h; rw [nDigits, dif_pos (by simpa using h)]; exact Nat.le_refl 1
  | succ k ih =>
    intro u h
    by_cases h10 : u < 10
    · rw [nDigits, dif_pos h10]; omega
    · rw [nDigits, dif_neg h10]
      have := ih (u / 10) (by rw [Nat.pow_succ] at h; omega)
      omega

theorem itoa_len (n : Int) (h0 : -9223372036854775808 ≤ n) (h1 : n ≤ 9223372036854775807) : (itoa n).length ≤ 21 := by
  have key : ∀ u : Nat, u < 10 ^ 20 → (decDigits u).length ≤ 20 := fun u hu => by rw [decDigits_length]; exact nDig_le 19 u hu
  unfold itoa
  split
  · have := key n.natAbs (by omega)
    simp only [List.length_cons]
    omega
  · have := key n.toNat (by omega)
    omega

theorem tail_len (sep : List UInt8) : ∀ (L : List (List UInt8)), (∀ x ∈ L, x.length ≤ 21) → (Lib.joinTail sep L).length ≤ L.length * (21 + sep.length) := by
  intro L
  induction L with
  | nil => intro _; simp [Lib.joinTail]
  | cons x L ih =>
    intro h
    have h1 := ih (fun y hy => h y (List.mem_cons_of_mem _ hy))
    have h2 := h x List.mem_cons_self
    have e : Lib.joinTail sep (x :: L) = (sep ++ x) ++ Lib.joinTail sep L := by simp [Lib.joinTail]
    rw [e, List.length_append, List.length_append, List.length_cons, Nat.add_mul]
    omega

theorem join_len (sep : List UInt8) (L : List (List UInt8)) (h : ∀ x ∈ L, x.length ≤ 21) : (Lib.join L sep).length ≤ 21 + L.length * (21 + sep.length) := by
  cases L with
  | nil => simp [Lib.join_nil]
  | cons x r =>
    rw [Lib.join_cons, List.length_append]
    have h1 := tail_len sep r (fun y hy => h y (List.mem_cons_of_mem _ hy))
    have h2 := h x List.mem_cons_self
    rw [List.length_cons, Nat.add_mul]
    omega

theorem tab_below {B : Nat} {w w' : World} (h : Lib.TabIs Tryd.prog w "internal/strconv.uint64pow10" .u64 Lib.pow10Tab) (hb : Below B w w') (hB : 0 < B) : Lib.TabIs Tryd.prog w' "internal/strconv.uint64pow10" .u64 Lib.pow10Tab :=
  var?_below hb (by kernel_rfl) hB h

theorem infoS : (Tryd.prog.info? 9).map (fun i => (i.zero, i.size, i.bytes)) = some (some (.string ByteArray.empty), 1, 16) := by kernel_rfl

/-- The digits of numbers. -/
def digs (L : List Int) : List ByteArray := L.map fun n => ⟨(itoa n).toArray⟩

theorem digs_data (L : List Int) : (digs L).map (·.data.toList) = L.map itoa := by
  unfold digs
  rw [List.map_map]
  rfl

theorem full_block {w : World} {base B n c : Nat} {e : TypeId} {size : Nat} {xs : Array Value} (h : w.ownsRow base e size (.slice (some ⟨B, 0, none⟩) n c) n xs.toList) (hx : xs.size = c * size) : w.heap[B]? = some (.cells xs e (0, 0)) := by
  rcases h.2 with ⟨h1, _⟩ | ⟨g, cap, cur, h1, _, hg, _, _, hs, ht⟩
  · cases h1
  · cases h1
    have hl := h.1
    rw [hg]
    have : cur = xs := by
      apply Array.toList_inj.1
      rw [← ht, List.take_of_length_le]
      simp only [Array.length_toList] at hl ⊢
      omega
    rw [this]

theorem str_cell {w : World} {B n i : Nat} {D : List ByteArray} (h : w.heap[B]? = some (.cells (Lib.cellsOf D n) 9 (0, 0))) (hD : D.length = i) (hi : i < n) :
    w.cell? ⟨B, i, none⟩ = some (.string ByteArray.empty) ∧ w.frozen? ⟨B, i, none⟩ = false := by
  have h1 := Lib.cellsOf_next (done := D) (N := n) (by omega)
  rw [hD] at h1
  exact ⟨by simp [World.cell?, h, h1], by simp [World.frozen?, h]⟩

theorem str_set {w : World} {B n i : Nat} {D : List ByteArray} (h : w.heap[B]? = some (.cells (Lib.cellsOf D n) 9 (0, 0))) (hD : D.length = i) (hi : i < n) (x : ByteArray) :
    (w.setCell ⟨B, i, none⟩ (.string x)).heap[B]? = some (.cells (Lib.cellsOf (D ++ [x]) n) 9 (0, 0)) := by
  obtain ⟨hlt, hk⟩ := Array.getElem?_eq_some_iff.1 h
  have h2 := Lib.cellsOf_set (done := D) (N := n) (by omega) x
  rw [hD] at h2
  rw [← h2]
  show (w.heap.modify B _)[B]? = _
  rw [Array.getElem?_eq_getElem (by rw [Array.size_modify]; exact hlt), Array.getElem_modify_self, hk]
  rfl

theorem take_digs {L : List Int} {i : Nat} (h : i < L.length) : digs (L.take (i + 1)) = digs (L.take i) ++ [⟨(itoa L[i]).toArray⟩] := by
  unfold digs
  rw [List.take_succ_eq_append_getElem h, List.map_append]
  rfl

set_option maxHeartbeats 2000000 in
set_option maxRecDepth 100000 in
theorem join_any (A : Option Addr) (cap : Nat) (L : List Int) (w : World) (hL : ∀ x ∈ L, -9223372036854775808 ≤ x ∧ x ≤ 9223372036854775807) (hn : L.length ≤ 1000) (hr : NRow w w.heap.size A L)
    (htab : Lib.TabIs Tryd.prog w "internal/strconv.uint64pow10" .u64 Lib.pow10Tab) (hg : 0 < w.heap.size) :
    Calls Tryd.prog 20 #[.slice A L.length cap] w fun e w' => e = .returned (.string ⟨(Lib.join (L.map itoa) [44]).toArray⟩) ∧ Below w.heap.size w w' := by
  obtain ⟨i0, hi0, hz0, hz1, hz2⟩ := info_parts infoS
  obtain ⟨n, hn'⟩ : ∃ n, n = L.length := ⟨_, rfl⟩
  rw [← hn'] at hn ⊢
  have HN := Lib.hid hn'
  clear hn'
  go_enter Tryd.func20, Tryd.ntmps20
  go_wp2_with (at_make; refine wpList_make_full _ rfl _ _ 58 rfl w.heap.size 9 i0 _ 1 Tryd.underlying58 hi0 hz0 hz1 _ _ _ _ n rfl rfl rfl rfl (by rw [hz2]; omega) (by unfold maxLen; omega) (Nat.le_refl _) ?_; intro w1 hown1 hg1)
  have hb1 : Below w.heap.size w w1 := ⟨hg1.os, hg1.tape, hg1.output, hg1.size, fun k hk => hg1.block k hk (by simp)⟩
  obtain ⟨B, hB⟩ : ∃ B, w.heap.size = B := ⟨_, rfl⟩
  have hblk0 : w1.heap[B]? = some (.cells (Lib.cellsOf [] n) 9 (0, 0)) := by
    rw [Lib.cellsOf_nil, ← hB]
    have h9 : w1.ownsRow w.heap.size 9 1 (.slice (some ⟨w.heap.size, 0, none⟩) n n) n (madeCells #[.string ByteArray.empty] n).toList := by
      rw [Nat.mul_one] at hown1
      exact hown1
    exact full_block h9 (by simp [madeCells])
  rw [hB] at hb1 hr hg ⊢
  go_loopw [11] (fun v11 wr => ∃ i : Nat, v11 = .int .i64 i ∧ i ≤ n ∧ wr.heap[B]? = some (.cells (Lib.cellsOf (digs (L.take i)) n) 9 (0, 0)) ∧ Below B w wr) (fun v11 _ => n - (RowKit.intOf v11).toNat)
  case atStart => exact ⟨0, rfl, Nat.zero_le _, hblk0, hb1⟩
  case round =>
    obtain ⟨i, rfl, hi, hblk, hbw⟩ := hrel
    by_cases hin : i < n
    · have hil : i < L.length := by rw [← HN.out]; exact hin
      obtain ⟨b1, o1, rfl, hlt1, hc1⟩ := hr (by omega)
      have a0 := (hbw.cell (p := ⟨b1, _, none⟩) hlt1).trans (hc1 i hil)
      obtain ⟨x1, x2⟩ := hL L[i] (List.getElem_mem hil)
      have HT := Lib.hid (take_digs hil)
      have hlt := lt_of_block hblk
      generalize hxx : L[i] = x at *
      clear hc1 hxx
      have hlen : (digs (L.take i)).length = i := by unfold digs; rw [List.length_map, List.length_take]; omega
      have hd := Lib.hid (digits_any x wr x1 x2 (tab_below htab hbw hg))
      go_upto_region 6 with (go_at_call 18; refine hd.out.mono ?_; rintro e w2 ⟨rfl, hb2⟩; have hblk2 := (hb2.block B hlt).trans hblk; obtain ⟨hc2, hf2⟩ := str_cell hblk2 hlen hin)
      have hblk3 := str_set hblk2 hlen hin ⟨(itoa x).toArray⟩
      rw [← HT.out] at hblk3
      have hbw3 : Below B w (w2.setCell ⟨B, i, none⟩ (.string ⟨(itoa x).toArray⟩)) := (hbw.trans (hb2.mono (Nat.le_of_lt hlt))).setCell (p := ⟨B, i, none⟩) (Nat.le_refl _) _
      go_wp2
      go_roundw
      case rel => exact ⟨i + 1, by simp, hin, hblk3, hbw3⟩
      case measure => simp [RowKit.intOf]; omega
    · obtain rfl : i = n := by omega
      rw [HN.out, List.take_length] at hblk
      have hlen2 : (digs L).length = L.length := by unfold digs; rw [List.length_map]
      have hfull : Lib.cellsOf (digs L) L.length = ((digs L).map Value.string).toArray := by unfold Lib.cellsOf; rw [hlen2]; simp
      rw [hfull] at hblk
      have hcells : ∀ (j : Nat) x, (digs L)[j]? = some x → wr.cell? ⟨B, 0 + j, none⟩ = some (.string x) := fun j x hx => by simp [World.cell?, hblk, hx]
      have hj := Tryd.strings_Join B 0 L.length (digs L) ⟨#[44]⟩ wr hcells (lt_of_block hblk) (by rw [hlen2, ← HN.out]; omega) (by omega) (by
        rw [digs_data]
        have h1 := join_len [44] (L.map itoa) (fun y hy => by
          obtain ⟨z, hz, rfl⟩ := List.mem_map.1 hy
          exact itoa_len z (hL z hz).1 (hL z hz).2)
        rw [List.length_map, ← HN.out] at h1
        have h2 : (ByteArray.mk #[44]).data.toList = [44] := rfl
        rw [h2]
        simp at h1
        omega)
      rw [digs_data, hlen2, ← HN.out] at hj
      have hj' := Lib.hid hj
      have hltB := lt_of_block hblk
      clear hj hcells hblk hfull hlen2
      go_wp2_with (go_at_call 32; refine hj'.out.mono ?_; rintro e w9 ⟨rfl, hb9⟩)
      go_ret
      exact ⟨rfl, by rw [hB]; exact hbw.trans (hb9.mono (Nat.le_of_lt hltB))⟩

end Go.Proofs.YtjmokodifkjfgaaDoor
