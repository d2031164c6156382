/- run.words, within, right. -/
import Derived.Test.YtnejkfccdnadcaaDoorLexCv
namespace Go.Proofs.YtnejkfccdnadcaaDoor
open Go.RowKit Go.Shelf Go.Lib

set_option maxHeartbeats 2000000 in
set_option maxRecDepth 100000 in
theorem words_any (A : Option Addr) (cap : Nat) (L : List Int) (w : World) (hL : ∀ x ∈ L, -9223372036854775808 ≤ x ∧ x ≤ 9223372036854775807) (hn : L.length ≤ 1000) (hr : NRow w w.heap.size A L)
    (htab : Lib.TabIs Tryd.prog w "internal/strconv.uint64pow10" .u64 Lib.pow10Tab) (hg : 0 < w.heap.size) :
    Calls Tryd.prog 20 #[.slice A L.length cap] w fun e w' => e = .returned (.string ⟨(Lib.join (L.map itoa) [32]).toArray⟩) ∧ Below w.heap.size w w' := by
  obtain ⟨i0, hi0, hz0, hz1, hz2⟩ := info_parts infoS
  obtain ⟨n, hn'⟩ : ∃ n, n = L.length := ⟨_, rfl⟩
  rw [← hn'] at hn ⊢
  have HN := Lib.hid hn'
  clear hn'
  go_enter Tryd.func20, Tryd.ntmps20
  go_wp2_with (at_make; refine wpList_make_full _ rfl _ _ 89 rfl w.heap.size 9 i0 _ 1 Tryd.underlying89 hi0 hz0 hz1 _ _ _ _ n rfl rfl rfl rfl (by rw [hz2]; omega) (by unfold maxLen; omega) (Nat.le_refl _) ?_; intro w1 hown1 hg1)
  have hb1 : Below w.heap.size w w1 := ⟨hg1.os, hg1.tape, hg1.output, hg1.size, fun k hk => hg1.block k hk (by simp)⟩
  obtain ⟨B, hB⟩ : ∃ B, w.heap.size = B := ⟨_, rfl⟩
  have hblk0 : w1.heap[B]? = some (.cells (Lib.cellsOf [] n) 9 (0, 0)) := by
    rw [Lib.cellsOf_nil, ← hB]
    have h9 : w1.ownsRow w.heap.size 9 1 (.slice (some ⟨w.heap.size, 0, none⟩) n n) n (madeCells #[.string ByteArray.empty] n).toList := by
      rw [Nat.mul_one] at hown1
      exact hown1
    exact full_block h9 (by simp [madeCells])
  rw [hB] at hb1 hr hg ⊢
  go_loopw [11] (fun v11 wr => ∃ i : Nat, v11 = .int .i64 i ∧ i ≤ n ∧ wr.heap[B]? = some (.cells (Lib.cellsOf (digs (L.take i)) n) 9 (0, 0)) ∧ Below B w wr) (fun v11 _ => n - (RowKit.intOf v11).toNat)
  case atStart => exact ⟨0, rfl, Nat.zero_le _, hblk0, hb1⟩
  case round =>
    obtain ⟨i, rfl, hi, hblk, hbw⟩ := hrel
    by_cases hin : i < n
    · have hil : i < L.length := by rw [← HN.out]; exact hin
      obtain ⟨b1, o1, rfl, hlt1, hc1⟩ := hr (by omega)
      have a0 := (hbw.cell (p := ⟨b1, _, none⟩) hlt1).trans (hc1 i hil)
      obtain ⟨x1, x2⟩ := hL L[i] (List.getElem_mem hil)
      have HT := Lib.hid (take_digs hil)
      have hlt := lt_of_block hblk
      generalize hxx : L[i] = x at *
      clear hc1 hxx
      have hlen : (digs (L.take i)).length = i := by unfold digs; rw [List.length_map, List.length_take]; omega
      have hd := Lib.hid (digits_any x wr x1 x2 (tab_below htab hbw hg))
      go_upto_region 6 with (go_at_call 32; refine hd.out.mono ?_; rintro e w2 ⟨rfl, hb2⟩; have hblk2 := (hb2.block B hlt).trans hblk; obtain ⟨hc2, hf2⟩ := str_cell hblk2 hlen hin)
      have hblk3 := str_set hblk2 hlen hin ⟨(itoa x).toArray⟩
      rw [← HT.out] at hblk3
      have hbw3 : Below B w (w2.setCell ⟨B, i, none⟩ (.string ⟨(itoa x).toArray⟩)) := (hbw.trans (hb2.mono (Nat.le_of_lt hlt))).setCell (p := ⟨B, i, none⟩) (Nat.le_refl _) _
      go_wp2
      go_roundw
      case rel => exact ⟨i + 1, by simp, hin, hblk3, hbw3⟩
      case measure => simp [RowKit.intOf]; omega
    · obtain rfl : i = n := by omega
      rw [HN.out, List.take_length] at hblk
      have hlen2 : (digs L).length = L.length := by unfold digs; rw [List.length_map]
      have hfull : Lib.cellsOf (digs L) L.length = ((digs L).map Value.string).toArray := by unfold Lib.cellsOf; rw [hlen2]; simp
      rw [hfull] at hblk
      have hcells : ∀ (j : Nat) x, (digs L)[j]? = some x → wr.cell? ⟨B, 0 + j, none⟩ = some (.string x) := fun j x hx => by simp [World.cell?, hblk, hx]
      have hj := Tryd.strings_Join B 0 L.length (digs L) ⟨#[32]⟩ wr hcells (lt_of_block hblk) (by rw [hlen2, ← HN.out]; omega) (by omega) (by
        rw [digs_data]
        have h1 := join_len [32] (L.map itoa) (fun y hy => by
          obtain ⟨z, hz, rfl⟩ := List.mem_map.1 hy
          exact itoa_len z (hL z hz).1 (hL z hz).2)
        rw [List.length_map, ← HN.out] at h1
        have h2 : (ByteArray.mk #[32]).data.toList = [32] := rfl
        rw [h2]
        simp at h1
        omega)
      rw [digs_data, hlen2, ← HN.out] at hj
      have hj' := Lib.hid hj
      have hltB := lt_of_block hblk
      clear hj hcells hblk hfull hlen2
      go_wp2_with (go_at_call 33; refine hj'.out.mono ?_; rintro e w9 ⟨rfl, hb9⟩)
      go_ret
      exact ⟨rfl, by rw [hB]; exact hbw.trans (hb9.mono (Nat.le_of_lt hltB))⟩

set_option maxHeartbeats 1000000 in
theorem within_any (n a b : Int) (w : World) :
    Calls Tryd.prog 30 #[.int .i64 n, .int .i64 a, .int .i64 b] w fun e w' => e = .returned (.bool (decide (a ≤ n ∧ n ≤ b))) ∧ w = w' := by
  go_enter Tryd.func30, Tryd.ntmps30
  by_cases h1 : a ≤ n
  · go_wp2
    go_ret
    exact ⟨by simp [h1], rfl⟩
  · go_wp2
    go_ret
    exact ⟨by simp; omega, rfl⟩

/-- May a request be written? -/
def rightV (a t d : Int) : Bool := decide (0 ≤ a ∧ a ≤ 2147483648) && (decide (1 ≤ t ∧ t ≤ 99) && decide (1 ≤ d ∧ d ≤ 1073741824))

set_option maxHeartbeats 1000000 in
theorem right_any (a t d : Int) (ht : -9223372036854775808 ≤ t ∧ t ≤ 9223372036854775807) (w : World) :
    Calls Tryd.prog 18 #[.agg #[.int .i64 a, .int .i64 t, .int .i64 d]] w fun e w' => e = .returned (.bool (rightV a t d)) ∧ Below w.heap.size w w' := by
  have hw : IntKind.i64.wrap t = t := by rw [IntKind.wrap_i64]; omega
  go_enter Tryd.func18, Tryd.ntmps18
  go_wp2_with (go_at_call 30; refine (within_any _ _ _ _).mono ?_; rintro e w1 ⟨rfl, rfl⟩)
  all_goals
    go_ret
    refine ⟨?_, (Below.refl _ w).alloc (Nat.le_refl _) _⟩
    unfold rightV
    simp_all <;> (intros; omega)

theorem words_one (x : Int) (hx : -9223372036854775808 ≤ x ∧ x ≤ 9223372036854775807) (w : World) (b : Nat) (hc : w.cell? ⟨b, 0, none⟩ = some (.int .i64 x))
    (htab : Lib.TabIs Tryd.prog w "internal/strconv.uint64pow10" .u64 Lib.pow10Tab) (hg : 0 < w.heap.size) :
    Calls Tryd.prog 20 #[.slice (some ⟨b, 0, none⟩) 1 1] w fun e w' => e = .returned (.string ⟨(itoa x).toArray⟩) ∧ Below w.heap.size w w' := by
  have h := words_any (some ⟨b, 0, none⟩) 1 [x] w (fun y hy => by simp at hy; subst hy; exact hx) (by simp) (fun _ => ⟨b, 0, rfl, cell_lt hc, fun i hi => by
    obtain rfl : i = 0 := by simpa using hi
    simpa using hc⟩) htab hg
  simpa [Lib.join_one] using h

end Go.Proofs.YtnejkfccdnadcaaDoor
