/- LexNumbers: what the walk shows. -/
import Derived.Test.YtjmokodifkjfgaaDoorLexY
namespace Go.Proofs.YtjmokodifkjfgaaDoor
open Go.RowKit Go.Shelf Go.Lib

theorem NRow.take {w : World} {B : Nat} {A : Option Addr} {L : List Int} (h : NRow w B A L) (k : Nat) : NRow w B A (L.take k) := by
  intro hl
  rw [List.length_take] at hl
  obtain ⟨b, off, e, hlt, hc⟩ := h (by omega)
  refine ⟨b, off, e, hlt, fun i hi => ?_⟩
  rw [List.length_take] at hi
  rw [hc i (by omega), List.getElem_take]

theorem number_both (s : ByteArray) (most : Int) (hs : s.size ≤ 1000000) (hm1 : -9223372036854775808 ≤ most) (hm2 : most ≤ 9223372036854775807) :
    ∃ (n : Int) (ok : Bool), (∀ w, Calls Tryd.prog 17 #[.string s, .int .i64 most] w fun e w' => e = .returned (.tuple #[.int .i64 n, .bool ok]) ∧ Below w.heap.size w w') ∧
      (∀ w, Calls Tryd.prog 22 #[.string s, .int .i64 most] w fun e w' => e = .returned (.agg #[.int .i64 n, .bool ok]) ∧ Below w.heap.size w w') := by
  by_cases h : NumOk s.data.toList most
  · refine ⟨(numV s.data.toList : Nat), true, fun w => (number_any s most w hm1 hm2).mono ?_, fun w => (refNumber_any s most w hs hm2).mono ?_⟩
    · rintro e w' ⟨⟨_, he⟩ | ⟨hn, _⟩, hb⟩
      · exact ⟨he, hb⟩
      · exact absurd h hn
    · rintro e w' ⟨⟨_, he⟩ | ⟨hn, _⟩, hb⟩
      · exact ⟨he, hb⟩
      · exact absurd h hn
  · refine ⟨0, false, fun w => (number_any s most w hm1 hm2).mono ?_, fun w => (refNumber_any s most w hs hm2).mono ?_⟩
    · rintro e w' ⟨⟨hn, _⟩ | ⟨_, he⟩, hb⟩
      · exact absurd hn h
      · exact ⟨he, hb⟩
    · rintro e w' ⟨⟨hn, _⟩ | ⟨_, he⟩, hb⟩
      · exact absurd hn h
      · exact ⟨he, hb⟩

theorem slc_len (l : List UInt8) : (slc 44 l).length ≤ l.length + 1 := by
  induction l with
  | nil => simp [slc]
  | cons c l ih =>
    by_cases hc : c = 44
    · simp [slc, hc]; omega
    · simp [slc, hc]; omega

theorem numbers_both (s : ByteArray) (most : Int) (m : Int) (hs : s.size ≤ 60) (hm1 : -9223372036854775808 ≤ most) (hm2 : most ≤ 9223372036854775807) :
    ∃ (K : List Int) (ok : Bool), K.length ≤ 100 ∧ (∀ w, w.cell? ⟨1, 0, none⟩ = some (.int .i64 m) → Calls Tryd.prog 19 #[.string s, .int .i64 most] w fun e w' => ∃ v, e = .returned (.tuple #[v, .bool ok]) ∧ w'.ownsRow w.heap.size 2 1 v K.length (K.map (Value.int .i64)) ∧ Below w.heap.size w w') ∧
      (∀ w, Calls Tryd.prog 23 #[.string s, .int .i64 most] w fun e w' => ∃ v, e = .returned (.tuple #[v, .bool ok]) ∧ w'.ownsRow w.heap.size 2 1 v K.length (K.map (Value.int .i64)) ∧ Below w.heap.size w w') := by
  obtain ⟨L, hL⟩ : ∃ L, Lib.splitB ⟨#[44]⟩ 0 (Lib.countB s ⟨#[44]⟩) s = L := ⟨_, rfl⟩
  have hL2 : L.map (·.data.toList) = slc 44 s.data.toList := by
    rw [← hL, Lib.splitB_data]
    have h1 : (ByteArray.mk #[44]).data.toList = [44] := rfl
    rw [h1]
    have hc : Lib.countB s ⟨#[44]⟩ = Lib.count s.data.toList [44] := rfl
    rw [hc, splitK_slc]
  have hlen : L.length ≤ 61 := by
    have h1 := congrArg List.length hL2
    rw [List.length_map] at h1
    have h2 := slc_len s.data.toList
    rw [← Lib.size_eq] at h2
    omega
  have hK : (numsOf L).length = L.length := by unfold numsOf; rw [List.length_map]
  by_cases h : AllNum L most
  · refine ⟨numsOf L, true, by omega, fun w hm => (numbers_any s (by omega) most m w hm1 hm2 L hL (by omega) hm).mono ?_, fun w => (refNumbers_any s (by omega) most w hm2 L hL2).mono ?_⟩
    · rintro e w' ⟨⟨_, v, he, hr⟩ | ⟨hn, _⟩, hb⟩
      · exact ⟨v, he, by rw [hK]; exact hr, hb⟩
      · exact absurd h hn
    · rintro e w' ⟨⟨_, v, he, hr⟩ | ⟨hn, _⟩, hb⟩
      · exact ⟨v, he, by rw [hK]; exact hr, hb⟩
      · exact absurd h hn
  · refine ⟨[], false, Nat.zero_le _, fun w hm => (numbers_any s (by omega) most m w hm1 hm2 L hL (by omega) hm).mono ?_, fun w => (refNumbers_any s (by omega) most w hm2 L hL2).mono ?_⟩
    · rintro e w' ⟨⟨hn, _⟩ | ⟨_, he⟩, hb⟩
      · exact absurd hn h
      · exact ⟨_, he, World.ownsRow_nil _ _ _ _, hb⟩
    · rintro e w' ⟨⟨hn, _⟩ | ⟨_, he⟩, hb⟩
      · exact absurd hn h
      · exact ⟨_, he, World.ownsRow_nil _ _ _ _, hb⟩

theorem cell_on {w w' : World} {p : Addr} {v : Value} (h : w.cell? p = some v) (hb : Below w.heap.size w w') : w'.cell? p = some v :=
  (hb.cell (cell_lt h)).trans h

set_option maxHeartbeats 4000000 in
set_option maxRecDepth 100000 in
theorem lexNumbers_true (s0 : ByteArray) (most : Int) (A : Option Addr) (cap : Nat) (L : List Int) (m : Int) (w : World) (hr : NRow w w.heap.size A L) (hL : L.length ≤ 9223372036854775807) (hc : L.length ≤ cap ∨ L.length ≤ 20)
    (hx : ∀ y ∈ L, -9223372036854775808 ≤ y ∧ y ≤ 9223372036854775807) (hm1 : -9223372036854775808 ≤ most) (hm2 : most ≤ 9223372036854775807)
    (htab : Lib.TabIs Tryd.prog w "internal/strconv.uint64pow10" .u64 Lib.pow10Tab) (hm : w.cell? ⟨1, 0, none⟩ = some (.int .i64 m)) :
    Calls Tryd.prog 8 #[.string s0, .int .i64 most, .slice A L.length cap] w fun e w' => e = .returned (.bool true) ∧ Below w.heap.size w w' := by
  have hlt : 1 < w.heap.size := cell_lt hm
  obtain ⟨k, hk⟩ : ∃ k, k = (L.take 20).length := ⟨_, rfl⟩
  have hk20 : k ≤ 20 := by rw [hk, List.length_take]; omega
  have HT : Hid (NRow w w.heap.size A (L.take 20)) := Lib.hid (hr.take 20)
  have HX : Hid (∀ y ∈ L.take 20, -9223372036854775808 ≤ y ∧ y ≤ 9223372036854775807) := Lib.hid (fun y hy => hx y (List.mem_of_mem_take hy))
  obtain ⟨n0, hn0⟩ : ∃ n0, n0 = L.length := ⟨_, rfl⟩
  have hk0 : k = min 20 n0 := by rw [hk, hn0, List.length_take]
  rw [← hn0] at hL hc ⊢
  have HK := Lib.hid hk
  have HK0 := Lib.hid hk0
  clear hn0 hr hx hk hk0
  generalize L.take 20 = M at *
  go_enter Tryd.func8, Tryd.ntmps8
  go_upto_if 26 with (first
    | (go_at_call 9; refine (awake_yes m w hm).mono ?_; rintro e w1 ⟨rfl, hb1⟩)
    | (go_at_call 10; refine (short_any s0 60 (by decide) _).mono ?_; rintro e w1' ⟨⟨s, rfl, hs⟩, rfl⟩))
  go_cut [2] from 124 (fun v2 wx => (∃ c, v2 = .slice A k c) ∧ w1 = wx)
  case first =>
    by_cases h20 : 20 < n0
    · go_wp2
      go_meet
      have := HK0.out
      obtain rfl : k = 20 := by omega
      exact ⟨⟨_, rfl⟩, rfl⟩
    · go_wp2
      go_meet
      have := HK0.out
      obtain rfl : k = n0 := by omega
      exact ⟨⟨_, rfl⟩, rfl⟩
  case rest =>
    obtain ⟨⟨c2, rfl⟩, rfl⟩ := hcut
    obtain ⟨n, ok, hn1, hn2⟩ := number_both s most (by omega) hm1 hm2
    obtain ⟨K, ok2, hK, hk1, hk2⟩ := numbers_both s most m hs hm1 hm2
    have HN1 := Lib.hid hn1
    have HN2 := Lib.hid hn2
    have HK1 := Lib.hid hk1
    have HK2 := Lib.hid hk2
    have hm1c := (hb1.cell (p := ⟨1, 0, none⟩) hlt).trans hm
    clear hn1 hn2 hk1 hk2
    go_upto_region 7 with (first
      | (go_at_call 17; refine (HN1.out _).mono ?_; rintro e w2 ⟨rfl, hb2⟩; have hm2c := cell_on hm1c hb2)
      | (go_at_call 22; refine (HN2.out _).mono ?_; rintro e w3 ⟨rfl, hb3⟩; have hm3c := cell_on hm2c hb3))
    have hba := hb1.trans (hb2.mono hb1.size)
    have hbb := hba.trans (hb3.mono hba.size)
    clear hb1 hb2 hb3 hba hm1c hm2c
    have hbc := hbb.alloc hbb.size (.cells #[.int .i64 n, .bool ok] 45)
    have hmc := cell_on hm3c ((Below.refl w3.heap.size w3).alloc (Nat.le_refl _) (.cells #[.int .i64 n, .bool ok] 45))
    have hblk := heap_alloc_new w3 (.cells #[.int .i64 n, .bool ok] 45)
    generalize w3.alloc (.cells #[.int .i64 n, .bool ok] 45) = W3 at hbc hmc hblk ⊢
    have c3a : W3.cell? ⟨w3.heap.size, 0, none⟩ = some (.int .i64 n) := by simp [World.cell?, hblk]
    have c3b : W3.cell? ⟨w3.heap.size, 1, none⟩ = some (.bool ok) := by simp [World.cell?, hblk]
    obtain ⟨B3, hB3⟩ : ∃ b, w3.heap.size = b := ⟨_, rfl⟩
    rw [hB3] at c3a c3b ⊢
    clear hblk hB3 hm3c hbb
    have HP1 := Lib.hid (fun W h => lexPair_any s m W (by omega) h)
    have HP2 := Lib.hid (fun W => refPair_any s W (by omega))
    obtain ⟨P1, hP1⟩ : ∃ p, (pairV s).1 = p := ⟨_, rfl⟩
    obtain ⟨P2, hP2⟩ : ∃ p, (pairV s).2.1 = p := ⟨_, rfl⟩
    obtain ⟨P3, hP3⟩ : ∃ p, (pairV s).2.2 = p := ⟨_, rfl⟩
    rw [hP1, hP2, hP3] at HP1 HP2
    clear hP1 hP2 hP3
    go_upto_region 11 with (first
      | (go_at_call 19; refine (HK1.out _ hmc).mono ?_; rintro e w4 ⟨va, rfl, ra4, hb4⟩; have hm4 := cell_on hmc hb4; have c4a := cell_on c3a hb4; have c4b := cell_on c3b hb4; obtain ⟨Aa, ca, rfl, hcapa, hnila, rra⟩ := nrow_own (L := K) ra4)
      | (go_at_call 23; refine (HK2.out _).mono ?_; rintro e w5 ⟨vb, rfl, rb5, hb5⟩; have hm5 := cell_on hm4 hb5; have c5a := cell_on c4a hb5; have c5b := cell_on c4b hb5; have rra5 := (rra.below hb5 (Nat.le_refl _)).more hb5.size; obtain ⟨Ab, cb, rfl, hcapb, hnilb, rrb⟩ := nrow_own (L := K) rb5)
      | (go_at_call 24; refine (HP1.out _ hm5).mono ?_; rintro e w6 ⟨rfl, hb6⟩; have c6a := cell_on c5a hb6; have c6b := cell_on c5b hb6; have rra6 := (rra5.below hb6 (Nat.le_refl _)).more hb6.size; have rrb6 := (rrb.below hb6 (Nat.le_refl _)).more hb6.size)
      | (go_at_call 25; refine (HP2.out _).mono ?_; rintro e w7 ⟨rfl, hb7⟩; have c7a := cell_on c6a hb7; have c7b := cell_on c6b hb7; have rra7 := (rra6.below hb7 (Nat.le_refl _)).more hb7.size; have rrb7 := (rrb6.below hb7 (Nat.le_refl _)).more hb7.size))
    have hbd := hbc.trans (hb4.mono hbc.size)
    have hbe := hbd.trans (hb5.mono hbd.size)
    have hbf := hbe.trans (hb6.mono hbe.size)
    have hbg := hbf.trans (hb7.mono hbf.size)
    clear hb4 hb5 hb6 hb7 hbd hbe hbf hbc hmc hm4 hm5 c3a c3b c4a c4b c5a c5b c6a c6b rra rra5 rra6 rrb rrb6 ra4 rb5 HN1 HN2 HK1 HK2 HP1 HP2
    have hbh := hbg.alloc hbg.size (.cells #[.string P1, .string P2, .bool P3] 50)
    have hal := (Below.refl w7.heap.size w7).alloc (Nat.le_refl _) (.cells #[.string P1, .string P2, .bool P3] 50)
    have c8a := cell_on c7a hal
    have c8b := cell_on c7b hal
    have rra8 := (rra7.below hal (Nat.le_refl _)).more hal.size
    have rrb8 := (rrb7.below hal (Nat.le_refl _)).more hal.size
    have hblk := heap_alloc_new w7 (.cells #[.string P1, .string P2, .bool P3] 50)
    generalize w7.alloc (.cells #[.string P1, .string P2, .bool P3] 50) = W8 at hbh hal c8a c8b rra8 rrb8 hblk ⊢
    have p8a : W8.cell? ⟨w7.heap.size, 0, none⟩ = some (.string P1) := by simp [World.cell?, hblk]
    have p8b : W8.cell? ⟨w7.heap.size, 1, none⟩ = some (.string P2) := by simp [World.cell?, hblk]
    have p8c : W8.cell? ⟨w7.heap.size, 2, none⟩ = some (.bool P3) := by simp [World.cell?, hblk]
    obtain ⟨B7, hB7⟩ : ∃ b, w7.heap.size = b := ⟨_, rfl⟩
    rw [hB7] at p8a p8b p8c ⊢
    clear hblk hal hB7 c7a c7b rra7 rrb7 hbg
    go_upto_region 12 with (go_at_call 21; refine (same_at Aa Ab ca cb K W8 (by omega) rra8 rrb8).mono ?_; rintro e w9 ⟨rfl, hb9⟩)
    have c9a := cell_on c8a hb9
    have c9b := cell_on c8b hb9
    have p9a := cell_on p8a hb9
    have p9b := cell_on p8b hb9
    have p9c := cell_on p8c hb9
    have hbi := hbh.trans (hb9.mono hbh.size)
    clear c8a c8b p8a p8b p8c hb9 hbh rra8 rrb8
    have HTAB : Hid (∀ W, Below w.heap.size w W → Lib.TabIs Tryd.prog W "internal/strconv.uint64pow10" .u64 Lib.pow10Tab) := Lib.hid (fun W hb => tab_below htab hb (by omega))
    clear htab hm
    go_wp2
    go_loopw [20] (fun v20 wr => ∃ i : Nat, v20 = .int .i64 i ∧ i ≤ k ∧ Below w9.heap.size w9 wr) (fun v20 _ => k - (RowKit.intOf v20).toNat)
    case atStart => exact ⟨0, rfl, Nat.zero_le _, Below.refl _ _⟩
    case round =>
      obtain ⟨i, rfl, hi, hbr⟩ := hrel
      have hbw := hbi.trans (hbr.mono hbi.size)
      by_cases hik : i < k
      · have hil : i < M.length := by rw [← HK.out]; exact hik
        obtain ⟨b1, o1, rfl, hlt1, hc1⟩ := HT.out (by omega)
        have a0 := (hbw.cell (p := ⟨b1, _, none⟩) hlt1).trans (hc1 i hil)
        obtain ⟨x1, x2⟩ := HX.out M[i] (List.getElem_mem hil)
        generalize M[i] = x at *
        clear hc1
        have a0d : wr.drew.cell? ⟨b1, o1 + i, none⟩ = some (.int .i64 x) := a0
        have HD := Lib.hid (fun W hb => digits_any x W x1 x2 (HTAB.out W hb))
        have HR := Lib.hid (fun W => refDigits_any x x1 x2 W)
        go_upto_region 15 with (fail)
        go_region_law (first
          | (go_simp; go_at_call 18; refine (HD.out _ hbw.drew).mono ?_; rintro e w10 ⟨rfl, hb10⟩; have a10 := cell_on a0d hb10)
          | (go_simp; go_at_call 26; refine (HR.out _).mono ?_; rintro e w11 ⟨rfl, hb11⟩))
        all_goals go_wp2
        all_goals
          have hbt := hbr.drew.trans (hb10.mono hbr.drew.size)
          exact ⟨⟨i + 1, by simp, hik, hbt.trans (hb11.mono hbt.size)⟩, by simp [RowKit.intOf]; omega⟩
      · obtain rfl : i = k := by omega
        obtain ⟨J, hJ⟩ : ∃ J : ByteArray, J = ⟨(Lib.join (M.map itoa) [44]).toArray⟩ := ⟨_, rfl⟩
        have hj1 : ∀ W, Below w.heap.size w W → Calls Tryd.prog 20 #[.slice A i c2] W fun e w' => e = .returned (.string J) ∧ Below W.heap.size W w' := fun W hb => by
          have h1 := join_any A c2 M W HX.out (by rw [← HK.out]; omega) ((HT.out.below hb (Nat.le_refl _)).more hb.size) (HTAB.out W hb) (Nat.lt_of_lt_of_le (Nat.lt_of_lt_of_le Nat.zero_lt_one (Nat.le_of_lt hlt)) hb.size)
          rw [← HK.out, ← hJ] at h1
          exact h1
        have hj2 : ∀ W, Below w.heap.size w W → Calls Tryd.prog 27 #[.slice A i c2] W fun e w' => e = .returned (.string J) ∧ Below W.heap.size W w' := fun W hb => by
          have h1 := refJoin_any A c2 M W HX.out (by rw [← HK.out]; omega) ((HT.out.below hb (Nat.le_refl _)).more hb.size)
          rw [← HK.out, ← hJ] at h1
          exact h1
        have HJ1 := Lib.hid hj1
        have HJ2 := Lib.hid hj2
        clear hj1 hj2 hJ
        have e3a := (hbr.cell (p := ⟨B3, 0, none⟩) (cell_lt c9a)).trans c9a
        have e3b := (hbr.cell (p := ⟨B3, 1, none⟩) (cell_lt c9b)).trans c9b
        have e7a := (hbr.cell (p := ⟨B7, 0, none⟩) (cell_lt p9a)).trans p9a
        have e7b := (hbr.cell (p := ⟨B7, 1, none⟩) (cell_lt p9b)).trans p9b
        have e7c := (hbr.cell (p := ⟨B7, 2, none⟩) (cell_lt p9c)).trans p9c
        clear c9a c9b p9a p9b p9c
        go_wp2_with (first
          | (go_at_call 20; refine (HJ1.out _ hbw).mono ?_; rintro e w10 ⟨rfl, hb10⟩; have hbt := hbw.trans (hb10.mono hbw.size))
          | (go_at_call 27; refine (HJ2.out _ hbt).mono ?_; rintro e w11 ⟨rfl, hb11⟩))
        all_goals
          go_ret
          exact ⟨ret_bool (by simp), hbt.trans (hb11.mono hbt.size)⟩

end Go.Proofs.YtjmokodifkjfgaaDoor
