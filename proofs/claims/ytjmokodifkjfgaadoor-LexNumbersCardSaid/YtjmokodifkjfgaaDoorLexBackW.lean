/- LexBack: what the walk shows. -/
import Derived.Test.YtjmokodifkjfgaaDoorLexR
import Derived.Test.YtjmokodifkjfgaaDoorLexD
import Derived.Laws.IdiomStrings
namespace Go.Proofs.YtjmokodifkjfgaaDoor
open Go.RowKit Go.Shelf Go.Lib

theorem and_max (n : Int) : bits .and .i64 n 9223372036854775807 = n % 9223372036854775808 := by
  have hm : (BitVec.ofInt 64 (9223372036854775807 : Int)).toNat = 2 ^ 63 - 1 := by decide
  have key : (BitVec.ofInt 64 n &&& BitVec.ofInt 64 (9223372036854775807 : Int)).toNat = (n % ((2 ^ 64 : Nat) : Int)).toNat % 2 ^ 63 := by
    rw [BitVec.toNat_and, BitVec.toNat_ofInt, hm, Nat.and_two_pow_sub_one_eq_mod]
  show IntKind.i64.wrap ((BitVec.ofInt 64 n &&& BitVec.ofInt 64 (9223372036854775807 : Int)).toNat : Nat) = _
  rw [key, IntKind.wrap_i64]
  omega

theorem and_15 (c : Nat) : bits .and .u8 (c : Int) 15 = (c : Int) % 16 := by
  have hm : (BitVec.ofInt 8 (15 : Int)).toNat = 2 ^ 4 - 1 := by decide
  have key : (BitVec.ofInt 8 (c : Int) &&& BitVec.ofInt 8 (15 : Int)).toNat = ((c : Int) % ((2 ^ 8 : Nat) : Int)).toNat % 2 ^ 4 := by
    rw [BitVec.toNat_and, BitVec.toNat_ofInt, hm, Nat.and_two_pow_sub_one_eq_mod]
  show IntKind.u8.wrap ((BitVec.ofInt 8 (c : Int) &&& BitVec.ofInt 8 (15 : Int)).toNat : Nat) = _
  rw [key, IntKind.wrap_u8]
  omega

theorem conv_y {W : World} {b : Nat} {y : Nat} (hy : y < 256) (h : W.cell? ⟨b, 0, none⟩ = some (.int .u8 (y : Int))) :
    (convert 38 9 (.slice (some ⟨b, 0, none⟩) 1 1)).run Tryd.prog W = .ok (.string ⟨#[UInt8.ofNat y]⟩) W := by
  have hyt : (UInt8.ofNat y).toNat = y := by rw [UInt8.toNat_ofNat']; omega
  refine run_convert_bytes_back (P := Tryd.prog) W 38 9 5 ⟨b, 0, none⟩ 1 [UInt8.ofNat y] Tryd.underlying38 Tryd.underlying5 Tryd.underlying9 (fun j hj => ?_)
  obtain rfl : j = 0 := by simpa using hj
  simpa [Addr.add, hyt] using h

theorem ch1 {w a : World} (h : Below w.drew.heap.size w.drew a) : Below w.heap.size w a := ((Below.refl w.heap.size w).drew).trans h
theorem ch2 {w a : World} {o : Obj} (h : Below (w.alloc o).drew.heap.size (w.alloc o).drew a) : Below w.heap.size w a := (((Below.refl w.heap.size w).alloc (Nat.le_refl _) o).drew).trans (h.mono (by show w.heap.size ≤ (w.alloc o).heap.size; simp))
theorem ch3 {w a b : World} (h : Below w.heap.size w a) (k : Below a.heap.size a b) : Below w.heap.size w b := h.trans (k.mono h.size)
theorem ch4 {w a b : World} {o : Obj} (h : Below w.heap.size w a) (k : Below (a.alloc o).heap.size (a.alloc o) b) : Below w.heap.size w b := (h.alloc h.size o).trans (k.mono (by have := h.size; simp; omega))

theorem number_self (n : Int) (h0 : 0 ≤ n) (h1 : n ≤ 9223372036854775807) (w : World) :
    Calls Tryd.prog 17 #[.string ⟨(itoa n).toArray⟩, .int .i64 n] w fun e w' => e = .returned (.tuple #[.int .i64 n, .bool true]) ∧ Below w.heap.size w w' :=
  (number_any ⟨(itoa n).toArray⟩ n w (by omega) h1).mono fun e w' ⟨h, hb⟩ => by
    obtain ⟨e1, e2⟩ := itoa_num n h0 n
    rcases h with ⟨_, he⟩ | ⟨hn, _⟩
    · refine ⟨?_, hb⟩
      rw [he]
      show Ending.returned (.tuple #[.int .i64 (numV (itoa n) : Nat), .bool true]) = _
      rw [e1, Int.toNat_of_nonneg h0]
    · exact absurd (e2.2 (Int.le_refl _)) hn

theorem number_less (n : Int) (h0 : 0 ≤ n) (h1 : n ≤ 9223372036854775807) (w : World) :
    Calls Tryd.prog 17 #[.string ⟨(itoa n).toArray⟩, .int .i64 (n - 1)] w fun e w' => e = .returned (.tuple #[.int .i64 0, .bool false]) ∧ Below w.heap.size w w' :=
  (number_any ⟨(itoa n).toArray⟩ (n - 1) w (by omega) (by omega)).mono fun e w' ⟨h, hb⟩ => by
    obtain ⟨e1, e2⟩ := itoa_num n h0 (n - 1)
    rcases h with ⟨hn, _⟩ | ⟨_, he⟩
    · have := e2.1 hn
      omega
    · exact ⟨he, hb⟩

theorem number_tail (n : Int) (c : UInt8) (hc : ¬ isD c) (s : ByteArray) (hs : s.data.toList = itoa n ++ [c]) (most : Int) (h0 : -9223372036854775808 ≤ most) (h1 : most ≤ 9223372036854775807) (w : World) :
    Calls Tryd.prog 17 #[.string s, .int .i64 most] w fun e w' => e = .returned (.tuple #[.int .i64 0, .bool false]) ∧ Below w.heap.size w w' :=
  (number_any s most w h0 h1).mono fun e w' ⟨h, hb⟩ => by
    rcases h with ⟨hn, _⟩ | ⟨_, he⟩
    · rw [hs] at hn
      exact absurd hn (num_tail hc)
    · exact ⟨he, hb⟩

theorem same_at (A1 A2 : Option Addr) (c1 c2 : Nat) (L : List Int) (w : World) (hn : L.length ≤ 1000000) (h1 : NRow w w.heap.size A1 L) (h2 : NRow w w.heap.size A2 L) :
    Calls Tryd.prog 21 #[.slice A1 L.length c1, .slice A2 L.length c2] w fun e w' => e = .returned (.bool true) ∧ Below w.heap.size w w' := sameLong_yes A1 A2 c1 c2 L w hn h1 h2

theorem numsOf_digs (M : List Int) (h : ∀ x ∈ M, 0 ≤ x ∧ x ≤ 9223372036854775807) : numsOf (digs M) = M := by
  induction M with
  | nil => rfl
  | cons x M ih =>
    have h1 := ih (fun y hy => h y (List.mem_cons_of_mem _ hy))
    have h2 := (itoa_num x (h x List.mem_cons_self).1 0).1
    show (numV (itoa x) : Int) :: numsOf (digs M) = x :: M
    rw [h1, h2, Int.toNat_of_nonneg (h x List.mem_cons_self).1]

theorem nums_join (M : List Int) (hl : M.length ≤ 1000) (h : ∀ x ∈ M, 0 ≤ x ∧ x ≤ 9223372036854775807) (m : Int) : ∀ (w : World), (⟨(Lib.join (M.map itoa) [44]).toArray⟩ : ByteArray).size ≤ 65536 → w.cell? ⟨1, 0, none⟩ = some (.int .i64 m) →
    (M.length = 0 → Calls Tryd.prog 19 #[.string ⟨(Lib.join (M.map itoa) [44]).toArray⟩, .int .i64 9223372036854775807] w fun e w' => e = .returned (.tuple #[.slice none 0 0, .bool false]) ∧ Below w.heap.size w w') ∧
    (¬ M.length = 0 → Calls Tryd.prog 19 #[.string ⟨(Lib.join (M.map itoa) [44]).toArray⟩, .int .i64 9223372036854775807] w fun e w' => ∃ v, e = .returned (.tuple #[v, .bool true]) ∧ w'.ownsRow w.heap.size 2 1 v M.length (M.map (Value.int .i64)) ∧ Below w.heap.size w w') := by
  intro w hs hm
  constructor
  · intro h0
    obtain rfl : M = [] := List.eq_nil_of_length_eq_zero h0
    refine (numbers_any _ hs 9223372036854775807 m w (by decide) (by decide) [⟨#[]⟩] (by kernel_rfl) (by decide) hm).mono ?_
    rintro e w' ⟨⟨ha, _⟩ | ⟨_, he⟩, hb⟩
    · exact absurd rfl (ha 0 ⟨#[]⟩ rfl).1.1
    · exact ⟨he, hb⟩
  · intro h0
    cases M with
    | nil => exact absurd rfl h0
    | cons x M =>
      have hsp := split_join x M (fun y hy => (h y hy).1) _ rfl
      have hlen : (digs (x :: M)).length = (x :: M).length := by unfold digs; rw [List.length_map]
      refine (numbers_any _ hs 9223372036854775807 m w (by decide) (by decide) (digs (x :: M)) hsp (by rw [hlen]; omega) hm).mono ?_
      rintro e w' ⟨⟨_, v, he, hr⟩ | ⟨hn, _⟩, hb⟩
      · rw [hlen, numsOf_digs _ h] at hr
        exact ⟨v, he, hr, hb⟩
      · refine absurd (fun i y hy => ?_) hn
        have hm2 : y ∈ digs (x :: M) := List.mem_of_getElem? hy
        unfold digs at hm2
        obtain ⟨z, hz, rfl⟩ := List.mem_map.1 hm2
        exact (itoa_num z (h z hz).1 _).2.2 (h z hz).2

set_option maxHeartbeats 4000000 in
set_option maxRecDepth 100000 in
theorem lexBack_true (A : Option Addr) (cap : Nat) (L : List Int) (c : Nat) (m : Int) (w : World) (hr : NRow w w.heap.size A L) (hL : L.length ≤ 9223372036854775807)
    (htab : Lib.TabIs Tryd.prog w "internal/strconv.uint64pow10" .u64 Lib.pow10Tab) (hm : w.cell? ⟨1, 0, none⟩ = some (.int .i64 m)) :
    Calls Tryd.prog 7 #[.slice A L.length cap, .int .u8 c] w fun e w' => e = .returned (.bool true) ∧ Below w.heap.size w w' := by
  have hlt : 1 < w.heap.size := cell_lt hm
  obtain ⟨i0, hi0, hz0, hz1, hz2⟩ := info_parts infoL
  obtain ⟨n, hn⟩ : ∃ n, n = L.length := ⟨_, rfl⟩
  rw [← hn] at hL ⊢
  have HN := Lib.hid hn
  clear hn
  go_enter Tryd.func7, Tryd.ntmps7
  go_wp2_with (go_at_call 9; refine (awake_yes m w hm).mono ?_; rintro e w1 ⟨rfl, hb1⟩)
  have hr1 : NRow w1 w1.heap.size A L := (hr.below hb1 (Nat.le_refl _)).more hb1.size
  have htab1 := tab_below htab hb1 (by omega)
  have hw1 : 1 < w1.heap.size := Nat.lt_of_lt_of_le hlt hb1.size
  have hm1 := (hb1.cell (p := ⟨1, 0, none⟩) hlt).trans hm
  go_loopw [6, 7] (fun v6 v7 wr => ∃ (i : Nat) (M : List Int), v7 = .int .i64 i ∧ i ≤ n ∧ i ≤ 20 ∧ M.length = i ∧ Hid (∀ x ∈ M, 0 ≤ x ∧ x ≤ 9223372036854775807) ∧ wr.ownsRow w1.heap.size 2 1 v6 i (M.map (Value.int .i64)) ∧ Below w1.heap.size w1 wr) (fun _ v7 _ => n - (RowKit.intOf v7).toNat)
  case atStart => exact ⟨0, [], rfl, Nat.zero_le _, by omega, rfl, Lib.hid (fun x h => by cases h), World.ownsRow_nil _ _ _ _, Below.refl _ _⟩
  case round =>
    obtain ⟨i, M, rfl, hi, hi20, hM, hMb, hrow, hbr⟩ := hrel
    by_cases hin : i < n ∧ i < 20
    · obtain ⟨hin1, hin2⟩ := hin
      have hil : i < L.length := by rw [← HN.out]; exact hin1
      obtain ⟨b1, o1, rfl, hlt1, hc1⟩ := hr1 (by omega)
      have a0 := (hbr.cell (p := ⟨b1, _, none⟩) hlt1).trans (hc1 i hil)
      generalize L[i] = x0 at *
      obtain ⟨x, hx⟩ : ∃ x, bits .and .i64 x0 9223372036854775807 = x := ⟨_, rfl⟩
      have hxb : 0 ≤ x ∧ x ≤ 9223372036854775807 := by rw [← hx, and_max]; omega
      obtain ⟨hx0, hx1⟩ := hxb
      go_upto_region 8 with (first
        | (go_at_call 18; refine (digits_any x _ (by omega) hx1 (tab_below htab1 hbr (by omega))).mono ?_; rintro e w2 ⟨rfl, hb2⟩; have hbr2 := hbr.trans (hb2.mono hbr.size))
        | (go_at_call 17; refine (number_self x hx0 hx1 _).mono ?_; rintro e w3 ⟨rfl, hb3⟩; have hbr3 := hbr2.trans (hb3.mono hbr2.size)))
      have hrow3 := ownsRow_below (ownsRow_below hrow hb2 (Nat.le_refl _)) hb3 (Nat.le_refl _)
      have hdec : IntKind.i64.wrap (x - 1) = x - 1 := by rw [IntKind.wrap_i64]; omega
      clear hb2 hb3 hbr2 hrow hbr a0 hc1
      go_upto_region 9 with (first
        | (go_at_call 18; refine (digits_any x _ (by omega) hx1 (tab_below htab1 hbr3 (by omega))).mono ?_; rintro e w2 ⟨rfl, hb2⟩; have hbr4 := hbr3.trans (hb2.mono hbr3.size))
        | (go_at_call 17; refine (number_less x hx0 hx1 _).mono ?_; rintro e w5 ⟨rfl, hb3⟩; have hbr5 := hbr4.trans (hb3.mono hbr4.size)))
      have hrow5 := ownsRow_below (ownsRow_below hrow3 hb2 (Nat.le_refl _)) hb3 (Nat.le_refl _)
      clear hb2 hb3 hbr4 hrow3 hbr3 hdec
      have h15 := and_15 c
      obtain ⟨y, hy⟩ : ∃ y : Nat, y = c % 16 + 32 := ⟨_, rfl⟩
      have hyw : IntKind.u8.wrap ((c : Int) % 16 + 32) = (y : Int) := by rw [IntKind.wrap_u8]; omega
      have hy256 : y < 256 := by omega
      have hcv0 : ∀ W : World, (convert 38 9 (.slice (some ⟨W.heap.size, 0, none⟩) 1 1)).run Tryd.prog (W.alloc (.cells #[.int .u8 (y : Int)] 5)) = .ok (.string ⟨#[UInt8.ofNat y]⟩) (W.alloc (.cells #[.int .u8 (y : Int)] 5)) := fun W => conv_y hy256 (Boxed.new W 5 _).cell
      have hcv1 : ∀ W : World, (convert 38 9 (.slice (some ⟨W.heap.size, 0, none⟩) 1 1)).run Tryd.prog (W.alloc (.cells #[.int .u8 (y : Int)] 5)).drew = .ok (.string ⟨#[UInt8.ofNat y]⟩) (W.alloc (.cells #[.int .u8 (y : Int)] 5)).drew := fun W => conv_y (W := (W.alloc (.cells #[.int .u8 (y : Int)] 5)).drew) hy256 (Boxed.new W 5 (.int .u8 (y : Int))).cell
      have hilen : (9223372036854775807 < (itoa x).length + 1) = False := by
        have := itoa_len x (by omega) hx1
        rw [eq_iff_iff, iff_false]
        omega
      have hnd : ¬ isD (UInt8.ofNat y) := by
        have hyt : (UInt8.ofNat y).toNat = y := by rw [UInt8.toNat_ofNat']; omega
        unfold isD
        rw [hyt]
        omega
      have htail := Lib.hid (fun W => number_tail x (UInt8.ofNat y) hnd (⟨(itoa x).toArray⟩ ++ ⟨#[UInt8.ofNat y]⟩) (by simp) x (by omega) hx1 W)
      clear hy hnd
      go_cut [13, 14] from 103 (fun _ v14 wx => v14 = .bool false ∧ Below w5.heap.size w5 wx)
      case first =>
       go_region_law (first
        | (go_simp; go_at_call 18; refine (digits_any x _ (by omega) hx1 (tab_below htab1 (by first | exact hbr5.drew | exact (hbr5.alloc hbr5.size _).drew) (by omega))).mono ?_; rintro e w6 ⟨rfl, hb6⟩; (first | (have hb6' := ch2 hb6) | (have hb6' := ch1 hb6)); (first | (have hcv6 := conv_y hy256 ((hb6.cell (p := ⟨w5.heap.size, 0, none⟩) (by simp)).trans (Boxed.new w5 5 (.int .u8 (y : Int))).cell)) | skip))
        | (go_simp; go_at_call 17; refine (htail.out _).mono ?_; rintro e w7 ⟨rfl, hb7⟩; (first | (have hb7' := ch4 hb6' hb7) | (have hb7' := ch3 hb6' hb7))))
       all_goals go_wp2
       all_goals go_meet
       all_goals exact ⟨rfl, hb7'⟩
      case rest =>
        obtain ⟨rfl, hb8⟩ := hcut
        rename World => w8
        have hbr8 := hbr5.trans (hb8.mono hbr5.size)
        have hrow8 := ownsRow_below hrow5 hb8 (Nat.le_refl _)
        go_wp2_with (at_builtin; refine wpList_append_own _ rfl _ _ 34 rfl w1.heap.size 2 i0 _ 1 8 Tryd.underlying34 hi0 hz0 hz1 hz2 rfl (by decide) _ _ _ rfl (hrow8.alloc _) ⟨w8.heap.size, 0, none⟩ 1 1 [.int .i64 x] rfl rfl (cell_one_new _ _ _) (by simp [Value.oneCell']) (by unfold maxLen; omega) (by omega) (by have := hbr8.size; simp; omega) ?_; intro v' w9 hown' hgrow _)
        have hbr9 : Below w1.heap.size w1 w9 := (hbr8.alloc hbr8.size _).grown hgrow (by have := hbr8.size; simp; omega) (fun k e => (hrow8.lt k e).1)
        go_roundw
        case rel => exact ⟨i + 1, M ++ [x], by simp, hin1, by omega, by simp [hM], Lib.hid (fun z hz => by
          rcases List.mem_append.1 hz with hz | hz
          · exact hMb.out z hz
          · simp only [List.mem_singleton] at hz
            subst hz
            exact ⟨hx0, hx1⟩), by simpa [List.map_append] using hown', hbr9⟩
        case measure => simp [RowKit.intOf]; omega
    · have hstop : (decide (i < n) && decide (i < 20)) = false := by
        rw [Bool.and_eq_false_iff]
        by_cases h1 : i < n
        · exact .inr (by simp; omega)
        · exact .inl (by simp; omega)
      subst hM
      obtain ⟨A3, c3, rfl, hcap3, hnil3, hr3⟩ := nrow_own (L := M) hrow
      have hj := Lib.hid (join_any A3 c3 M wr (fun x hx => by have := hMb.out x hx; omega) (by omega) hr3 (tab_below htab1 hbr (Nat.lt_of_lt_of_le Nat.zero_lt_one (Nat.le_of_lt hw1))) (Nat.lt_of_lt_of_le (Nat.lt_of_lt_of_le Nat.zero_lt_one (Nat.le_of_lt hw1)) hbr.size))
      have hsz := join_len [44] (M.map itoa) (fun y hy => by
        obtain ⟨z, hz, rfl⟩ := List.mem_map.1 hy
        have := hMb.out z hz
        exact itoa_len z (by omega) this.2)
      rw [List.length_map] at hsz
      simp only [List.length_cons, List.length_nil] at hsz
      have hnum := Lib.hid (nums_join M (by omega) (fun x hx => (hMb.out x hx)) m)
      have hmr := (hbr.cell (p := ⟨1, 0, none⟩) (by show _ < w1.heap.size; exact Nat.lt_of_lt_of_le hlt hb1.size)).trans hm1
      obtain ⟨S, hS⟩ : ∃ S : ByteArray, S = ⟨(Lib.join (M.map itoa) [44]).toArray⟩ := ⟨_, rfl⟩
      rw [← hS] at hj hnum
      have hSs : S.size ≤ 65536 := by rw [Lib.size_eq, hS]; show (Lib.join (M.map itoa) [44]).length ≤ _; omega
      clear hS hsz
      by_cases hM0 : M.length = 0
      · have hj1 := hj.out
        rw [hM0] at hj1
        have hj0 := Lib.hid hj1
        clear hj hj1
        go_wp2_with (first
          | (go_at_call 20; refine hj0.out.mono ?_; rintro e w3 ⟨rfl, hb3⟩; have hm3 := (hb3.cell (p := ⟨1, 0, none⟩) (cell_lt hmr)).trans hmr)
          | (go_at_call 19; refine ((hnum.out _ hSs hm3).1 hM0).mono ?_; rintro e w4 ⟨rfl, hb4⟩))
        all_goals
          go_ret
          exact ⟨rfl, hb1.trans ((hbr.trans ((hb3.trans (hb4.mono hb3.size)).mono hbr.size)).mono hb1.size)⟩
      · go_wp2_with (first
          | (go_at_call 20; refine hj.out.mono ?_; rintro e w3 ⟨rfl, hb3⟩; have hm3 := (hb3.cell (p := ⟨1, 0, none⟩) (cell_lt hmr)).trans hmr)
          | (go_at_call 19; refine ((hnum.out _ hSs hm3).2 hM0).mono ?_; rintro e w4 ⟨v4, rfl, hrow4, hb4⟩; obtain ⟨A4, c4, rfl, hcap4, hnil4, hr4⟩ := nrow_own (L := M) hrow4)
          | (go_at_call 21; refine (same_at A4 A3 c4 c3 M w4 (by omega) hr4 ((hr3.below (hb3.trans (hb4.mono hb3.size)) (Nat.le_refl _)).more (Nat.le_trans hb3.size hb4.size))).mono ?_; rintro e w5 ⟨rfl, hb5⟩))
        all_goals
          go_ret
          exact ⟨rfl, hb1.trans ((hbr.trans ((hb3.trans ((hb4.trans (hb5.mono hb4.size)).mono hb3.size)).mono hbr.size)).mono hb1.size)⟩

end Go.Proofs.YtjmokodifkjfgaaDoor
