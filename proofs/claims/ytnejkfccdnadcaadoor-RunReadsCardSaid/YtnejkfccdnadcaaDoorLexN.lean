/- lex.Number. -/
import Derived.Test.YtnejkfccdnadcaaDoorLexA
namespace Go.Proofs.YtnejkfccdnadcaaDoor
open Go.RowKit Go.Shelf Go.Lib

def isD (c : UInt8) : Prop := 48 ≤ c.toNat ∧ c.toNat ≤ 57
def numF (n : Nat) (c : UInt8) : Nat := n * 10 + (c.toNat - 48)
def numV (l : List UInt8) : Nat := l.foldl numF 0

theorem numF_le (l : List UInt8) : ∀ n, n ≤ l.foldl numF n := by
  induction l with
  | nil => intro n; exact Nat.le_refl _
  | cons c l ih =>
    intro n
    have h := ih (numF n c)
    have h2 : n ≤ numF n c := by unfold numF; omega
    exact Nat.le_trans h2 h

theorem numV_take {l : List UInt8} {i : Nat} {c : UInt8} (h : l[i]? = some c) : numV (l.take (i + 1)) = numF (numV (l.take i)) c := by
  obtain ⟨hk, he⟩ := List.getElem?_eq_some_iff.1 h
  rw [List.take_succ_eq_append_getElem hk, he]
  simp [numV]

theorem numV_ge (l : List UInt8) (i : Nat) : numV (l.take i) ≤ numV l := by
  have h : numV l = (l.drop i).foldl numF (numV (l.take i)) := by
    unfold numV
    rw [← List.foldl_append, List.take_append_drop]
  rw [h]
  exact numF_le _ _

/-- What a number is, up to a bound. -/
def NumOk (l : List UInt8) (most : Int) : Prop := (l ≠ [] ∧ (l.length = 1 ∨ l[0]? ≠ some 48)) ∧ (∀ (i : Nat) c, l[i]? = some c → isD c) ∧ (numV l : Int) ≤ most

/-- One digit more. -/
theorem num_break {most t q : Int} {n d : Nat} (hm : 0 ≤ most) (hm2 : most ≤ 9223372036854775807) (hd : d ≤ 9) (ht : t = wrap64 (most - d)) (hq : q = t.tdiv 10) (h : q < n) : most < (n * 10 + d : Nat) := by
  have ht2 : t = most - d := by rw [ht]; unfold wrap64; omega
  subst hq
  rcases Int.lt_or_le t 0 with h0 | h0
  · have : t.tdiv 10 = 0 := by
      have h1 : t.tdiv 10 = -((-t).tdiv 10) := by rw [Int.neg_tdiv, Int.neg_neg]
      rw [h1, Int.tdiv_eq_ediv_of_nonneg (by omega)]
      omega
    omega
  · rw [Int.tdiv_eq_ediv_of_nonneg h0] at h
    omega

theorem num_on {most t q : Int} {n d : Nat} (hm1 : -9223372036854775808 ≤ most) (hm2 : most ≤ 9223372036854775807) (hd : d ≤ 9) (ht : t = wrap64 (most - d)) (hq : q = t.tdiv 10) (h : ¬ q < n)
    (hn : most < 0 → n = 0 ∨ n % 10 ≠ 0) : n * 10 + d ≤ 9223372036854775807 ∧ (most < 0 → n * 10 + d = 0 ∨ (n * 10 + d) % 10 ≠ 0) := by
  subst hq
  rcases Int.lt_or_le t 0 with h0 | h0
  · have : t.tdiv 10 ≤ 0 := by
      have h1 : t.tdiv 10 = -((-t).tdiv 10) := by rw [Int.neg_tdiv, Int.neg_neg]
      rw [h1, Int.tdiv_eq_ediv_of_nonneg (by omega)]
      omega
    have hn0 : n = 0 := by omega
    subst hn0
    exact ⟨by omega, fun _ => by omega⟩
  · rw [Int.tdiv_eq_ediv_of_nonneg h0] at h
    rcases Int.lt_or_le most 0 with hm | hm
    · have hd1 : t = most - d + 18446744073709551616 := by rw [ht] at h0 ⊢; unfold wrap64 at h0 ⊢; omega
      have hb : t ≤ 9223372036854775807 := by rw [ht]; unfold wrap64; omega
      have hn' := hn hm
      exact ⟨by omega, fun _ => by omega⟩
    · have hd1 : t = most - d := by rw [ht]; unfold wrap64; omega
      exact ⟨by omega, fun hh => by omega⟩

theorem not_empty {s : ByteArray} (h : 0 < s.size) : s.toList.isEmpty = false ∧ s ≠ ByteArray.empty := by
  constructor
  · rw [Go.ByteArray.toList_eq]
    rw [Lib.size_eq] at h
    cases hs : s.data.toList with
    | nil => rw [hs] at h; simp at h
    | cons a l => rfl
  · rintro rfl
    simp at h

theorem byte_48 {x : UInt8} (h : x ≠ 48) : ((x.toNat : Int) != 48) = true ∧ ((x.toNat : Int) == 48) = false := by
  have : (x.toNat : Int) ≠ 48 := by
    intro he
    exact h (UInt8.toNat_inj.1 (by show x.toNat = 48; omega))
  exact ⟨by simpa using this, by simpa using this⟩

theorem w64_bd (x : Int) : -9223372036854775808 ≤ wrap64 x ∧ wrap64 x ≤ 9223372036854775807 := by unfold wrap64; omega

theorem quo_small (t : Int) (h : -9223372036854775808 ≤ t ∧ t ≤ 9223372036854775807) : wrap64 (t.tdiv 10) = t.tdiv 10 := by
  rcases Int.lt_or_le t 0 with h0 | h0
  · have h1 : t.tdiv 10 = -((-t).tdiv 10) := by rw [Int.neg_tdiv, Int.neg_neg]
    rw [h1, Int.tdiv_eq_ediv_of_nonneg (by omega)]
    unfold wrap64
    omega
  · rw [Int.tdiv_eq_ediv_of_nonneg h0]
    unfold wrap64
    omega

theorem num_over {l : List UInt8} {pos n d : Nat} {x : UInt8} {most q : Int} (hx : l[pos]? = some x) (hd : x.toNat = d + 48) (hn : n = numV (l.take pos)) (hd9 : d ≤ 9) (hm2 : most ≤ 9223372036854775807)
    (hq : q = (wrap64 (most - (d : Int))).tdiv 10) (h : q < (n : Int)) : ¬ NumOk l most := by
  rintro ⟨_, _, hle⟩
  have h1 := numV_ge l (pos + 1)
  rw [numV_take hx, ← hn] at h1
  have h2 : numF n x = n * 10 + d := by unfold numF; rw [hd]; omega
  rw [h2] at h1
  rcases Int.lt_or_le most 0 with hm | hm
  · omega
  · have := num_break hm hm2 hd9 rfl hq h
    omega

/-- The first byte tells. -/
def okB (s : ByteArray) : Bool := decide (s.data.toList.length = 1 ∨ s.data.toList[0]? ≠ some 48)

set_option maxHeartbeats 2000000 in
set_option maxRecDepth 100000 in
theorem number_pos (s : ByteArray) (most : Int) (w : World) (hp : 0 < s.size) (hm1 : -9223372036854775808 ≤ most) (hm2 : most ≤ 9223372036854775807) :
    Calls Tryd.prog 35 #[.string s, .int .i64 most] w fun e w' =>
      ((NumOk s.data.toList most ∧ e = .returned (.tuple #[.int .i64 (numV s.data.toList), .bool true])) ∨ (¬ NumOk s.data.toList most ∧ e = .returned (.tuple #[.int .i64 0, .bool false]))) ∧ Below w.heap.size w w' := by
  obtain ⟨hem, hne⟩ := not_empty hp
  have hx0 : s.data.toList[0]? = some s[0] := by rw [List.getElem?_eq_getElem (by rw [← Lib.size_eq]; exact hp)]; rfl
  have HX0 := Lib.hid hx0
  clear hx0
  go_enter Tryd.func35, Tryd.ntmps35
  go_wp2
  go_step3
  go_upto_region 2 with (fail)
  go_cut [7] from 57 (fun v7 wx => v7 = .bool (okB s) ∧ w = wx)
  case first =>
    by_cases h : s.size = 1
    · go_wp2
      go_meet
      exact ⟨by rw [show okB s = true from by unfold okB; rw [← Lib.size_eq]; simp [h]], rfl⟩
    · by_cases h48 : s[0] = 48
      · go_wp2
        go_meet
        have h1 : ((s.size : Int) == 1) = false := by simp; omega
        have h2 : okB s = false := by
          unfold okB
          rw [HX0.out, ← Lib.size_eq]
          simp [h48, h]
        exact ⟨by rw [h1, h2], rfl⟩
      · obtain ⟨h481, h482⟩ := byte_48 h48
        go_wp2
        go_meet
        exact ⟨by rw [show okB s = true from by unfold okB; rw [HX0.out]; simp [h48]], rfl⟩
  case rest =>
    obtain ⟨rfl, rfl⟩ := hcut
    go_wp2
    go_step3
    go_upto_region 4 with (fail)
    cases hok : okB s with
    | false =>
      have hbad : ¬ NumOk s.data.toList most := fun h => by have h2 := of_decide_eq_false hok; exact h2 h.1.2
      have HB := Lib.hid hbad
      clear hbad
      go_loopg [6, 7] s.size (fun g v6 v7 wx => ∃ (pos : Nat) (x : Int), v6 = .int .i64 x ∧ v7 = .bool false ∧ wx.heap[w.heap.size]? = some (.stringIter s pos) ∧ Below w.heap.size w wx ∧ s.size ≤ pos + g)
      case atStart => exact ⟨0, 0, rfl, rfl, World.iter_heap w s 0, (Below.refl _ w).alloc (Nat.le_refl _) _, by omega⟩
      case round =>
        obtain ⟨pos, x, rfl, rfl, hit, hbw, hfu⟩ := hrel
        by_cases hps : pos < s.size
        · obtain ⟨g', rfl⟩ : ∃ g', gk = g' + 1 := ⟨gk - 1, by omega⟩
          have hnx : ∀ ty, (Instr.next (.pointer (some ⟨w.heap.size, 0, none⟩)) true ty).run Tryd.prog wr = _ := fun ty => Lib.run_next_any_at wr w.heap.size s pos ty hit hps
          have hmax := Lib.rune_le s pos
          have hwd := Lib.width_pos s pos
          obtain ⟨R, hR⟩ : ∃ R, (Utf8.decode s pos).1 = R := ⟨_, rfl⟩
          obtain ⟨K, hK⟩ : ∃ K, (Utf8.decode s pos).2 = K := ⟨_, rfl⟩
          rw [hR, hK] at hnx
          rw [hR] at hmax
          rw [hK] at hwd
          have hit2 := Lib.iterAt_heap wr w.heap.size s pos (pos + K) hit
          have hbw2 := Lib.below_iterAt hbw (k := w.heap.size) (Nat.le_refl _) s (pos + K)
          generalize wr.iterAt w.heap.size s (pos + K) = W at hnx hit2 hbw2
          have hsub : IntKind.i32.wrap ((R : Int) - 48) = (R : Int) - 48 := by rw [IntKind.wrap_i32]; omega
          clear hR hK hit hbw
          rcases Nat.lt_or_ge R 48 with hR | hR
          · go_wp2
            repeat rw [Exit.noGoto_ret]
            go_wp2
            go_ret2
            exact ⟨.inr ⟨HB.out, rfl⟩, hbw2⟩
          · rcases Nat.lt_or_ge R 58 with hR2 | hR2
            · obtain ⟨d, rfl⟩ : ∃ d, R = d + 48 := ⟨R - 48, by omega⟩
              have hsub2 : IntKind.i32.wrap (((d + 48 : Nat) : Int) - 48) = (d : Int) := by rw [IntKind.wrap_i32]; omega
              clear hsub
              by_cases hqn : wrap64 ((wrap64 (most - (d : Int))).tdiv 10) < x
              · go_wp2
                repeat rw [Exit.noGoto_ret]
                go_wp2
                go_ret2
                exact ⟨.inr ⟨HB.out, rfl⟩, hbw2⟩
              · go_wp2
                go_roundg g'
                case measure => omega
                case rel => exact ⟨pos + K, _, rfl, rfl, hit2, hbw2, by omega⟩
            · go_wp2
              repeat rw [Exit.noGoto_ret]
              go_wp2
              go_ret2
              exact ⟨.inr ⟨HB.out, rfl⟩, hbw2⟩
        · have hnx : ∀ ty, (Instr.next (.pointer (some ⟨w.heap.size, 0, none⟩)) true ty).run Tryd.prog wr = _ := fun ty => Lib.run_next_end_at wr w.heap.size s pos ty hit hps
          go_wp2
          repeat rw [Exit.noGoto_ret]
          go_wp2
          go_ret2
          exact ⟨.inr ⟨HB.out, rfl⟩, hbw⟩
    | true =>
      go_loopg [6, 7] s.size (fun g v6 v7 wx => ∃ pos n : Nat, v6 = .int .i64 n ∧ v7 = .bool true ∧ wx.heap[w.heap.size]? = some (.stringIter s pos) ∧ Below w.heap.size w wx ∧ s.size ≤ pos + g ∧ pos ≤ s.size ∧ n ≤ 9223372036854775807 ∧
        Hid (n = numV (s.data.toList.take pos)) ∧ Hid (∀ (i : Nat) c, i < pos → s.data.toList[i]? = some c → isD c) ∧ Hid (most < 0 → n = 0 ∨ n % 10 ≠ 0))
      case atStart => exact ⟨0, 0, rfl, rfl, World.iter_heap w s 0, (Below.refl _ w).alloc (Nat.le_refl _) _, by omega, Nat.zero_le _, by omega, Lib.hid rfl, Lib.hid (fun i c h => absurd h (by omega)), Lib.hid (fun _ => .inl rfl)⟩
      case round =>
        obtain ⟨pos, n, rfl, rfl, hit, hbw, hfu, hpos, hn, hnv, hdig, hneg⟩ := hrel
        by_cases hps : pos < s.size
        · obtain ⟨g', rfl⟩ : ∃ g', gk = g' + 1 := ⟨gk - 1, by omega⟩
          have hnx : ∀ ty, (Instr.next (.pointer (some ⟨w.heap.size, 0, none⟩)) true ty).run Tryd.prog wr = _ := fun ty => Lib.run_next_any_at wr w.heap.size s pos ty hit hps
          have hmax := Lib.rune_le s pos
          obtain ⟨x, hx⟩ : ∃ x, s.data.toList[pos]? = some x := ⟨_, List.getElem?_eq_getElem (by rw [← Lib.size_eq]; exact hps)⟩
          have hxD : s.data.toList.getD pos 0 = x := by rw [List.getD_eq_getElem?_getD, hx]; rfl
          have HX := Lib.hid hx
          by_cases hd : 48 ≤ x.toNat ∧ x.toNat ≤ 57
          · have hdec := decode_low s pos (by rw [hxD]; omega)
            rw [hxD] at hdec
            rw [hdec] at hnx
            obtain ⟨d, hd48⟩ : ∃ d : Nat, x.toNat = d + 48 := ⟨x.toNat - 48, by omega⟩
            have hd9 : d ≤ 9 := by omega
            have HD48 := Lib.hid hd48
            rw [hd48] at hnx
            have hit2 := Lib.iterAt_heap wr w.heap.size s pos (pos + 1) hit
            have hbw2 := Lib.below_iterAt hbw (k := w.heap.size) (Nat.le_refl _) s (pos + 1)
            simp only at hnx
            generalize wr.iterAt w.heap.size s (pos + 1) = W at hnx hit2 hbw2
            have hsub : IntKind.i32.wrap (((d + 48 : Nat) : Int) - 48) = (d : Int) := by rw [IntKind.wrap_i32]; omega
            clear hx hxD hdec hmax hit hbw hd48 hd
            obtain ⟨q, hq⟩ : ∃ q, wrap64 ((wrap64 (most - (d : Int))).tdiv 10) = q := ⟨_, rfl⟩
            have hq2 : q = (wrap64 (most - (d : Int))).tdiv 10 := by rw [← hq]; exact quo_small _ (w64_bd _)
            have HQ2 := Lib.hid hq2
            clear hq2
            by_cases hqn : q < (n : Int)
            · go_wp2
              repeat rw [Exit.noGoto_ret]
              go_wp2
              go_ret2
              exact ⟨.inr ⟨num_over HX.out HD48.out hnv.out hd9 hm2 HQ2.out hqn, rfl⟩, hbw2⟩
            · obtain ⟨m1, m2⟩ := num_on hm1 hm2 hd9 rfl HQ2.out hqn hneg.out
              have M2 := Lib.hid m2
              clear m2
              go_wp2
              go_roundg g'
              case measure => omega
              case rel => exact ⟨pos + 1, n * 10 + d, by simp, rfl, hit2, hbw2, by omega, hps, m1,
                Lib.hid (by rw [numV_take HX.out, ← hnv.out]; unfold numF; rw [HD48.out]; omega),
                Lib.hid (fun i c hi hc => by
                  by_cases hip : i = pos
                  · subst hip
                    rw [HX.out] at hc
                    cases hc
                    have := HD48.out
                    unfold isD
                    omega
                  · exact hdig.out i c (by omega) hc), M2⟩
          · have hbad : ¬ NumOk s.data.toList most := fun h => hd (h.2.1 pos x HX.out)
            have HB := Lib.hid hbad
            have hrune : (Utf8.decode s pos).1 < 48 ∨ 57 < (Utf8.decode s pos).1 := by
              by_cases h128 : x.toNat < 128
              · rw [decode_low s pos (by rw [hxD]; exact h128), hxD]
                simp only
                omega
              · have := (decode_high s pos (by rw [hxD]; omega)).1
                omega
            obtain ⟨R, hR⟩ : ∃ R, (Utf8.decode s pos).1 = R := ⟨_, rfl⟩
            obtain ⟨K, hK⟩ : ∃ K, (Utf8.decode s pos).2 = K := ⟨_, rfl⟩
            rw [hR, hK] at hnx
            rw [hR] at hmax hrune
            have hit2 := Lib.iterAt_heap wr w.heap.size s pos (pos + K) hit
            have hbw2 := Lib.below_iterAt hbw (k := w.heap.size) (Nat.le_refl _) s (pos + K)
            generalize wr.iterAt w.heap.size s (pos + K) = W at hnx hit2 hbw2
            have hsub : IntKind.i32.wrap ((R : Int) - 48) = (R : Int) - 48 := by rw [IntKind.wrap_i32]; omega
            clear hx hxD hit hbw hd hbad hR hK
            rcases hrune with hR | hR
            · go_wp2
              repeat rw [Exit.noGoto_ret]
              go_wp2
              go_ret2
              exact ⟨.inr ⟨HB.out, rfl⟩, hbw2⟩
            · go_wp2
              repeat rw [Exit.noGoto_ret]
              go_wp2
              go_ret2
              exact ⟨.inr ⟨HB.out, rfl⟩, hbw2⟩
        · obtain rfl : pos = s.size := by omega
          have hnx : ∀ ty, (Instr.next (.pointer (some ⟨w.heap.size, 0, none⟩)) true ty).run Tryd.prog wr = _ := fun ty => Lib.run_next_end_at wr w.heap.size s s.size ty hit hps
          have hall : n = numV s.data.toList := by rw [hnv.out, Lib.size_eq, List.take_length]
          have HA := Lib.hid hall
          have HOK : Hid (NumOk s.data.toList most ↔ (numV s.data.toList : Int) ≤ most) := Lib.hid ⟨fun h => h.2.2, fun h => ⟨⟨fun e => by rw [Lib.size_eq, e] at hp; simp at hp, of_decide_eq_true hok⟩, fun i c hc => hdig.out i c (by rw [Lib.size_eq]; exact (List.getElem?_eq_some_iff.1 hc).1) hc, h⟩⟩
          clear hall
          by_cases hmn : most < (n : Int)
          · go_wp2
            repeat rw [Exit.noGoto_ret]
            go_wp2
            go_ret2
            exact ⟨.inr ⟨fun h => by have := HOK.out.1 h; rw [← HA.out] at this; omega, rfl⟩, hbw⟩
          · go_wp2
            repeat rw [Exit.noGoto_ret]
            go_wp2
            go_ret2
            exact ⟨.inl ⟨HOK.out.2 (by rw [← HA.out]; omega), by rw [← HA.out]; rfl⟩, hbw⟩

set_option maxHeartbeats 1000000 in
set_option maxRecDepth 100000 in
theorem number_none (most : Int) (w : World) :
    Calls Tryd.prog 35 #[.string ByteArray.empty, .int .i64 most] w fun e w' => e = .returned (.tuple #[.int .i64 0, .bool false]) ∧ Below w.heap.size w w' := by
  go_enter Tryd.func35, Tryd.ntmps35
  go_wp2
  go_step3
  go_wp2
  go_step3
  go_upto_region 4 with (fail)
  go_loopg [6, 7] 0 (fun _ v6 v7 wx => v6 = .int .i64 0 ∧ v7 = .bool false ∧ wx.heap[w.heap.size]? = some (.stringIter ByteArray.empty 0) ∧ Below w.heap.size w wx)
  case atStart => exact ⟨rfl, rfl, World.iter_heap w _ 0, (Below.refl _ w).alloc (Nat.le_refl _) _⟩
  case round =>
    obtain ⟨rfl, rfl, hit, hbw⟩ := hrel
    have hnx : ∀ ty, (Instr.next (.pointer (some ⟨w.heap.size, 0, none⟩)) true ty).run Tryd.prog wr = _ := fun ty => Lib.run_next_end_at wr w.heap.size ByteArray.empty 0 ty hit (by decide)
    go_wp2
    repeat rw [Exit.noGoto_ret]
    go_wp2
    go_ret2
    exact ⟨rfl, hbw⟩

theorem number_any (s : ByteArray) (most : Int) (w : World) (hm1 : -9223372036854775808 ≤ most) (hm2 : most ≤ 9223372036854775807) :
    Calls Tryd.prog 35 #[.string s, .int .i64 most] w fun e w' =>
      ((NumOk s.data.toList most ∧ e = .returned (.tuple #[.int .i64 (numV s.data.toList), .bool true])) ∨ (¬ NumOk s.data.toList most ∧ e = .returned (.tuple #[.int .i64 0, .bool false]))) ∧ Below w.heap.size w w' := by
  rcases Nat.eq_zero_or_pos s.size with h | h
  · have he : s.data.toList = [] := List.eq_nil_of_length_eq_zero (by rw [← Lib.size_eq]; exact h)
    have hs' : s = ByteArray.empty := by
      apply ByteArray.ext
      apply Array.toList_inj.1
      rw [he]; rfl
    rw [hs']
    exact (number_none most w).mono fun e w' ⟨h1, h2⟩ => ⟨.inr ⟨fun h => h.1.1 rfl, h1⟩, h2⟩
  · exact number_pos s most w h hm1 hm2

end Go.Proofs.YtnejkfccdnadcaaDoor
