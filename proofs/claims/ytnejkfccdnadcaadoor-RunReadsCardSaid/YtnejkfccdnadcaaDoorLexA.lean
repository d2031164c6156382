/- strings.IndexRune, strings.IndexAny at a blank and a tab, every string. -/
import Derived.Test.YtnejkfccdnadcaaDoorWords
import Derived.Test.YtnejkfccdnadcaaDoorShelf
import Derived.Lib.SpaceUEq
import Derived.Lib.OthersKept
import Derived.Lib.TrimU
import Derived.Lib.TrimUEq
import Derived.Lib.MapLaws
import Derived.Lib.QuoteLoop
import Derived.Deep.LoopGhost
import Derived.Deep.QuietTactic
import Derived.BigQuiet
namespace Go.Proofs.YtnejkfccdnadcaaDoor
open Go.RowKit Go.Shelf Go.Lib

/-- A blank and a tab. -/
def wsB : ByteArray := ⟨#[32, 9]⟩

theorem decode_low (s : ByteArray) (pos : Nat) (h : (s.data.toList.getD pos 0).toNat < 128) : Utf8.decode s pos = ((s.data.toList.getD pos 0).toNat, 1) := by
  rw [decode_N]
  unfold decodeN
  rw [if_pos h]

theorem decode_high (s : ByteArray) (pos : Nat) (h : 128 ≤ (s.data.toList.getD pos 0).toNat) :
    128 ≤ (Utf8.decode s pos).1 ∧ ∀ j, j < (Utf8.decode s pos).2 → 128 ≤ (s.data.toList.getD (pos + j) 0).toNat := by
  rw [decode_N]
  rcases decodeN_shape (s.data.toList.length - pos) (s.data.toList.getD pos 0).toNat (s.data.toList.getD (pos + 1) 0).toNat (s.data.toList.getD (pos + 2) 0).toNat (s.data.toList.getD (pos + 3) 0).toNat with
    ⟨h1, _⟩ | ⟨h1, h2, h3, h4, e⟩ | ⟨h1, h2, h3, h4, h5, _, e⟩ | ⟨h1, h2, h3, h4, h5, h6, _, e⟩ | e
  · omega
  · rw [e]
    refine ⟨h4, fun j hj => ?_⟩
    have : j = 0 ∨ j = 1 := by simp at hj; omega
    rcases this with rfl | rfl
    · exact h
    · omega
  · rw [e]
    refine ⟨by simp only; omega, fun j hj => ?_⟩
    have : j = 0 ∨ j = 1 ∨ j = 2 := by simp at hj; omega
    rcases this with rfl | rfl | rfl
    · exact h
    · omega
    · omega
  · rw [e]
    refine ⟨by simp only; omega, fun j hj => ?_⟩
    have : j = 0 ∨ j = 1 ∨ j = 2 ∨ j = 3 := by simp at hj; omega
    rcases this with rfl | rfl | rfl | rfl
    · exact h
    · omega
    · omega
    · omega
  · rw [e]
    refine ⟨by decide, fun j hj => ?_⟩
    have : j = 0 := by simp at hj; omega
    subst this
    exact h

set_option maxHeartbeats 1000000 in
set_option maxRecDepth 100000 in
theorem indexRune_err (w : World) : Calls Tryd.prog 54 #[.string wsB, .int .i32 65533] w fun e w' => e = .returned (.int .i64 (-1)) ∧ Below w.heap.size w w' := by
  unfold wsB
  go_enter Tryd.func54, Tryd.ntmps54
  go_wp2
  go_loopg [5, 6] 2 (fun g _ _ wx => ∃ i : Nat, i + g = 2 ∧ wx = w.iter ⟨#[32, 9]⟩ i)
  case atStart => exact ⟨0, by omega, rfl⟩
  case round =>
    obtain ⟨i, hig, rfl⟩ := hrel
    have hcase : i = 0 ∨ i = 1 ∨ i = 2 := by omega
    rcases hcase with rfl | rfl | rfl
    · have hnx := fun ty => run_next_ascii (P := Tryd.prog) w ⟨#[32, 9]⟩ 0 ty (by decide) (by decide)
      have hx : (ByteArray.mk #[32, 9])[0]'(by decide) = 32 := rfl
      rw [hx] at hnx
      obtain ⟨g', rfl⟩ : ∃ g', gk = g' + 1 := ⟨gk - 1, by omega⟩
      go_wp2
      go_roundg g'
      case measure => omega
      case rel => exact ⟨1, by omega, rfl⟩
    · have hnx := fun ty => run_next_ascii (P := Tryd.prog) w ⟨#[32, 9]⟩ 1 ty (by decide) (by decide)
      have hx : (ByteArray.mk #[32, 9])[1]'(by decide) = 9 := rfl
      rw [hx] at hnx
      obtain ⟨g', rfl⟩ : ∃ g', gk = g' + 1 := ⟨gk - 1, by omega⟩
      go_wp2
      go_roundg g'
      case measure => omega
      case rel => exact ⟨2, by omega, rfl⟩
    · have hnx := run_next_end (P := Tryd.prog) w ⟨#[32, 9]⟩ 2
      go_wp2
      go_ret
      exact ⟨rfl, (Below.refl _ _).alloc (Nat.le_refl _) _⟩

theorem encode_two {R : Int} (h0 : 128 ≤ R) (h1 : R < 2048) : ∃ a b : UInt8, Utf8.encode R = ⟨#[a, b]⟩ ∧ 128 ≤ b.toNat := by
  have hv : Utf8.valid R = true := by unfold Utf8.valid; simp; omega
  unfold Utf8.encode
  simp only [hv, if_true]
  rw [if_neg (by omega), if_pos (by omega)]
  refine ⟨_, _, rfl, ?_⟩
  rw [UInt8.toNat_ofNat']
  omega

theorem encode_more {R : Int} (h0 : 2048 ≤ R) (h1 : R ≤ 1114111) : 3 ≤ (Utf8.encode R).size ∧ (Utf8.encode R).size ≤ 4 := by
  unfold Utf8.encode
  have hc : 2048 ≤ (if Utf8.valid R = true then R.toNat else Utf8.runeError) := by
    split
    · omega
    · decide
  simp only
  generalize (if Utf8.valid R = true then R.toNat else Utf8.runeError) = c at hc
  rw [if_neg (by omega), if_neg (by omega)]
  split
  · exact ⟨Nat.le_refl 3, Nat.le_succ 3⟩
  · exact ⟨Nat.le_succ 3, Nat.le_refl 4⟩

theorem validRune_yes (R : Int) (w : World) (hv : Lib.validRune R = true) : Calls Tryd.prog 69 #[.int .i32 R] w fun e w' => e = .returned (.bool true) ∧ w = w' :=
  (Tryd.utf8_ValidRune R w).mono fun e w' ⟨he, hw⟩ => ⟨by rw [he, hv], hw.symm⟩

set_option maxHeartbeats 1000000 in
set_option maxRecDepth 100000 in
theorem indexRune_more (R : Int) (w : World) (h0 : 2048 ≤ R) (h1 : R ≤ 1114111) (hne : R ≠ 65533) (hv : Lib.validRune R = true) :
    Calls Tryd.prog 54 #[.string wsB, .int .i32 R] w fun e w' => e = .returned (.int .i64 (-1)) ∧ Below w.heap.size w w' := by
  unfold wsB
  have hb : (R == 65533) = false := by simpa using hne
  obtain ⟨e0, e1⟩ := encode_more h0 h1
  obtain ⟨E, hE⟩ : ∃ E, Utf8.encode R = E := ⟨_, rfl⟩
  rw [hE] at e0 e1
  clear hne
  go_enter Tryd.func54, Tryd.ntmps54
  go_wp2_with (go_at_call 69; refine (validRune_yes _ _ hv).mono ?_; rintro e w' ⟨rfl, rfl⟩)
  go_step3
  go_wp2_with (go_at_call 69; refine (validRune_yes _ _ hv).mono ?_; rintro e w' ⟨rfl, rfl⟩)
  refine wp_loop_rounds 1 ?_
  rw [rounds_succ]
  go_wp2
  try rw [Exit.noGoto_ret]
  go_ret
  exact ⟨rfl, Below.refl _ _⟩

theorem quiet_left {P : Program} {f : FuncId} {args : Array Value} {w : World} {n : Nat} {v : Value} (h : Calls P f args (w.drewN n) fun e w' => e = .returned v ∧ w.drewN n = w') :
    Calls P f args (w.drewN n) fun e w'' => e = .returned v ∧ ∃ m, w'' = w.drewN m :=
  h.mono fun _ _ ⟨he, hm⟩ => ⟨he, n, hm.symm⟩
theorem quiet_add_left {P : Program} {f : FuncId} {args : Array Value} {w : World} {a n : Nat} {v : Value}
    (h : Calls P f args (w.drewN (a + n)) fun e w' => e = .returned v ∧ w.drewN (a + n) = w') :
    Calls P f args (w.drewN (a + n)) fun e w'' => e = .returned v ∧ ∃ m, w'' = w.drewN (a + m) :=
  h.mono fun _ _ ⟨he, hm⟩ => ⟨he, n, hm.symm⟩

theorem indexByte_none (s : ByteArray) (c : Int) (w : World) (h : s.data.toList = []) : Calls Tryd.prog 68 #[.string s, .int .u8 c] w fun e w' => e = .returned (.int .i64 (-1)) ∧ w = w' :=
  (Tryd.strings_IndexByte s c w).mono fun e w' ⟨he, hw⟩ => ⟨by rw [he, h]; rfl, hw.symm⟩

set_option maxHeartbeats 1000000 in
set_option maxRecDepth 100000 in
theorem indexRune_two (R : Int) (w : World) (h0 : 128 ≤ R) (h1 : R < 2048) (hv : Lib.validRune R = true) :
    Calls Tryd.prog 54 #[.string wsB, .int .i32 R] w fun e w' => e = .returned (.int .i64 (-1)) ∧ Below w.heap.size w w' := by
  unfold wsB
  have hb : (R == 65533) = false := by simp; omega
  obtain ⟨a, b, hE, hb8⟩ := encode_two h0 h1
  have hb1 : ((9 : Int) == (b.toNat : Int)) = false := by simp; omega
  have hb2 : ((9 : Int) != (b.toNat : Int)) = true := by simp; omega
  go_enter Tryd.func54, Tryd.ntmps54
  go_wp2_with (go_at_call 69; refine (validRune_yes _ _ hv).mono ?_; rintro e w' ⟨rfl, rfl⟩)
  go_step3
  go_wp2_with (go_at_call 69; refine (validRune_yes _ _ hv).mono ?_; rintro e w' ⟨rfl, rfl⟩)
  refine wp_loop_rounds 1 ?_
  rw [rounds_succ]
  go_wp2
  go_step3
  go_wp2
  go_quiet (fail)
  go_wp2
  · go_quiet ((go_at_call 68; exact quiet_add_left (indexByte_none _ _ _ rfl)))
    go_wp2
    repeat rw [Exit.noGoto_ret]
    go_wp2
    repeat rw [Exit.noGoto_ret]
    go_ret
    exact ⟨rfl, below_drewN (Below.refl _ _) _⟩
  · have hz : ((9 : Int) != (b.toNat : Int)) = false := by assumption
    rw [hb2] at hz
    cases hz

theorem valid_rune (s : ByteArray) (pos : Nat) : Lib.validRune ((Utf8.decode s pos).1 : Int) = true := by
  have h := decodeN_valid (s.size - pos) (s.get! pos).toNat (s.get! (pos + 1)).toNat (s.get! (pos + 2)).toNat (s.get! (pos + 3)).toNat (UInt8.toNat_lt _)
  rw [← decode_at] at h
  unfold Lib.validRune
  simp
  omega

theorem indexRune_any (R : Nat) (w : World) (h0 : 128 ≤ R) (h1 : R ≤ 1114111) (hv : R = 65533 ∨ Lib.validRune (R : Int) = true) :
    Calls Tryd.prog 54 #[.string wsB, .int .i32 R] w fun e w' => e = .returned (.int .i64 (-1)) ∧ Below w.heap.size w w' := by
  by_cases he : R = 65533
  · subst he; exact indexRune_err w
  · rcases hv with hv | hv
    · exact absurd hv he
    · rcases Nat.lt_or_ge R 2048 with h2 | h2
      · exact indexRune_two R w (by omega) (by omega) hv
      · exact indexRune_more R w (by omega) (by omega) (by omega) hv

/-- None of the bytes of a rune above ASCII is a blank or a tab. -/
theorem noAny_high {s : ByteArray} {pos : Nat} (h : NoAny s.data.toList [32, 9] pos) (hp : 128 ≤ (s.data.toList.getD pos 0).toNat) :
    NoAny s.data.toList [32, 9] (pos + (Utf8.decode s pos).2) := by
  intro j b hj hb
  rcases Nat.lt_or_ge j pos with h1 | h1
  · exact h j b h1 hb
  · have := (decode_high s pos hp).2 (j - pos) (by omega)
    rw [show pos + (j - pos) = j by omega, List.getD_eq_getElem?_getD, hb] at this
    simp at this
    simp only [List.contains_cons, List.contains_nil, Bool.or_false, Bool.or_eq_false_iff, beq_eq_false_iff_ne]
    constructor
    · rintro rfl; revert this; decide
    · rintro rfl; revert this; decide

set_option maxHeartbeats 1000000 in
set_option maxRecDepth 100000 in
theorem indexAny_short (s : ByteArray) (w : World) (h8 : s.size ≤ 8) :
    Calls Tryd.prog 45 #[.string s, .string wsB] w fun e w' => e = .returned (.int .i64 (Lib.indexAny s.data.toList [32, 9])) ∧ Below w.heap.size w w' := by
  have hrune : Hid (∀ (R : Nat) (W : World), 128 ≤ R → R ≤ 1114111 → (R = 65533 ∨ Lib.validRune (R : Int) = true) → Calls Tryd.prog 54 #[.string wsB, .int .i32 R] W fun e w' => e = .returned (.int .i64 (-1)) ∧ Below W.heap.size W w') := Lib.hid fun R W a b c => indexRune_any R W a b c
  have hlow : Hid (∀ (r : Int) (W : World), 0 ≤ r → r < 128 → Calls Tryd.prog 54 #[.string wsB, .int .i32 r] W fun e w' => e = .returned (.int .i64 (Lib.indexByte [32, 9] r.toNat.toUInt8)) ∧ W = w') :=
    Lib.hid fun r W a b => (Tryd.strings_IndexRune_ascii wsB r W a b).mono fun e w' ⟨he, hw⟩ => ⟨he, hw.symm⟩
  unfold wsB at hrune hlow ⊢
  go_enter Tryd.func45, Tryd.ntmps45
  go_wp2_with (go_at_call 55; refine (Tryd.strings_shouldUseASCIISet _ _).mono ?_; rintro e w' ⟨rfl, hw⟩; rw [hw])
  go_loopg [9, 10] s.size (fun g _ _ wx => ∃ pos : Nat, wx.heap[w.heap.size]? = some (.stringIter s pos) ∧ Below w.heap.size w wx ∧ NoAny s.data.toList [32, 9] pos ∧ s.size ≤ pos + g)
  case atStart => exact ⟨0, World.iter_heap w s 0, (Below.refl _ w).alloc (Nat.le_refl _) _, NoAny.zero _ _, by omega⟩
  case round =>
    obtain ⟨pos, hit, hbw, hno, hfu⟩ := hrel
    have HN := Lib.hid hno
    clear hno
    by_cases hps : pos < s.size
    · obtain ⟨g', rfl⟩ : ∃ g', gk = g' + 1 := ⟨gk - 1, by omega⟩
      have hnx : ∀ ty, (Instr.next (.pointer (some ⟨w.heap.size, 0, none⟩)) true ty).run Tryd.prog wr = _ := fun ty => Lib.run_next_any_at wr w.heap.size s pos ty hit hps
      have hwd := Lib.width_pos s pos
      have hmax := Lib.rune_le s pos
      have hval := valid_rune s pos
      by_cases hhi : 128 ≤ (s.data.toList.getD pos 0).toNat
      · have hR0 := (decode_high s pos hhi).1
        have hnext := Lib.hid (noAny_high HN.out hhi)
        obtain ⟨R, hR⟩ : ∃ R, (Utf8.decode s pos).1 = R := ⟨_, rfl⟩
        obtain ⟨K, hK⟩ : ∃ K, (Utf8.decode s pos).2 = K := ⟨_, rfl⟩
        rw [hR, hK] at hnx
        rw [hR] at hR0 hmax hval
        rw [hK] at hwd hnext
        clear hR hK
        have hit2 := Lib.iterAt_heap wr w.heap.size s pos (pos + K) hit
        have hbw2 := Lib.below_iterAt hbw (k := w.heap.size) (Nat.le_refl _) s (pos + K)
        obtain ⟨W, hWd⟩ : ∃ W, wr.iterAt w.heap.size s (pos + K) = W := ⟨_, rfl⟩
        rw [hWd] at hnx hit2 hbw2
        have hc := Lib.hid (hrune.out R W hR0 hmax (.inr hval))
        clear hhi hval
        go_wp2_with (go_at_call 54; refine hc.out.mono ?_; rintro e W' ⟨rfl, hb3⟩)
        go_roundg g'
        case measure => omega
        case rel => exact ⟨pos + K, (hb3.block _ (lt_of_block hit2)).trans hit2, hbw2.trans (hb3.mono hbw2.size), hnext.out, by omega⟩
      · have hd := decode_low s pos (by omega)
        obtain ⟨x, hx⟩ : ∃ x, s.data.toList.getD pos 0 = x := ⟨_, rfl⟩
        have hxl : s.data.toList[pos]? = some x := by
          rw [List.getD_eq_getElem?_getD] at hx
          rw [Lib.size_eq] at hps
          rw [List.getElem?_eq_getElem hps] at hx ⊢
          simpa using hx
        have hx128 : x.toNat < 128 := by rw [hx] at hhi; omega
        rw [hx] at hd
        rw [hd] at hnx
        have hit2 := Lib.iterAt_heap wr w.heap.size s pos (pos + 1) hit
        have hbw2 := Lib.below_iterAt hbw (k := w.heap.size) (Nat.le_refl _) s (pos + 1)
        obtain ⟨W, hWd⟩ : ∃ W, wr.iterAt w.heap.size s (pos + 1) = W := ⟨_, rfl⟩
        simp only at hnx
        rw [hWd] at hnx hit2 hbw2
        have hc := hlow.out (x.toNat : Int) W (by omega) (by omega)
        have hback : ((x.toNat : Int)).toNat.toUInt8 = x := by simp
        rw [hback] at hc
        have hcon := Lib.contains_iff_indexByte [32, 9] x
        have HX := Lib.hid hxl
        clear hx hxl hd hhi hwd hmax hval hback hWd
        cases hin : ([32, 9] : List UInt8).contains x
        · rw [hin] at hcon
          have hlt : ¬ ((0 : Int) ≤ Lib.indexByte [32, 9] x) := of_decide_eq_false hcon.symm
          have hnext := Lib.hid (HN.out.succ HX.out hin)
          generalize Lib.indexByte [32, 9] x = I at hc hlt
          have hC := Lib.hid hc
          clear hcon hc hin
          go_wp2_with (go_at_call 54; refine hC.out.mono ?_; rintro e W' ⟨rfl, rfl⟩)
          go_roundg g'
          case measure => omega
          case rel => exact ⟨pos + 1, hit2, hbw2, hnext.out, by omega⟩
        · rw [hin] at hcon
          have hge : (0 : Int) ≤ Lib.indexByte [32, 9] x := of_decide_eq_true hcon.symm
          have hit' := Lib.hid (indexAny_hit HN.out HX.out hin)
          generalize Lib.indexByte [32, 9] x = I at hc hge
          have hC := Lib.hid hc
          clear hcon hc hin
          go_wp2_with (go_at_call 54; refine hC.out.mono ?_; rintro e W' ⟨rfl, rfl⟩)
          go_ret
          exact ⟨by rw [hit'.out]; rfl, hbw2⟩
    · have hnx : ∀ ty, (Instr.next (.pointer (some ⟨w.heap.size, 0, none⟩)) true ty).run Tryd.prog wr = _ := fun ty => Lib.run_next_end_at wr w.heap.size s pos ty hit hps
      have hend := Lib.hid (indexAny_none (s := s.data.toList) (chars := [32, 9]) (fun j b hj hb => HN.out j b (by rw [Lib.size_eq] at hps; omega) hb))
      go_wp2
      go_ret
      exact ⟨by rw [hend.out]; rfl, hbw⟩

end Go.Proofs.YtnejkfccdnadcaaDoor
