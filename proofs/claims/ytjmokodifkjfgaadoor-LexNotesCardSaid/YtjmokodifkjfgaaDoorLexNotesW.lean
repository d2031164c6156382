/- LexNotes: what the walk shows. -/
import Derived.Test.YtjmokodifkjfgaaDoorLexNp
namespace Go.Proofs.YtjmokodifkjfgaaDoor
open Go.RowKit Go.Shelf Go.Lib

set_option maxHeartbeats 1000000 in
theorem line_any (s : ByteArray) (w : World) (hs : s.size ≤ 1000000) :
    Calls Tryd.prog 16 #[.string s] w fun e w' => (∃ t : ByteArray, e = .returned (.string t) ∧ t.size ≤ s.size ∧ (10 : UInt8) ∉ t.data.toList) ∧ w = w' := by
  go_enter Tryd.func16, Tryd.ntmps16
  go_wp2
  go_loopw [3] (fun v3 wr => ∃ i : Nat, v3 = .int .i64 i ∧ i ≤ s.size ∧ Hid (∀ (j : Nat), j < i → s.data.toList[j]? ≠ some 10) ∧ w = wr) (fun v3 _ => s.size - (RowKit.intOf v3).toNat)
  case atStart => exact ⟨0, rfl, Nat.zero_le _, Lib.hid (fun j h => absurd h (by omega)), rfl⟩
  case round =>
    obtain ⟨i, rfl, hi, hno, rfl⟩ := hrel
    by_cases his : i < s.size
    · have hget : s.data.toList[i]? = some s[i] := by rw [List.getElem?_eq_getElem (by rw [← Lib.size_eq]; exact his)]; rfl
      have HG := Lib.hid hget
      clear hget
      by_cases h10 : s[i] = 10
      · have h101 : ((s[i].toNat : Int) == 10) = true := by rw [h10]; rfl
        have HT : Hid ((s.extract 0 i).size ≤ s.size ∧ (10 : UInt8) ∉ (s.extract 0 i).data.toList) := Lib.hid ⟨by simp; omega, fun hm => by
          obtain ⟨j, hj, he⟩ := List.mem_iff_getElem.1 hm
          have hj2 : j < i := by simp at hj; omega
          refine hno.out j hj2 ?_
          have h1 : (s.extract 0 i).data.toList[j]? = some 10 := by rw [List.getElem?_eq_getElem hj, he]
          rw [ByteArray.data_extract, Array.toList_extract, List.extract_eq_take_drop, List.getElem?_take, if_pos (by omega)] at h1
          simpa using h1⟩
        go_wp2
        go_ret
        exact ⟨⟨_, rfl, HT.out.1, HT.out.2⟩, rfl⟩
      · have h101 : ((s[i].toNat : Int) == 10) = false := by
          have : (s[i].toNat : Int) ≠ 10 := fun he => h10 (UInt8.toNat_inj.1 (by show s[i].toNat = 10; omega))
          simpa using this
        go_wp2
        go_roundw
        case rel => exact ⟨i + 1, by simp, his, Lib.hid (fun j hj => by
          by_cases hji : j = i
          · subst hji
            rw [HG.out]
            exact fun e => h10 (Option.some.inj e)
          · exact hno.out j (by omega)), trivial⟩
        case measure => simp [RowKit.intOf]; omega
    · obtain rfl : i = s.size := by omega
      have HT : Hid ((10 : UInt8) ∉ s.data.toList) := Lib.hid (fun hm => by
        obtain ⟨j, hj, he⟩ := List.mem_iff_getElem.1 hm
        exact hno.out j (by rw [Lib.size_eq]; exact hj) (by rw [List.getElem?_eq_getElem hj, he]))
      go_wp2
      go_ret
      exact ⟨⟨_, rfl, Nat.le_refl _, HT.out⟩, rfl⟩

theorem note_one (x y : ByteArray) (hy : (10 : UInt8) ∉ y.data.toList) : textW (x ++ ⟨#[35]⟩ ++ y) = textW (x ++ ⟨#[35]⟩) := by
  rw [textW_scan, textW_scan]
  have e1 : (x ++ ⟨#[35]⟩ ++ y).data.toList = x.data.toList ++ 35 :: y.data.toList := by simp
  have e2 : (x ++ ⟨#[35]⟩).data.toList = x.data.toList ++ [35] := by simp
  rw [e1, e2]
  exact scan_note _ _ _ _ _ _ hy

theorem note_two (x y : ByteArray) (hy : (10 : UInt8) ∉ y.data.toList) : textW (x ++ ⟨#[32, 9, 35]⟩ ++ y) = textW x := by
  rw [textW_scan, textW_scan]
  have e1 : (x ++ ⟨#[32, 9, 35]⟩ ++ y).data.toList = x.data.toList ++ 32 :: 9 :: 35 :: y.data.toList := by simp
  rw [e1]
  exact scan_blank_note _ _ _ _ _ _ hy

theorem text_b : textW ⟨#[98]⟩ = [⟨0, 1, ⟨#[98]⟩⟩] := by kernel_rfl

theorem note_lines (x y : ByteArray) (hx : (10 : UInt8) ∉ x.data.toList) (hy : (10 : UInt8) ∉ y.data.toList) :
    ∃ (G : List (List Wd)) (p : Int), lns (textW (x ++ ⟨#[35]⟩ ++ y ++ ⟨#[10, 98]⟩)) = G ++ [[⟨p, 2, ⟨#[98]⟩⟩]] := by
  have e : x ++ ⟨#[35]⟩ ++ y ++ ⟨#[10, 98]⟩ = (x ++ ⟨#[35]⟩ ++ y) ++ ⟨#[10]⟩ ++ ⟨#[98]⟩ := by
    apply ByteArray.ext
    apply Array.toList_inj.1
    simp
  have hl : (x ++ ⟨#[35]⟩ ++ y).data.toList = x.data.toList ++ 35 :: y.data.toList := by simp
  rw [e, text_parts, text_b]
  generalize x ++ ⟨#[35]⟩ ++ y = Z at hl ⊢
  have hno : (10 : UInt8) ∉ Z.data.toList := by
    rw [hl]
    intro h
    rcases List.mem_append.1 h with h | h
    · exact hx h
    · rcases List.mem_cons.1 h with h | h
      · cases h
      · exact hy h
  have hc : Z.data.toList.count 10 = 0 := List.count_eq_zero.2 hno
  have e3 : List.map (Wd.shift (Z.size + 1) (1 + 0)) [⟨0, 1, ⟨#[98]⟩⟩] = [⟨((Z.size + 1 : Nat) : Int), 2, ⟨#[98]⟩⟩] := by simp [Wd.shift]
  rw [hc, e3]
  refine ⟨lns (textW Z), _, lns_other fun z hz => ?_⟩
  rw [textW_scan] at hz
  have := scan_line _ _ _ _ _ hno z hz
  show z.q ≠ 2
  omega

theorem words_row (s : ByteArray) (hs : s.size ≤ 65536) (m : Int) (w : World) (hm : w.cell? ⟨1, 0, none⟩ = some (.int .i64 m)) :
    Calls Tryd.prog 11 #[.string s] w fun e w' => (∃ A cap, e = .returned (.slice A (textW s).length cap) ∧ WRow w' w'.heap.size A (textW s)) ∧ Below w.heap.size w w' :=
  (lexWords_any s hs m w hm).mono fun e w' ⟨v, he, hr, hb⟩ => by
    obtain ⟨A, cap, rfl, _, _, h⟩ := wrow_own hr
    exact ⟨⟨A, cap, he, h⟩, hb⟩

set_option maxHeartbeats 4000000 in
set_option maxRecDepth 100000 in
theorem lexNotes_true (a0 b0 : ByteArray) (m : Int) (w : World) (hm : w.cell? ⟨1, 0, none⟩ = some (.int .i64 m)) :
    Calls Tryd.prog 6 #[.string a0, .string b0] w fun e w' => e = .returned (.bool true) ∧ Below w.heap.size w w' := by
  have hlt : 1 < w.heap.size := cell_lt hm
  go_enter Tryd.func6, Tryd.ntmps6
  go_upto_region 3 with (first
    | (go_at_call 9; refine (awake_yes m w hm).mono ?_; rintro e w1 ⟨rfl, hb1⟩)
    | (go_at_call 10; refine (short_any a0 40 (by decide) _).mono ?_; rintro e wx ⟨⟨a1, rfl, ha1⟩, rfl⟩)
    | (go_at_call 16; refine (line_any a1 _ (by omega)).mono ?_; rintro e wx ⟨⟨x, rfl, hx1, hx2⟩, rfl⟩))
  have hm1 := (hb1.cell (p := ⟨1, 0, none⟩) hlt).trans hm
  go_upto_region 4 with (first
    | (go_at_call 10; refine (short_any b0 40 (by decide) _).mono ?_; rintro e wx ⟨⟨b1, rfl, hb2⟩, rfl⟩)
    | (go_at_call 16; refine (line_any b1 _ (by omega)).mono ?_; rintro e wx ⟨⟨y, rfl, hy1, hy2⟩, rfl⟩))
  have hxs : x.size ≤ 40 := by omega
  have hys : y.size ≤ 40 := by omega
  clear hx1 hy1 ha1 hb2
  have z1 : (ByteArray.mk #[35]).size = 1 := rfl
  have z3 : (ByteArray.mk #[32, 9, 35]).size = 3 := rfl
  have z2 : (ByteArray.mk #[10, 98]).size = 2 := rfl
  have h1 := fun W h => words_row (x ++ ⟨#[35]⟩ ++ y) (by simp; omega) m W h
  have h2 := fun W h => words_row (x ++ ⟨#[35]⟩) (by simp; omega) m W h
  have h3 := fun W h => words_row (x ++ ⟨#[32, 9, 35]⟩ ++ y) (by simp; omega) m W h
  have h4 := fun W h => words_row x (by omega) m W h
  have h5 := fun W h => lexLines_any (x ++ ⟨#[35]⟩ ++ y ++ ⟨#[10, 98]⟩) (by simp; omega) m W h
  rw [note_one x y hy2] at h1
  rw [note_two x y hy2] at h3
  obtain ⟨G, p, hG⟩ := note_lines x y hx2 hy2
  rw [hG, show (G ++ [[(⟨p, 2, ⟨#[98]⟩⟩ : Wd)]]).length = G.length + 1 from by simp] at h5
  have t1 := textW_len (x ++ ⟨#[35]⟩)
  have t2 := textW_len x
  simp at t1
  rw [z1] at t1
  generalize textW (x ++ ⟨#[35]⟩) = T1 at h1 h2 t1
  generalize textW x = T2 at h3 h4 t2
  have hGl : G.length ≤ 200 := by
    have e1 := congrArg List.length hG
    have e3 := lns_len (textW (x ++ ⟨#[35]⟩ ++ y ++ ⟨#[10, 98]⟩))
    have e4 := textW_len (x ++ ⟨#[35]⟩ ++ y ++ ⟨#[10, 98]⟩)
    simp at e1 e4
    omega
  clear hG z1 z2 z3
  have H1 := Lib.hid h1
  have H2 := Lib.hid h2
  have H3 := Lib.hid h3
  have H4 := Lib.hid h4
  have H5 := Lib.hid h5
  clear h1 h2 h3 h4 h5
  go_upto_region 7 with (first
    | (go_at_call 11; refine (H1.out _ hm1).mono ?_; rintro e w2 ⟨⟨A2, c2, rfl, r2⟩, hb2⟩; have hm2 := cell_kept hm1 hb2; clear hm1)
    | (go_at_call 11; refine (H2.out _ hm2).mono ?_; rintro e w3 ⟨⟨A3, c3, rfl, r3⟩, hb3⟩; have hm3 := cell_kept hm2 hb3; have r2' := (r2.below hb3 (Nat.le_refl _)).more hb3.size; clear hm2)
    | (go_at_call 12; refine (same_yes A2 A3 c2 c3 T1 w3 (by omega) r2' r3).mono ?_; rintro e w4 ⟨rfl, hb4⟩; have hm4 := cell_kept hm3 hb4; clear hm3 r2')
    | (go_at_call 11; refine (H3.out _ hm4).mono ?_; rintro e w5 ⟨⟨A5, c5, rfl, r5⟩, hb5⟩; have hm5 := cell_kept hm4 hb5; clear hm4)
    | (go_at_call 11; refine (H4.out _ hm5).mono ?_; rintro e w6 ⟨⟨A6, c6, rfl, r6⟩, hb6⟩; have hm6 := cell_kept hm5 hb6; have r5' := (r5.below hb6 (Nat.le_refl _)).more hb6.size; clear hm5)
    | (go_at_call 12; refine (same_yes A5 A6 c5 c6 T2 w6 (by omega) r5' r6).mono ?_; rintro e w7 ⟨rfl, hb7⟩; have hm7 := cell_kept hm6 hb7; clear hm6 r5')
    | (go_at_call 13; refine (H5.out _ hm7).mono ?_; rintro e w8 ⟨⟨A8, c8, rfl, r8⟩, hb8⟩))
  obtain ⟨b, off, rfl, _, hc⟩ := r8 (by simp)
  obtain ⟨Ai, ci, e1, e2⟩ := hc G.length (by simp)
  have hget : (G ++ [[(⟨p, 2, ⟨#[98]⟩⟩ : Wd)]])[G.length]'(by simp) = [⟨p, 2, ⟨#[98]⟩⟩] := by simp
  rw [hget] at e1 e2
  obtain ⟨bi, oi, rfl, _, f⟩ := e2 (by simp)
  obtain ⟨_, f1, f2⟩ := f 0 (by simp)
  simp only [List.length_singleton, List.getElem_cons_zero, Nat.zero_mul, Nat.add_zero] at e1 f1 f2
  obtain ⟨k, hk⟩ : ∃ k, G.length = k := ⟨_, rfl⟩
  rw [hk] at e1 hGl ⊢
  have hk1 : IntKind.i64.wrap (k : Int) = (k : Int) := by rw [IntKind.wrap_i64]; omega
  have hk2 : (k : Int) < (k : Int) + 1 := by omega
  have hk3 : (0 : Int) < (k : Int) + 1 := by omega
  clear H1 H2 H3 H4 H5 hget hc r8 r2 r3 r5 r6 hk f e2
  have hbz := hb1.trans ((hb2.trans ((hb3.trans ((hb4.trans ((hb5.trans ((hb6.trans ((hb7.trans (hb8.mono hb7.size)).mono hb6.size)).mono hb5.size)).mono hb4.size)).mono hb3.size)).mono hb2.size)).mono hb1.size)
  go_wp2
  go_ret
  exact ⟨rfl, hbz⟩

end Go.Proofs.YtjmokodifkjfgaaDoor
