/- LexParts: what the walk shows. -/
import Derived.Test.YtjmokodifkjfgaaDoorLexD
import Derived.Test.YtjmokodifkjfgaaDoorLexS
namespace Go.Proofs.YtjmokodifkjfgaaDoor
open Go.RowKit Go.Shelf Go.Lib

theorem scan_app (b : List UInt8) : ∀ (a : List UInt8) (q : Nat) (off : Bool) (cur : Option (Nat × List UInt8)) (i : Nat),
    scan q off cur i (a ++ 10 :: b) = scan q off cur i a ++ scan (q + 1 + a.count 10) false none (i + a.length + 1) b := by
  intro a
  induction a with
  | nil => intro q off cur i; simp [scan]
  | cons c l ih =>
    intro q off cur i
    have e1 : i + (c :: l).length + 1 = (i + 1) + l.length + 1 := by simp; omega
    rw [e1]
    simp only [List.cons_append, scan]
    by_cases hc : c = 10
    · rw [if_pos hc, if_pos hc, ih, ← List.append_assoc]
      have e2 : q + 1 + (c :: l).count 10 = q + 1 + 1 + l.count 10 := by rw [hc, List.count_cons_self]; omega
      rw [e2]
    · have e2 : (c :: l).count 10 = l.count 10 := List.count_cons_of_ne hc
      rw [if_neg hc, if_neg hc, e2]
      split
      · rw [ih, ← List.append_assoc]
      · split
        · rw [ih, ← List.append_assoc]
        · rw [ih]

def Wd.shift (d e : Nat) (x : Wd) : Wd := ⟨x.p + d, x.q + e, x.t⟩

def moved (d : Nat) : Option (Nat × List UInt8) → Option (Nat × List UInt8)
  | none => none
  | some (p, t) => some (p + d, t)

theorem emit_shift (q d e : Nat) (cur : Option (Nat × List UInt8)) : emit (q + e) (moved d cur) = (emit q cur).map (Wd.shift d e) := by
  cases cur with
  | none => rfl
  | some x => simp [emit, moved, Wd.shift]

theorem scan_shift (d e : Nat) : ∀ (b : List UInt8) (q : Nat) (off : Bool) (cur : Option (Nat × List UInt8)) (i : Nat),
    scan (q + e) off (moved d cur) (i + d) b = (scan q off cur i b).map (Wd.shift d e) := by
  intro b
  induction b with
  | nil => intro q off cur i; exact emit_shift q d e cur
  | cons c l ih =>
    intro q off cur i
    have e1 : i + d + 1 = i + 1 + d := by omega
    have e2 : q + e + 1 = q + 1 + e := by omega
    have e3 : grow (i + d) c (moved d cur) = moved d (grow i c cur) := by cases cur <;> rfl
    simp only [scan]
    rw [e1, e2, e3]
    have h0 := fun q off => ih q off none (i + 1)
    simp only [moved] at h0
    split
    · rw [List.map_append, emit_shift, h0]
    · split
      · rw [List.map_append, emit_shift, h0]
      · split
        · rw [List.map_append, emit_shift, h0]
        · rw [ih]

theorem text_parts (a b : ByteArray) : textW (a ++ ⟨#[10]⟩ ++ b) = textW a ++ (textW b).map (Wd.shift (a.size + 1) (1 + a.data.toList.count 10)) := by
  rw [textW_scan, textW_scan, textW_scan]
  have h : (a ++ ⟨#[10]⟩ ++ b).data.toList = a.data.toList ++ 10 :: b.data.toList := by simp
  rw [h, scan_app]
  have h2 := scan_shift (a.size + 1) (1 + a.data.toList.count 10) b.data.toList 1 false none 0
  simp only [moved] at h2
  rw [← h2, Lib.size_eq]
  congr 2 <;> omega

theorem WRow.left {w : World} {B : Nat} {A : Option Addr} {L M : List Wd} (h : WRow w B A (L ++ M)) : WRow w B A L := by
  intro hl
  obtain ⟨b, off, e, hlt, hc⟩ := h (by rw [List.length_append]; omega)
  refine ⟨b, off, e, hlt, fun i hi => ?_⟩
  have := hc i (by rw [List.length_append]; omega)
  simpa [List.getElem_append_left hi] using this

theorem count_step {a : ByteArray} {al : List UInt8} (hal : a.data.toList = al) {i : Nat} (h : i < a.size) : (al.take (i + 1)).count 10 = (al.take i).count 10 + (if a[i] = 10 then 1 else 0) := by
  subst hal
  have hi : i < a.data.toList.length := by rw [← Lib.size_eq]; exact h
  rw [List.take_succ_eq_append_getElem hi, List.count_append]
  have hx : a.data.toList[i] = a[i] := rfl
  rw [hx]
  split
  · rename_i h; rw [h]; rfl
  · rename_i h; rw [List.count_singleton]; simp [h]

theorem byte_ten {x : UInt8} : ((x.toNat : Int) == 10) = true ↔ x = 10 := by
  rw [beq_iff_eq]
  constructor
  · intro h
    have h2 : x.toNat = 10 := by omega
    exact UInt8.toNat_inj.1 h2
  · rintro rfl; rfl

theorem w64 (n : Int) (h : -9223372036854775808 ≤ n ∧ n ≤ 9223372036854775807) : wrap64 n = n := by unfold wrap64; omega

theorem emit_bd {q : Nat} {cur : Option (Nat × List UInt8)} {i : Nat} (h : ∀ p t, cur = some (p, t) → p ≤ i) : ∀ x ∈ emit q cur, (0 ≤ x.p ∧ x.p ≤ (i : Int)) ∧ x.q = (q : Int) := by
  intro x hx
  cases cur with
  | none => simp [emit] at hx
  | some y =>
    obtain ⟨p, t⟩ := y
    simp [emit] at hx
    subst hx
    have := h p t rfl
    exact ⟨⟨by simp, by simp; omega⟩, rfl⟩

theorem scan_bd : ∀ (l : List UInt8) (q : Nat) (off : Bool) (cur : Option (Nat × List UInt8)) (i : Nat), (∀ p t, cur = some (p, t) → p ≤ i) →
    ∀ x ∈ scan q off cur i l, (0 ≤ x.p ∧ x.p ≤ ((i + l.length : Nat) : Int)) ∧ ((q : Int) ≤ x.q ∧ x.q ≤ ((q + l.length : Nat) : Int)) := by
  intro l
  induction l with
  | nil =>
    intro q off cur i h x hx
    obtain ⟨h1, h2⟩ := emit_bd h x hx
    exact ⟨⟨h1.1, by simpa using h1.2⟩, by omega, by simp; omega⟩
  | cons c l ih =>
    intro q off cur i h x hx
    have hlen : (c :: l).length = l.length + 1 := rfl
    have hnone : ∀ (p : Nat) (t : List UInt8), (none : Option (Nat × List UInt8)) = some (p, t) → p ≤ i + 1 := fun _ _ h => by cases h
    have hem : x ∈ emit q cur → (0 ≤ x.p ∧ x.p ≤ ((i + (c :: l).length : Nat) : Int)) ∧ ((q : Int) ≤ x.q ∧ x.q ≤ ((q + (c :: l).length : Nat) : Int)) := by
      intro he
      obtain ⟨h1, h2⟩ := emit_bd h x he
      rw [hlen]
      exact ⟨⟨h1.1, by omega⟩, by omega, by omega⟩
    simp only [scan] at hx
    split at hx
    · rcases List.mem_append.1 hx with hx | hx
      · exact hem hx
      · obtain ⟨⟨a1, a2⟩, a3, a4⟩ := ih (q + 1) false none (i + 1) hnone x hx
        rw [hlen]
        exact ⟨⟨a1, by omega⟩, by omega, by omega⟩
    · split at hx
      · rcases List.mem_append.1 hx with hx | hx
        · exact hem hx
        · obtain ⟨⟨a1, a2⟩, a3, a4⟩ := ih q true none (i + 1) hnone x hx
          rw [hlen]
          exact ⟨⟨a1, by omega⟩, by omega, by omega⟩
      · split at hx
        · rcases List.mem_append.1 hx with hx | hx
          · exact hem hx
          · obtain ⟨⟨a1, a2⟩, a3, a4⟩ := ih q off none (i + 1) hnone x hx
            rw [hlen]
            exact ⟨⟨a1, by omega⟩, by omega, by omega⟩
        · have hg : ∀ p t, grow i c cur = some (p, t) → p ≤ i + 1 := by
            intro p t e
            cases cur with
            | none => simp [grow] at e; omega
            | some y =>
              obtain ⟨p', t'⟩ := y
              have := h p' t' rfl
              simp [grow] at e
              omega
          obtain ⟨⟨a1, a2⟩, a3, a4⟩ := ih q off _ (i + 1) hg x hx
          rw [hlen]
          exact ⟨⟨a1, by omega⟩, by omega, by omega⟩

theorem text_bd (s : ByteArray) : ∀ x ∈ textW s, (0 ≤ x.p ∧ x.p ≤ (s.size : Int)) ∧ (1 ≤ x.q ∧ x.q ≤ ((s.size + 1 : Nat) : Int)) := by
  intro x hx
  rw [textW_scan] at hx
  obtain ⟨⟨a1, a2⟩, a3, a4⟩ := scan_bd s.data.toList 1 false none 0 (fun _ _ h => by cases h) x hx
  rw [← Lib.size_eq] at a2 a4
  exact ⟨⟨a1, by omega⟩, by omega, by omega⟩

set_option maxHeartbeats 4000000 in
set_option maxRecDepth 100000 in
theorem lexParts_true (a0 b0 : ByteArray) (m : Int) (w : World) (hm : w.cell? ⟨1, 0, none⟩ = some (.int .i64 m)) :
    Calls Tryd.prog 4 #[.string a0, .string b0] w fun e w' => e = .returned (.bool true) ∧ Below w.heap.size w w' := by
  have hlt : 1 < w.heap.size := cell_lt hm
  go_enter Tryd.func4, Tryd.ntmps4
  go_upto_region 2 with (go_at_call 9; refine (awake_yes m w hm).mono ?_; rintro e w1 ⟨rfl, hb1⟩)
  go_upto_region 3 with (go_at_call 10; refine (short_any a0 60 (by decide) _).mono ?_; rintro e w' ⟨⟨a, rfl, ha⟩, rfl⟩)
  go_upto_region 4 with (go_at_call 10; refine (short_any b0 60 (by decide) _).mono ?_; rintro e w' ⟨⟨b, rfl, hb⟩, rfl⟩)
  have hm1 := (hb1.cell (p := ⟨1, 0, none⟩) hlt).trans hm
  go_upto_region 5 with (go_at_call 11; refine (lexWords_any a (by omega) m _ hm1).mono ?_; rintro e w2 ⟨v, rfl, hrow, hb2⟩; obtain ⟨A1, c1, rfl, hcap1, _, hr1⟩ := wrow_own hrow)
  have hm2 := (hb2.cell (p := ⟨1, 0, none⟩) (cell_lt hm1)).trans hm1
  clear hrow
  go_upto_region 6 with (go_at_call 11; refine (lexWords_any b (by omega) m _ hm2).mono ?_; rintro e w3 ⟨v, rfl, hrow, hb3⟩; obtain ⟨A2, c2, rfl, hcap2, _, hr2⟩ := wrow_own hrow)
  have hm3 := (hb3.cell (p := ⟨1, 0, none⟩) (cell_lt hm2)).trans hm2
  clear hrow
  have hz := lexWords_any (a ++ ⟨#[10]⟩ ++ b) (by have : (ByteArray.mk #[10]).size = 1 := rfl; simp only [ByteArray.size_append]; omega) m w3 hm3
  rw [text_parts] at hz
  have hz' := Lib.hid hz
  clear hz
  go_upto_region 7 with (go_at_call 11; refine hz'.out.mono ?_; rintro e w4 ⟨v, rfl, hrow, hb4⟩; obtain ⟨A3, c3, rfl, hcap3, _, hr3⟩ := wrow_own hrow)
  have hbel : Below w.heap.size w w4 := hb1.trans ((hb2.trans ((hb3.trans (hb4.mono hb3.size)).mono hb2.size)).mono hb1.size)
  have hl1 := textW_len a
  have hl2 := textW_len b
  have hbd := text_bd b
  obtain ⟨LX, hLX⟩ : ∃ LX, textW a = LX := ⟨_, rfl⟩
  obtain ⟨LY, hLY⟩ : ∃ LY, textW b = LY := ⟨_, rfl⟩
  obtain ⟨N, hN⟩ : ∃ N, 1 + a.data.toList.count 10 = N := ⟨_, rfl⟩
  rw [hLX] at hr1 hr3 hcap1 hcap3 hl1 ⊢
  rw [hLY] at hr2 hr3 hcap2 hcap3 hl2 hbd ⊢
  rw [hN] at hr3 hcap3
  have hr1' : WRow w4 w4.heap.size A1 LX := (hr1.below (hb3.trans (hb4.mono hb3.size)) (Nat.le_refl _)).more (Nat.le_trans hb3.size hb4.size)
  have hr2' : WRow w4 w4.heap.size A2 LY := (hr2.below hb4 (Nat.le_refl _)).more hb4.size
  have HN := Lib.hid hN
  clear hLX hLY hr1 hr2 hb1 hb2 hb3 hb4 hm1 hm2 hm3 hz' hrow hm hN
  obtain ⟨nx, hnx⟩ : ∃ nx, nx = LX.length := ⟨_, rfl⟩
  obtain ⟨ny, hny⟩ : ∃ ny, ny = LY.length := ⟨_, rfl⟩
  rw [List.length_append, List.length_map] at hcap3
  rw [← hnx] at hl1 hcap1 hcap3 ⊢
  rw [← hny] at hl2 hcap2 hcap3 ⊢
  have HX := Lib.hid hnx
  have HY := Lib.hid hny
  have HR1 := Lib.hid hr1'
  have HR2 := Lib.hid hr2'
  have HR3 := Lib.hid hr3
  clear hnx hny hr1' hr2' hr3
  go_upto_region 13 with (fail)
  obtain ⟨al, hal⟩ : ∃ al, a.data.toList = al := ⟨_, rfl⟩
  have has : a.size = al.length := by rw [← hal, Lib.size_eq]
  have hN2 : Hid (1 + al.count 10 = N) := Lib.hid (by rw [← hal]; exact HN.out)
  clear HN
  go_loop [9, 10] (fun v9 v10 => ∃ i k : Nat, v10 = .int .i64 i ∧ v9 = .int .i64 k ∧ i ≤ a.size ∧ k ≤ i + 1 ∧ Hid (1 + (al.take i).count 10 = k)) (fun _ v10 => a.size - (RowKit.intOf v10).toNat)
  case atStart => exact ⟨0, 1, rfl, rfl, Nat.zero_le _, by omega, Lib.hid (by simp)⟩
  case round =>
    obtain ⟨i, k, rfl, rfl, hi, hk, hcount⟩ := hrel
    by_cases hia : i < a.size
    · have hstep := Lib.hid (count_step hal hia)
      go_wp2
      · have hx : ((a[i].toNat : Int) == 10) = true := by assumption
        go_round
        case rel => exact ⟨i + 1, k + 1, by simp, by simp, hia, by omega, Lib.hid (by rw [hstep.out, if_pos (byte_ten.1 hx), ← hcount.out]; omega)⟩
        case measure => simp [RowKit.intOf]; omega
      · have hx : ((a[i].toNat : Int) == 10) = false := by assumption
        go_round
        case rel => exact ⟨i + 1, k, by simp, rfl, hia, by omega, Lib.hid (by rw [hstep.out, if_neg (fun h => by rw [byte_ten.2 h] at hx; cases hx), ← hcount.out]; omega)⟩
        case measure => simp [RowKit.intOf]; omega
    · obtain rfl : i = a.size := by omega
      have hkN : k = N := by
        have h1 := hcount.out
        rw [has, List.take_length] at h1
        rw [← h1, hN2.out]
      subst hkN
      clear hcount
      go_wp2
      go_loopw [11] (fun v11 wr => ∃ i : Nat, v11 = .int .i64 i ∧ i ≤ ny ∧ Below w4.heap.size w4 wr) (fun v11 _ => ny - (RowKit.intOf v11).toNat)
      case atStart => exact ⟨0, rfl, Nat.zero_le _, Below.refl _ _⟩
      case round =>
        obtain ⟨i, rfl, hi2, hbr⟩ := hrel
        by_cases hin : i < ny
        · have hiy : i < LY.length := by rw [← HY.out]; exact hin
          have hiz : nx + i < (LX ++ LY.map (Wd.shift (a.size + 1) k)).length := by rw [List.length_append, List.length_map, ← HX.out]; omega
          obtain ⟨b2, o2, rfl, hlt2, hc2⟩ := HR2.out (by omega)
          obtain ⟨b3, o3, rfl, hlt3, hc3⟩ := HR3.out (by omega)
          obtain ⟨d0, d1, d2⟩ := hc2 i hiy
          obtain ⟨e0, e1, e2⟩ := hc3 (nx + i) hiz
          have hz : (LX ++ LY.map (Wd.shift (a.size + 1) k))[nx + i] = LY[i].shift (a.size + 1) k := by
            rw [List.getElem_append_right (by rw [← HX.out]; omega)]
            simp [← HX.out]
          rw [hz] at e0 e1 e2
          dsimp only [Wd.shift] at e0 e1 e2
          obtain ⟨⟨g1, g2⟩, g3, g4⟩ := hbd LY[i] (List.getElem_mem hiy)
          replace d0 := (hbr.cell (p := ⟨b2, _, none⟩) hlt2).trans d0
          replace d1 := (hbr.cell (p := ⟨b2, _, none⟩) hlt2).trans d1
          replace d2 := (hbr.cell (p := ⟨b2, _, none⟩) hlt2).trans d2
          replace e0 := (hbr.cell (p := ⟨b3, _, none⟩) hlt3).trans e0
          replace e1 := (hbr.cell (p := ⟨b3, _, none⟩) hlt3).trans e1
          replace e2 := (hbr.cell (p := ⟨b3, _, none⟩) hlt3).trans e2
          generalize LY[i].p = xp at *
          generalize LY[i].q = xq at *
          generalize LY[i].t = xt at *
          clear hc2 hc3 hz
          have f0 : xp + ((a.size + 1 : Nat) : Int) = wrap64 (wrap64 (xp + (al.length : Int)) + 1) := by
            rw [w64 (xp + (al.length : Int)) (by omega), w64 _ (by omega)]
            omega
          have f1 : xq + (k : Int) = wrap64 (xq + (k : Int)) := by rw [w64 _ (by omega)]
          rw [f0] at e0
          rw [f1] at e1
          clear f0 f1 g1 g2 g3 g4
          go_upto_region 21 with (fail)
          obtain ⟨y0, hy0⟩ : ∃ y0, wrap64 (wrap64 (xp + (al.length : Int)) + 1) = y0 := ⟨_, rfl⟩
          obtain ⟨y1, hy1⟩ : ∃ y1, wrap64 (xq + (k : Int)) = y1 := ⟨_, rfl⟩
          rw [hy0] at e0 ⊢
          rw [hy1] at e1 ⊢
          have hnew := heap_alloc_new wr (.cells #[.int .i64 y0, .int .i64 y1, .string xt] 27)
          have hbw := (Below.refl wr.heap.size wr).alloc (Nat.le_refl _) (.cells #[.int .i64 y0, .int .i64 y1, .string xt] 27)
          have hlt3' := Nat.lt_of_lt_of_le hlt3 hbr.size
          replace e0 := (hbw.cell (p := ⟨b3, _, none⟩) hlt3').trans e0
          replace e1 := (hbw.cell (p := ⟨b3, _, none⟩) hlt3').trans e1
          replace e2 := (hbw.cell (p := ⟨b3, _, none⟩) hlt3').trans e2
          generalize wr.alloc (.cells #[.int .i64 y0, .int .i64 y1, .string xt] 27) = W1 at *
          have z0 : W1.cell? ⟨wr.heap.size, 0, none⟩ = some (.int .i64 y0) := by simp [World.cell?, hnew]
          have z1 : W1.cell? ⟨wr.heap.size, 1, none⟩ = some (.int .i64 y1) := by simp [World.cell?, hnew]
          have z2 : W1.cell? ⟨wr.heap.size, 2, none⟩ = some (.string xt) := by simp [World.cell?, hnew]
          clear hy0 hy1 d0 d1 d2 hnew
          go_quiet (fail)
          go_wp2
          go_roundw
          case rel => exact ⟨i + 1, by simp, hin, below_drewN (hbr.trans (hbw.mono hbr.size)) _⟩
          case measure => simp [RowKit.intOf]; omega
        · obtain rfl : i = ny := by omega
          have hx1 : WRow wr wr.heap.size A1 LX := (HR1.out.below hbr (Nat.le_refl _)).more hbr.size
          have hx3 : WRow wr wr.heap.size A3 LX := (HR3.out.left.below hbr (Nat.le_refl _)).more hbr.size
          have hsame := same_yes A3 A1 c3 c1 LX wr (by rw [← HX.out]; omega) hx3 hx1
          rw [← HX.out] at hsame
          have hsame' := Lib.hid hsame
          clear hsame hx1 hx3
          go_wp2_with (go_at_call 12; refine hsame'.out.mono ?_; rintro e w7 ⟨rfl, hb7⟩)
          go_ret
          exact ⟨rfl, hbel.trans ((hbr.trans (hb7.mono hbr.size)).mono hbel.size)⟩

end Go.Proofs.YtjmokodifkjfgaaDoor
