/- The document's Words: byte by byte. (Printed by wip/gen_refwords.py.) -/
import Derived.Test.YtnejkfccdnadcaaDoorLexNp
namespace Go.Proofs.YtnejkfccdnadcaaDoor
open Go.RowKit Go.Shelf Go.Lib

/-- At byte i: pre are read; the word under way is cur. -/
def SAt (all : List Wd) (l : List UInt8) (i q : Nat) (off : Bool) (cur : Option (Nat × List UInt8)) (pre : List Wd) : Prop :=
  (i ≤ l.length ∧ all = pre ++ scan q off cur i (l.drop i) ∧ ∀ p t, cur = some (p, t) → p < i ∧ t = (l.drop p).take (i - p)) ∨ (i = l.length + 1 ∧ all = pre)

section
variable {all : List Wd} {l : List UInt8} {i q : Nat} {off : Bool} {cur : Option (Nat × List UInt8)} {pre : List Wd} {c : UInt8}

theorem drop_at (h : l[i]? = some c) : l.drop i = c :: l.drop (i + 1) := by
  obtain ⟨hl, he⟩ := List.getElem?_eq_some_iff.1 h
  rw [List.drop_eq_getElem_cons hl, he]

theorem sat_end (h : SAt all l i q off cur pre) (hi : i = l.length) : SAt all l (i + 1) (q + 1) false none (pre ++ emit q cur) := by
  rcases h with ⟨_, h, _⟩ | ⟨h, _⟩
  · refine .inr ⟨by omega, ?_⟩
    rw [h, List.drop_eq_nil_of_le (by omega)]
    rfl
  · omega

theorem sat_nl (h : SAt all l i q off cur pre) (hc : l[i]? = some 10) : SAt all l (i + 1) (q + 1) false none (pre ++ emit q cur) := by
  have hl := (List.getElem?_eq_some_iff.1 hc).1
  rcases h with ⟨_, h, _⟩ | ⟨h, _⟩
  · refine .inl ⟨hl, ?_, fun _ _ e => by cases e⟩
    rw [h, drop_at hc]
    simp [scan]
  · omega

theorem sat_off (h : SAt all l i q off cur pre) (hc : l[i]? = some c) (h10 : c ≠ 10) (ho : (off || c == 35) = true) : SAt all l (i + 1) q true none (pre ++ emit q cur) := by
  have hl := (List.getElem?_eq_some_iff.1 hc).1
  rcases h with ⟨_, h, _⟩ | ⟨h, _⟩
  · refine .inl ⟨hl, ?_, fun _ _ e => by cases e⟩
    rw [h, drop_at hc, scan, if_neg h10, if_pos ho]
    simp
  · omega

theorem sat_ws (h : SAt all l i q false cur pre) (hc : l[i]? = some c) (h10 : c ≠ 10) (h35 : c ≠ 35) (hw : ws c = true) : SAt all l (i + 1) q false none (pre ++ emit q cur) := by
  have hl := (List.getElem?_eq_some_iff.1 hc).1
  rcases h with ⟨_, h, _⟩ | ⟨h, _⟩
  · refine .inl ⟨hl, ?_, fun _ _ e => by cases e⟩
    rw [h, drop_at hc, scan, if_neg h10, if_neg (by simp [h35]), if_pos hw]
    simp
  · omega

theorem take_grow {p : Nat} (hc : l[i]? = some c) (hp : p < i) : (l.drop p).take (i - p) ++ [c] = (l.drop p).take (i + 1 - p) := by
  have hl := (List.getElem?_eq_some_iff.1 hc).1
  rw [show i + 1 - p = (i - p) + 1 from by omega, List.take_add_one]
  rw [List.getElem?_drop, show p + (i - p) = i from by omega, hc]
  rfl

theorem sat_grow (h : SAt all l i q false cur pre) (hc : l[i]? = some c) (h10 : c ≠ 10) (h35 : c ≠ 35) (hw : ws c = false) : SAt all l (i + 1) q false (grow i c cur) pre := by
  have hl := (List.getElem?_eq_some_iff.1 hc).1
  rcases h with ⟨_, h, h3⟩ | ⟨h, _⟩
  · refine .inl ⟨hl, ?_, ?_⟩
    · rw [h, drop_at hc, scan, if_neg h10, if_neg (by simp [h35]), if_neg (by simp [hw])]
    · intro p t e
      cases cur with
      | none =>
        simp [grow] at e
        obtain ⟨rfl, rfl⟩ := e
        refine ⟨Nat.lt_succ_self _, ?_⟩
        rw [drop_at hc, show i + 1 - i = 1 from by omega]
        rfl
      | some x =>
        obtain ⟨p0, t0⟩ := x
        simp [grow] at e
        obtain ⟨rfl, rfl⟩ := e
        obtain ⟨h4, h5⟩ := h3 p0 t0 rfl
        refine ⟨by omega, ?_⟩
        rw [h5, take_grow hc h4]
  · omega

theorem sat_len (h : SAt all l i q off cur pre) : pre.length ≤ all.length := by
  rcases h with ⟨_, h, _⟩ | ⟨_, h⟩
  · rw [h, List.length_append]; omega
  · rw [h]; exact Nat.le_refl _

theorem sat_text {s : ByteArray} {p : Nat} {t : List UInt8} (h : SAt all s.data.toList i q off (some (p, t)) pre) (hi : i ≤ s.size) : p < i ∧ s.extract p i = ⟨t.toArray⟩ := by
  rcases h with ⟨_, _, h3⟩ | ⟨h, _⟩
  · obtain ⟨h4, h5⟩ := h3 p t rfl
    refine ⟨h4, ?_⟩
    apply ByteArray.ext
    apply Array.toList_inj.1
    rw [h5, ByteArray.data_extract, Array.toList_extract, List.extract_eq_take_drop]
  · rw [← Lib.size_eq] at h; omega
end

theorem byte_is {x : UInt8} {n : Nat} (h : x.toNat = n) : ((x.toNat : Int) == (n : Int)) = true := by simp [h]
theorem byte_not {x : UInt8} {n : Nat} (h : x.toNat ≠ n) : ((x.toNat : Int) == (n : Int)) = false := by simp; omega

set_option maxHeartbeats 8000000 in
set_option maxRecDepth 100000 in
theorem refWords_any (s : ByteArray) (hs : s.size ≤ 65536) (w : World) :
    Calls Tryd.prog 36 #[.string s] w fun e w' => (∃ A cap, e = .returned (.slice A (textW s).length cap) ∧ WRow w' w'.heap.size A (textW s)) ∧ Below w.heap.size w w' := by
  obtain ⟨i0, hi0, hz0, hz1, hz2⟩ := info_parts infoW
  have HS : Hid (SAt (textW s) s.data.toList 0 1 false none []) := Lib.hid (.inl ⟨Nat.zero_le _, by rw [textW_scan]; rfl, fun _ _ e => by cases e⟩)
  have hN := textW_len s
  generalize textW s = all at *
  go_enter Tryd.func36, Tryd.ntmps36
  go_wp2
  obtain ⟨B, hB⟩ : ∃ B, w.heap.size = B := ⟨_, rfl⟩
  go_loopw [3, 4, 5, 6, 7] (fun v3 v4 v5 v6 v7 wr => ∃ (i q : Nat) (off : Bool) (cur : Option (Nat × List UInt8)) (pre : List Wd), v4 = .int .i64 q ∧ ((cur = none ∧ v5 = .int .i64 (-1)) ∨ ∃ (p : Nat) (t : List UInt8), cur = some (p, t) ∧ v5 = .int .i64 p) ∧ v6 = .bool off ∧ v7 = .int .i64 i ∧
      i ≤ s.size + 1 ∧ q ≤ i + 1 ∧ Hid (SAt all s.data.toList i q off cur pre) ∧ wr.ownsRow B 77 3 v3 pre.length (pre.flatMap Wd.cells) ∧ Below B w wr) (fun _ _ _ _ v7 _ => s.size + 1 - (RowKit.intOf v7).toNat)
  case atStart => exact ⟨0, 1, false, none, [], rfl, .inl ⟨rfl, rfl⟩, rfl, rfl, Nat.zero_le _, Nat.le_refl _, HS, World.ownsRow_nil _ _ _ _, Below.refl _ _⟩
  case round =>
    obtain ⟨i, q, off, cur, pre, rfl, hcur, rfl, rfl, hi, hq, hsat, hrow, hbw⟩ := hrel
    have hBw : B ≤ wr.heap.size := by rw [← hB]; exact hbw.size
    have hpl : pre.length ≤ 65537 := by have := sat_len hsat.out; omega
    by_cases his : i ≤ s.size
    · by_cases hie : i = s.size
      · have hil : (i : Int) = (s.size : Int) := by omega
        have hlq : IntKind.i64.wrap ((q : Int) + 1) = ((q : Int) + 1) := by rw [IntKind.wrap_i64]; omega
        have hsat2 := Lib.hid (sat_end hsat.out (by rw [← Lib.size_eq]; exact hie))
        subst hie
        have HN := Lib.hid (hsat2.out)
        rcases hcur with ⟨rfl, rfl⟩ | ⟨p, t, rfl, rfl⟩
        · go_wp2
          go_roundw
          case rel => exact ⟨s.size + 1, q + 1, false, none, pre, by simp, .inl ⟨rfl, rfl⟩, rfl, by simp, by omega, by omega, Lib.hid (by have h9 := HN.out; simpa [emit] using h9), hrow, hbw⟩
          case measure => simp [RowKit.intOf] <;> omega
        · obtain ⟨hpi, htx⟩ := sat_text hsat.out (by omega)
          obtain ⟨T, hT⟩ : ∃ T, s.extract p s.size = T := ⟨_, rfl⟩
          have HT := Lib.hid (htx.symm.trans hT)
          clear htx
          go_wp2_with (at_builtin; refine wpList_append_own _ rfl _ _ 73 rfl B 77 i0 _ 3 32 Tryd.underlying73 hi0 hz0 hz1 hz2 rfl (by decide) _ _ _ rfl (hrow.alloc _) ⟨wr.heap.size, 0, none⟩ 1 1 [.int .i64 p, .int .i64 q, .string T] rfl rfl (three_new _ _ _ _ _) (by simp [Value.oneCell']) (by unfold maxLen; omega) (by omega) (by simp; omega) ?_; intro v' w1 hown' hgrow _)
          have hb1 : Below B w w1 := (hbw.alloc hBw _).grown hgrow (by simp; omega) (fun k e => (hrow.lt k e).1)
          go_roundw
          case rel => exact ⟨s.size + 1, q + 1, false, none, pre ++ emit q (some (p, t)), by simp, .inl ⟨rfl, rfl⟩, rfl, by simp, by omega, by omega, HN, by simpa [emit, HT.out, Wd.cells] using hown', hb1⟩
          case measure => simp [RowKit.intOf] <;> omega
      · have hil : i < s.size := by omega
        have hget : s.data.toList[i]? = some s[i] := by rw [List.getElem?_eq_getElem (by rw [← Lib.size_eq]; exact hil)]; rfl
        have HG := Lib.hid hget
        have hne : (((i : Int)) == (s.size : Int)) = false := by simp; omega
        clear hget
        by_cases h10 : s[i].toNat = 10
        · have b10 : ((s[i].toNat : Int) == 10) = true := byte_is h10
          have h10' : s[i] = 10 := UInt8.toNat_inj.1 h10
          have hlq : IntKind.i64.wrap ((q : Int) + 1) = ((q : Int) + 1) := by rw [IntKind.wrap_i64]; omega
          have hsat2 := Lib.hid (sat_nl hsat.out (by rw [HG.out, h10']))
          clear h10' h10
          have HN := Lib.hid (hsat2.out)
          rcases hcur with ⟨rfl, rfl⟩ | ⟨p, t, rfl, rfl⟩
          · go_wp2
            go_roundw
            case rel => exact ⟨i + 1, q + 1, false, none, pre, by simp, .inl ⟨rfl, rfl⟩, rfl, by simp, by omega, by omega, Lib.hid (by have h9 := HN.out; simpa [emit] using h9), hrow, hbw⟩
            case measure => simp [RowKit.intOf] <;> omega
          · obtain ⟨hpi, htx⟩ := sat_text hsat.out (by omega)
            obtain ⟨T, hT⟩ : ∃ T, s.extract p i = T := ⟨_, rfl⟩
            have HT := Lib.hid (htx.symm.trans hT)
            clear htx
            go_wp2_with (at_builtin; refine wpList_append_own _ rfl _ _ 73 rfl B 77 i0 _ 3 32 Tryd.underlying73 hi0 hz0 hz1 hz2 rfl (by decide) _ _ _ rfl (hrow.alloc _) ⟨wr.heap.size, 0, none⟩ 1 1 [.int .i64 p, .int .i64 q, .string T] rfl rfl (three_new _ _ _ _ _) (by simp [Value.oneCell']) (by unfold maxLen; omega) (by omega) (by simp; omega) ?_; intro v' w1 hown' hgrow _)
            have hb1 : Below B w w1 := (hbw.alloc hBw _).grown hgrow (by simp; omega) (fun k e => (hrow.lt k e).1)
            go_roundw
            case rel => exact ⟨i + 1, q + 1, false, none, pre ++ emit q (some (p, t)), by simp, .inl ⟨rfl, rfl⟩, rfl, by simp, by omega, by omega, HN, by simpa [emit, HT.out, Wd.cells] using hown', hb1⟩
            case measure => simp [RowKit.intOf] <;> omega
        · have b10 : ((s[i].toNat : Int) == 10) = false := byte_not h10
          have h10' : s[i] ≠ 10 := fun e => h10 (by rw [e]; rfl)
          by_cases h35 : s[i].toNat = 35
          · have b35 : ((s[i].toNat : Int) == 35) = true := byte_is h35
            have h35' : s[i] = 35 := UInt8.toNat_inj.1 h35
            have hsat2 := Lib.hid (sat_off hsat.out HG.out h10' (by rw [h35']; simp))
            clear h10' h10 h35' h35
            have HN := Lib.hid (hsat2.out)
            rcases hcur with ⟨rfl, rfl⟩ | ⟨p, t, rfl, rfl⟩
            · go_wp2
              go_roundw
              case rel => exact ⟨i + 1, q, true, none, pre, by simp, .inl ⟨rfl, rfl⟩, rfl, by simp, by omega, by omega, Lib.hid (by have h9 := HN.out; simpa [emit] using h9), hrow, hbw⟩
              case measure => simp [RowKit.intOf] <;> omega
            · obtain ⟨hpi, htx⟩ := sat_text hsat.out (by omega)
              obtain ⟨T, hT⟩ : ∃ T, s.extract p i = T := ⟨_, rfl⟩
              have HT := Lib.hid (htx.symm.trans hT)
              clear htx
              go_wp2_with (at_builtin; refine wpList_append_own _ rfl _ _ 73 rfl B 77 i0 _ 3 32 Tryd.underlying73 hi0 hz0 hz1 hz2 rfl (by decide) _ _ _ rfl (hrow.alloc _) ⟨wr.heap.size, 0, none⟩ 1 1 [.int .i64 p, .int .i64 q, .string T] rfl rfl (three_new _ _ _ _ _) (by simp [Value.oneCell']) (by unfold maxLen; omega) (by omega) (by simp; omega) ?_; intro v' w1 hown' hgrow _)
              have hb1 : Below B w w1 := (hbw.alloc hBw _).grown hgrow (by simp; omega) (fun k e => (hrow.lt k e).1)
              go_roundw
              case rel => exact ⟨i + 1, q, true, none, pre ++ emit q (some (p, t)), by simp, .inl ⟨rfl, rfl⟩, rfl, by simp, by omega, by omega, HN, by simpa [emit, HT.out, Wd.cells] using hown', hb1⟩
              case measure => simp [RowKit.intOf] <;> omega
          · have b35 : ((s[i].toNat : Int) == 35) = false := byte_not h35
            have h35' : s[i] ≠ 35 := fun e => h35 (by rw [e]; rfl)
            cases off with
            | true =>
              have hsat2 := Lib.hid (sat_off hsat.out HG.out h10' rfl)
              clear h10' h10 h35' h35
              have HN := Lib.hid (hsat2.out)
              rcases hcur with ⟨rfl, rfl⟩ | ⟨p, t, rfl, rfl⟩
              · go_wp2
                go_roundw
                case rel => exact ⟨i + 1, q, true, none, pre, by simp, .inl ⟨rfl, rfl⟩, rfl, by simp, by omega, by omega, Lib.hid (by have h9 := HN.out; simpa [emit] using h9), hrow, hbw⟩
                case measure => simp [RowKit.intOf] <;> omega
              · obtain ⟨hpi, htx⟩ := sat_text hsat.out (by omega)
                obtain ⟨T, hT⟩ : ∃ T, s.extract p i = T := ⟨_, rfl⟩
                have HT := Lib.hid (htx.symm.trans hT)
                clear htx
                go_wp2_with (at_builtin; refine wpList_append_own _ rfl _ _ 73 rfl B 77 i0 _ 3 32 Tryd.underlying73 hi0 hz0 hz1 hz2 rfl (by decide) _ _ _ rfl (hrow.alloc _) ⟨wr.heap.size, 0, none⟩ 1 1 [.int .i64 p, .int .i64 q, .string T] rfl rfl (three_new _ _ _ _ _) (by simp [Value.oneCell']) (by unfold maxLen; omega) (by omega) (by simp; omega) ?_; intro v' w1 hown' hgrow _)
                have hb1 : Below B w w1 := (hbw.alloc hBw _).grown hgrow (by simp; omega) (fun k e => (hrow.lt k e).1)
                go_roundw
                case rel => exact ⟨i + 1, q, true, none, pre ++ emit q (some (p, t)), by simp, .inl ⟨rfl, rfl⟩, rfl, by simp, by omega, by omega, HN, by simpa [emit, HT.out, Wd.cells] using hown', hb1⟩
                case measure => simp [RowKit.intOf] <;> omega
            | false =>
              by_cases h32 : s[i].toNat = 32
              · have b32 : ((s[i].toNat : Int) == 32) = true := byte_is h32
                have h32' : s[i] = 32 := UInt8.toNat_inj.1 h32
                have hsat2 := Lib.hid (sat_ws hsat.out HG.out h10' h35' (by rw [h32']; rfl))
                clear h10' h10 h35' h35 h32' h32
                have HN := Lib.hid (hsat2.out)
                rcases hcur with ⟨rfl, rfl⟩ | ⟨p, t, rfl, rfl⟩
                · go_wp2
                  go_roundw
                  case rel => exact ⟨i + 1, q, false, none, pre, by simp, .inl ⟨rfl, rfl⟩, rfl, by simp, by omega, by omega, Lib.hid (by have h9 := HN.out; simpa [emit] using h9), hrow, hbw⟩
                  case measure => simp [RowKit.intOf] <;> omega
                · obtain ⟨hpi, htx⟩ := sat_text hsat.out (by omega)
                  obtain ⟨T, hT⟩ : ∃ T, s.extract p i = T := ⟨_, rfl⟩
                  have HT := Lib.hid (htx.symm.trans hT)
                  clear htx
                  go_wp2_with (at_builtin; refine wpList_append_own _ rfl _ _ 73 rfl B 77 i0 _ 3 32 Tryd.underlying73 hi0 hz0 hz1 hz2 rfl (by decide) _ _ _ rfl (hrow.alloc _) ⟨wr.heap.size, 0, none⟩ 1 1 [.int .i64 p, .int .i64 q, .string T] rfl rfl (three_new _ _ _ _ _) (by simp [Value.oneCell']) (by unfold maxLen; omega) (by omega) (by simp; omega) ?_; intro v' w1 hown' hgrow _)
                  have hb1 : Below B w w1 := (hbw.alloc hBw _).grown hgrow (by simp; omega) (fun k e => (hrow.lt k e).1)
                  go_roundw
                  case rel => exact ⟨i + 1, q, false, none, pre ++ emit q (some (p, t)), by simp, .inl ⟨rfl, rfl⟩, rfl, by simp, by omega, by omega, HN, by simpa [emit, HT.out, Wd.cells] using hown', hb1⟩
                  case measure => simp [RowKit.intOf] <;> omega
              · have b32 : ((s[i].toNat : Int) == 32) = false := byte_not h32
                have h32' : s[i] ≠ 32 := fun e => h32 (by rw [e]; rfl)
                by_cases h9 : s[i].toNat = 9
                · have b9 : ((s[i].toNat : Int) == 9) = true := byte_is h9
                  have h9' : s[i] = 9 := UInt8.toNat_inj.1 h9
                  have hsat2 := Lib.hid (sat_ws hsat.out HG.out h10' h35' (by rw [h9']; rfl))
                  clear h10' h10 h35' h35 h32' h32 h9' h9
                  have HN := Lib.hid (hsat2.out)
                  rcases hcur with ⟨rfl, rfl⟩ | ⟨p, t, rfl, rfl⟩
                  · go_wp2
                    go_roundw
                    case rel => exact ⟨i + 1, q, false, none, pre, by simp, .inl ⟨rfl, rfl⟩, rfl, by simp, by omega, by omega, Lib.hid (by have h9 := HN.out; simpa [emit] using h9), hrow, hbw⟩
                    case measure => simp [RowKit.intOf] <;> omega
                  · obtain ⟨hpi, htx⟩ := sat_text hsat.out (by omega)
                    obtain ⟨T, hT⟩ : ∃ T, s.extract p i = T := ⟨_, rfl⟩
                    have HT := Lib.hid (htx.symm.trans hT)
                    clear htx
                    go_wp2_with (at_builtin; refine wpList_append_own _ rfl _ _ 73 rfl B 77 i0 _ 3 32 Tryd.underlying73 hi0 hz0 hz1 hz2 rfl (by decide) _ _ _ rfl (hrow.alloc _) ⟨wr.heap.size, 0, none⟩ 1 1 [.int .i64 p, .int .i64 q, .string T] rfl rfl (three_new _ _ _ _ _) (by simp [Value.oneCell']) (by unfold maxLen; omega) (by omega) (by simp; omega) ?_; intro v' w1 hown' hgrow _)
                    have hb1 : Below B w w1 := (hbw.alloc hBw _).grown hgrow (by simp; omega) (fun k e => (hrow.lt k e).1)
                    go_roundw
                    case rel => exact ⟨i + 1, q, false, none, pre ++ emit q (some (p, t)), by simp, .inl ⟨rfl, rfl⟩, rfl, by simp, by omega, by omega, HN, by simpa [emit, HT.out, Wd.cells] using hown', hb1⟩
                    case measure => simp [RowKit.intOf] <;> omega
                · have b9 : ((s[i].toNat : Int) == 9) = false := byte_not h9
                  have h9' : s[i] ≠ 9 := fun e => h9 (by rw [e]; rfl)
                  have HN := Lib.hid (sat_grow hsat.out HG.out h10' h35' (by simp [ws, h32', h9']))
                  clear h10' h10 h35' h35 h32' h32 h9' h9
                  rcases hcur with ⟨rfl, rfl⟩ | ⟨p, t, rfl, rfl⟩
                  · go_wp2
                    go_roundw
                    case rel => exact ⟨i + 1, q, false, grow i s[i] none, pre, by simp, .inr ⟨i, [s[i]], rfl, rfl⟩, rfl, by simp, by omega, by omega, HN, hrow, hbw⟩
                    case measure => simp [RowKit.intOf]; omega
                  · go_wp2
                    go_roundw
                    case rel => exact ⟨i + 1, q, false, grow i s[i] (some (p, t)), pre, by simp, .inr ⟨p, t ++ [s[i]], rfl, rfl⟩, rfl, by simp, by omega, by omega, HN, hrow, hbw⟩
                    case measure => simp [RowKit.intOf]; omega
    · obtain rfl : i = s.size + 1 := by omega
      have HA : Hid (all = pre) := Lib.hid (by
        rcases hsat.out with ⟨h, _⟩ | ⟨_, h⟩
        · rw [← Lib.size_eq] at h; omega
        · exact h)
      go_wp2
      have ha := HA.out
      subst ha
      obtain ⟨A, cap, rfl, _, _, hr⟩ := wrow_own hrow
      go_ret
      exact ⟨⟨A, cap, rfl, hr⟩, by rw [hB]; exact hbw⟩

end Go.Proofs.YtnejkfccdnadcaaDoor
