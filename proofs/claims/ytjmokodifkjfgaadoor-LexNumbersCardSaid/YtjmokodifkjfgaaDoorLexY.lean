/- The document's Numbers. -/
import Derived.Test.YtjmokodifkjfgaaDoorLexX
namespace Go.Proofs.YtjmokodifkjfgaaDoor
open Go.RowKit Go.Shelf Go.Lib

theorem piece_eq {s x : ByteArray} {p i : Nat} (h : x.data.toList = (s.data.toList.drop p).take (i - p)) : s.extract p i = x := by
  apply ByteArray.ext
  apply Array.toList_inj.1
  rw [h]
  simp

set_option maxHeartbeats 2000000 in
set_option maxRecDepth 100000 in
theorem refNumbers_any (s : ByteArray) (hs : s.size ≤ 65536) (most : Int) (w : World) (hm2 : most ≤ 9223372036854775807) (L : List ByteArray) (hL : L.map (·.data.toList) = slc 44 s.data.toList) :
    Calls Tryd.prog 23 #[.string s, .int .i64 most] w fun e w' =>
      ((AllNum L most ∧ ∃ v, e = .returned (.tuple #[v, .bool true]) ∧ w'.ownsRow w.heap.size 2 1 v L.length ((numsOf L).map (Value.int .i64))) ∨ (¬ AllNum L most ∧ e = .returned (.tuple #[.slice none 0 0, .bool false]))) ∧ Below w.heap.size w w' := by
  obtain ⟨i0, hi0, hz0, hz1, hz2⟩ := info_parts infoL
  have HP0 : Hid (PcsAt L s.data.toList 0 0 0) := Lib.hid ⟨Nat.zero_le _, .inl ⟨Nat.zero_le _, Nat.le_refl _, by simpa using hL, fun j _ h => by omega⟩⟩
  have hLl : L.length ≤ 70000 := by
    have h1 := congrArg List.length hL
    rw [List.length_map] at h1
    rw [h1]
    have : ∀ l : List UInt8, (slc 44 l).length ≤ l.length + 1 := by
      intro l
      induction l with
      | nil => simp [slc]
      | cons c l ih =>
        by_cases hc : c = 44
        · simp [slc, hc]; omega
        · simp [slc, hc]; omega
    have h2 := this s.data.toList
    rw [← Lib.size_eq] at h2
    omega
  clear hL
  go_enter Tryd.func23, Tryd.ntmps23
  go_wp2
  obtain ⟨B, hB⟩ : ∃ B, w.heap.size = B := ⟨_, rfl⟩
  go_loopw [6, 7, 8] (fun v6 v7 v8 wr => ∃ (i p k : Nat), v7 = .int .i64 p ∧ v8 = .int .i64 i ∧ i ≤ s.size + 1 ∧ p ≤ s.size + 1 ∧ k ≤ 70000 ∧ Hid (PcsAt L s.data.toList i p k) ∧ Hid (∀ (j : Nat) x, j < k → L[j]? = some x → NumOk x.data.toList most) ∧ wr.ownsRow B 2 1 v6 k ((numsOf (L.take k)).map (Value.int .i64)) ∧ Below B w wr) (fun _ _ v8 _ => s.size + 1 - (RowKit.intOf v8).toNat)
  case atStart => exact ⟨0, 0, 0, rfl, rfl, Nat.zero_le _, Nat.zero_le _, Nat.zero_le _, HP0, Lib.hid (fun j x h => absurd h (by omega)), World.ownsRow_nil _ _ _ _, Below.refl _ _⟩
  case round =>
    obtain ⟨i, p, k, rfl, rfl, hi, hp, hk, hpc, hok, hrow, hbw⟩ := hrel
    have hBw : B ≤ wr.heap.size := by rw [← hB]; exact hbw.size
    by_cases his : i ≤ s.size
    · by_cases hon : i < s.size ∧ s.data.toList[i]? ≠ some 44
      · obtain ⟨hon1, hon2⟩ := hon
        have hne : ((s[i].toNat : Int) != 44) = true := by
          have hget : s.data.toList[i]? = some s[i] := by rw [List.getElem?_eq_getElem (by rw [← Lib.size_eq]; exact hon1)]; rfl
          rw [hget] at hon2
          have : (s[i].toNat : Int) ≠ 44 := fun he => hon2 (congrArg some (UInt8.toNat_inj.1 (by show s[i].toNat = 44; omega)))
          simpa using this
        have HP := Lib.hid (pcs_on hpc.out (by rw [← Lib.size_eq]; exact hon1) hon2)
        clear hon2
        go_wp2
        go_roundw
        case rel => exact ⟨i + 1, p, k, rfl, by simp, by omega, hp, hk, HP, hok, hrow, hbw⟩
        case measure => simp [RowKit.intOf]; omega
      · obtain ⟨hpi, x, hx, hxe, hpc2⟩ := pcs_end hpc.out (by rw [← Lib.size_eq]; exact his) (fun h => Classical.byContradiction fun hc => hon ⟨by rw [Lib.size_eq]; exact h, hc⟩)
        have hpx := piece_eq hxe
        have hx6 : x.size ≤ 1000000 := by rw [← hpx]; simp; omega
        have HX := Lib.hid hx
        have HP := Lib.hid hpc2
        have hkl : k < L.length := (List.getElem?_eq_some_iff.1 hx).1
        have hne : ∀ (h : i < s.size), (((s[i]'h).toNat : Int) != 44) = false := fun h => by
          have hget : s.data.toList[i]? = some s[i] := by rw [List.getElem?_eq_getElem (by rw [← Lib.size_eq]; exact h)]; rfl
          have h2 : s.data.toList[i]? = some 44 := Classical.byContradiction fun hc => hon ⟨h, hc⟩
          rw [hget] at h2
          rw [Option.some.inj h2]
          rfl
        clear hx hpc2 hxe hon
        have hnum := Lib.hid (fun W => refNumber_any x most W hx6 hm2)
        go_upto_region 6 with (fail)
        go_cut [25] from 43 (fun v25 wx => v25 = .bool false ∧ wr = wx)
        case first =>
          by_cases h1 : i < s.size
          · have hne1 := hne h1
            clear hne
            go_wp2
            go_meet
            exact ⟨rfl, rfl⟩
          · clear hne
            go_wp2
            go_meet
            exact ⟨rfl, rfl⟩
        case rest =>
          obtain ⟨rfl, rfl⟩ := hcut
          clear hne
          go_upto_if 34 with (go_at_call 22; refine (hnum.out _).mono ?_; rintro e w1 ⟨hres, hb1⟩; have hrow1 := ownsRow_below hrow hb1 (Nat.le_refl _); rcases hres with ⟨hgood, rfl⟩ | ⟨hbad, rfl⟩)
          · have hbw1 := hbw.trans (hb1.mono hBw)
            have hBw1 : B ≤ w1.heap.size := Nat.le_trans hBw hb1.size
            generalize hnv : numV x.data.toList = N at *
            have HNV := Lib.hid hnv
            clear hnv
            have hbx := hbw1.alloc hBw1 (.cells #[.int .i64 (N : Int), .bool true] 45)
            have hrowx := hrow1.alloc (.cells #[.int .i64 (N : Int), .bool true] 45)
            have hblx := heap_alloc_new w1 (.cells #[.int .i64 (N : Int), .bool true] 45)
            have hszx : w1.heap.size < (w1.alloc (.cells #[.int .i64 (N : Int), .bool true] 45)).heap.size := by simp
            generalize w1.alloc (.cells #[.int .i64 (N : Int), .bool true] 45) = W2 at hbx hrowx hblx hszx ⊢
            have hcx : W2.cell? ⟨w1.heap.size, 0, none⟩ = some (.int .i64 (N : Int)) := by simp [World.cell?, hblx]
            obtain ⟨b1, hb1e⟩ : ∃ b1, w1.heap.size = b1 := ⟨_, rfl⟩
            rw [hb1e] at hcx hszx hblx hBw1 ⊢
            go_wp2_with (at_builtin; refine wpList_append_own _ rfl _ _ 34 rfl B 2 i0 _ 1 8 Tryd.underlying34 hi0 hz0 hz1 hz2 rfl (by decide) _ _ _ rfl (hrowx.alloc _) ⟨W2.heap.size, 0, none⟩ 1 1 [.int .i64 (N : Int)] rfl rfl (cell_one_new _ _ _) (by simp [Value.oneCell']) (by unfold maxLen; omega) (by omega) (by simp; omega) ?_; intro v' w2 hown' hgrow _)
            have hbw2 : Below B w w2 := (hbx.alloc (by omega) _).grown hgrow (by simp; omega) (fun k e => by have := (hrowx.lt k e).1; omega)
            go_roundw
            case rel => exact ⟨i + 1, i + 1, k + 1, by simp, by simp, by omega, by omega, by omega, HP, Lib.hid (fun j y hj hy => by
              by_cases hjk : j = k
              · subst hjk
                rw [HX.out] at hy
                cases hy
                exact hgood
              · exact hok.out j y (by omega) hy), by rw [take_num HX.out, HNV.out]; simpa using hown', hbw2⟩
            case measure => simp [RowKit.intOf]; omega
          · have HB : Hid (¬ AllNum L most) := Lib.hid (fun h => hbad (h k x HX.out))
            go_wp2
            go_ret2
            exact ⟨.inr ⟨HB.out, rfl⟩, by rw [hB]; exact (hbw.trans (hb1.mono hBw)).alloc (Nat.le_trans hBw hb1.size) _⟩
    · obtain rfl : i = s.size + 1 := by omega
      have HK : Hid (k = L.length) := Lib.hid (by
        rcases hpc.out.2 with ⟨h1, _⟩ | ⟨_, h1⟩
        · rw [← Lib.size_eq] at h1; omega
        · exact h1)
      go_wp2
      go_ret2
      have hk2 := HK.out
      subst hk2
      rw [List.take_length] at hrow
      exact ⟨.inl ⟨fun j x hx => hok.out j x (List.getElem?_eq_some_iff.1 hx).1 hx, _, rfl, by rw [hB]; exact hrow⟩, by rw [hB]; exact hbw⟩

end Go.Proofs.YtjmokodifkjfgaaDoor
