/- The document's Number; Digits. -/
import Derived.Test.YtnejkfccdnadcaaDoorLexN
import Derived.Test.YtnejkfccdnadcaaDoorLexPa
import Derived.Lib.AppendIntMem
import Derived.OwnWalk
namespace Go.Proofs.YtnejkfccdnadcaaDoor
open Go.RowKit Go.Shelf Go.Lib

set_option maxHeartbeats 1000000 in
theorem digits_any (n : Int) (w : World) (h0 : -9223372036854775808 ≤ n) (h1 : n ≤ 9223372036854775807) (htab : Lib.TabIs Tryd.prog w "internal/strconv.uint64pow10" .u64 Lib.pow10Tab) :
    Calls Tryd.prog 32 #[.int .i64 n] w fun e w' => e = .returned (.string ⟨(Lib.itoa n).toArray⟩) ∧ Below w.heap.size w w' := by
  have hd := Lib.hid (Tryd.strconv_FormatInt_10 n h0 h1 w htab)
  go_enter Tryd.func32, Tryd.ntmps32
  go_wp2_with (go_at_call 39; refine hd.out.mono ?_; rintro e w' ⟨rfl, k, os, rfl⟩)
  go_ret
  exact ⟨rfl, Lib.below_grow _ w (Nat.le_refl _) k os⟩

theorem num_ret {R : Ending → World → Prop} {tmps : Array Value} {w : World} {a b : Value} (ht : tmps[4]?.getD undef = .pointer (some ⟨w.heap.size, 0, none⟩))
    (hR : R (.returned (.agg #[a, b])) (w.alloc (.cells #[a, b] 79))) :
    bodyPost Tryd.prog Tryd.f25 R .ret { tmps := tmps, defers := [] } (w.alloc (.cells #[a, b] 79)) := by
  refine bodyPost_ret ?_ rfl hR
  have hb := heap_alloc_new w (.cells #[a, b] 79)
  generalize w.alloc (.cells #[a, b] 79) = W at hb
  have h0 : W.cell? ⟨w.heap.size, 0, none⟩ = some a := by simp [World.cell?, hb]
  have h1 : W.cell? ⟨w.heap.size, 1, none⟩ = some b := by simp [World.cell?, hb]
  simp [results, Tryd.f25, go_sem, ht, h0, h1]

set_option maxHeartbeats 2000000 in
set_option maxRecDepth 100000 in
theorem refNumber_pos (s : ByteArray) (most : Int) (w : World) (hp : 0 < s.size) (hs : s.size ≤ 1000000) (hm2 : most ≤ 9223372036854775807) :
    Calls Tryd.prog 25 #[.string s, .int .i64 most] w fun e w' =>
      ((NumOk s.data.toList most ∧ e = .returned (.agg #[.int .i64 (numV s.data.toList), .bool true])) ∨ (¬ NumOk s.data.toList most ∧ e = .returned (.agg #[.int .i64 0, .bool false]))) ∧ Below w.heap.size w w' := by
  obtain ⟨hem, hne⟩ := not_empty hp
  have hx0 : s.data.toList[0]? = some s[0] := by rw [List.getElem?_eq_getElem (by rw [← Lib.size_eq]; exact hp)]; rfl
  have HX0 := Lib.hid hx0
  clear hx0
  go_enter Tryd.func25, Tryd.ntmps25
  by_cases h48 : s[0] = 48 ∧ 1 < s.size
  · have h481 : ((s[0].toNat : Int) == 48) = true := by rw [h48.1]; rfl
    have h1s := h48.2
    have HB : Hid (¬ NumOk s.data.toList most) := Lib.hid (fun h => by
      rcases h.1.2 with h2 | h2
      · rw [← Lib.size_eq] at h2; omega
      · rw [HX0.out, h48.1] at h2; exact h2 rfl)
    go_wp2
    exact num_ret rfl ⟨.inr ⟨HB.out, rfl⟩, (Below.refl _ w).alloc (Nat.le_refl _) _⟩
  · have HOK : Hid (s.data.toList ≠ [] ∧ (s.data.toList.length = 1 ∨ s.data.toList[0]? ≠ some 48)) := Lib.hid ⟨fun e => by rw [Lib.size_eq, e] at hp; simp at hp, by
      by_cases h1 : s.data.toList.length = 1
      · exact .inl h1
      · refine .inr (fun h2 => h48 ⟨by rw [HX0.out] at h2; simpa using h2, ?_⟩)
        rw [← Lib.size_eq] at h1
        omega⟩
    have hstart : Hid (s[0] = 48 → s.size = 1) := Lib.hid (fun h => by
      by_cases h1 : 1 < s.size
      · exact absurd ⟨h, h1⟩ h48
      · omega)
    clear h48
    go_upto_region 1 with (fail)
    go_cut [19] from 59 (fun v19 wx => v19 = .bool false ∧ w.alloc (.cells #[.int .i64 0, .bool false] 79) = wx)
    case first =>
      by_cases h1 : s.size = 1
      · go_wp2
        go_meet
        exact ⟨rfl, rfl⟩
      · obtain ⟨h481, h482⟩ := byte_48 (fun h => h1 (hstart.out h))
        go_wp2
        go_meet
        exact ⟨rfl, rfl⟩
    case rest =>
      obtain ⟨rfl, rfl⟩ := hcut
      go_wp2
      go_loopw [5, 6] (fun v5 v6 wr => ∃ i n : Nat, v5 = .int .i64 n ∧ v6 = .int .i64 i ∧ i ≤ s.size ∧ n ≤ 9223372036854775807 ∧ Hid (n = numV (s.data.toList.take i)) ∧ Hid (∀ (j : Nat) c, j < i → s.data.toList[j]? = some c → isD c) ∧
        wr = w.alloc (.cells #[.int .i64 0, .bool false] 79)) (fun _ v6 _ => s.size - (RowKit.intOf v6).toNat)
      case atStart => exact ⟨0, 0, rfl, rfl, Nat.zero_le _, by omega, Lib.hid rfl, Lib.hid (fun j c h => absurd h (by omega)), rfl⟩
      case round =>
        obtain ⟨i, n, rfl, rfl, hi, hn, hnv, hdig, rfl⟩ := hrel
        by_cases his : i < s.size
        · have hget : s.data.toList[i]? = some s[i] := by rw [List.getElem?_eq_getElem (by rw [← Lib.size_eq]; exact his)]; rfl
          have HG := Lib.hid hget
          clear hget
          by_cases hd : 48 ≤ s[i].toNat ∧ s[i].toNat ≤ 57
          · obtain ⟨d, hd48⟩ : ∃ d : Nat, s[i].toNat = d + 48 := ⟨s[i].toNat - 48, by omega⟩
            have hd9 : d ≤ 9 := by omega
            clear hd
            have hs1 : IntKind.u8.wrap (((d + 48 : Nat) : Int) - 48) = (d : Int) := by rw [IntKind.wrap_u8]; omega
            have HV : Hid (numV (s.data.toList.take (i + 1)) = n * 10 + d) := Lib.hid (by rw [numV_take HG.out, ← hnv.out]; unfold numF; rw [hd48]; omega)
            have HI : Hid (isD s[i]) := Lib.hid (by unfold isD; omega)
            go_wp2
            · exact num_ret rfl ⟨.inr ⟨fun h => by have h1 := numV_ge s.data.toList (i + 1); rw [HV.out] at h1; have h2 := h.2.2; omega, rfl⟩, (Below.refl _ w).alloc (Nat.le_refl _) _⟩
            · go_roundw
              case rel => exact ⟨i + 1, n * 10 + d, by simp; omega, by simp, his, by omega, Lib.hid HV.out.symm,
                Lib.hid (fun j c hj hc => by
                  by_cases hji : j = i
                  · subst hji
                    rw [HG.out] at hc
                    cases hc
                    exact HI.out
                  · exact hdig.out j c (by omega) hc), trivial⟩
              case measure => simp [RowKit.intOf]; omega
          · have HB : Hid (¬ NumOk s.data.toList most) := Lib.hid (fun h => hd (h.2.1 i _ HG.out))
            go_wp2
            all_goals exact num_ret rfl ⟨.inr ⟨HB.out, rfl⟩, (Below.refl _ w).alloc (Nat.le_refl _) _⟩
        · obtain rfl : i = s.size := by omega
          have HA : Hid (n = numV s.data.toList) := Lib.hid (by rw [hnv.out, Lib.size_eq, List.take_length])
          have HN : Hid (NumOk s.data.toList most ↔ (numV s.data.toList : Int) ≤ most) := Lib.hid ⟨fun h => h.2.2, fun h => ⟨HOK.out, fun j c hc => hdig.out j c (by rw [Lib.size_eq]; exact (List.getElem?_eq_some_iff.1 hc).1) hc, h⟩⟩
          go_wp2
          · exact num_ret rfl ⟨.inr ⟨fun h => by have h2 := HN.out.1 h; rw [← HA.out] at h2; omega, rfl⟩, (Below.refl _ w).alloc (Nat.le_refl _) _⟩
          · exact num_ret rfl ⟨.inl ⟨HN.out.2 (by rw [← HA.out]; omega), by rw [← HA.out]⟩, (Below.refl _ w).alloc (Nat.le_refl _) _⟩

end Go.Proofs.YtnejkfccdnadcaaDoor
