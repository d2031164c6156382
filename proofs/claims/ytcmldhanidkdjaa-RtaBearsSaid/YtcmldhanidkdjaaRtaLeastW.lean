/- RtaLeast: the walk: the law's text returns true, and writes nothing that was there. -/
import Derived.Test.YtcmldhanidkdjaaRtaF
namespace Go.Proofs.Ytcmldhanidkdjaa
open Go.RowKit Go.Shelf

theorem cdiv_of {X T j : Int} (hT : 1 ≤ T) (h1 : X ≤ j * T) (h2 : j * T < X + T) : cdiv X T = j := by
  unfold cdiv
  have e : T * (X / T) + X % T = X := Int.mul_ediv_add_emod X T
  have h3 : 0 ≤ X % T := Int.emod_nonneg _ (by omega)
  have h4 : X % T < T := Int.emod_lt_of_pos _ (by omega)
  rw [Int.mul_comm] at h1 h2
  generalize X / T = q at *
  split
  · rename_i h0
    rcases Int.lt_trichotomy q j with hlt | heq | hgt
    · have := Int.mul_le_mul_of_nonneg_left (show q + 1 ≤ j by omega) (show 0 ≤ T by omega)
      rw [Int.mul_add] at this; omega
    · exact heq
    · have := Int.mul_le_mul_of_nonneg_left (show j + 1 ≤ q by omega) (show 0 ≤ T by omega)
      rw [Int.mul_add] at this; omega
  · rename_i h0
    rcases Int.lt_trichotomy (q + 1) j with hlt | heq | hgt
    · have := Int.mul_le_mul_of_nonneg_left (show q + 1 + 1 ≤ j by omega) (show 0 ≤ T by omega)
      rw [Int.mul_add, Int.mul_add] at this; omega
    · exact heq
    · have := Int.mul_le_mul_of_nonneg_left (show j ≤ q by omega) (show 0 ≤ T by omega)
      omega

set_option maxHeartbeats 2000000 in
theorem least_walk (w : World) (A : Option Addr) (n cap : Nat) (f : Nat → Nat → Int) (hr : TRow w w.heap.size A n f) (hn : n ≤ 9223372036854775807) (h : Int) (_wh : (Lit.int .i64 h).wf = true) :
    Calls Try.prog 3 #[.slice A n cap, .int .i64 h] w fun e w' => e = .returned (.bool true) ∧ Below w.heap.size w w' := by
  have hmade : Hid (∀ W, Below w.heap.size w W → Calls Try.prog 8 #[.slice A n cap] W (MadePost W)) := Lib.hid fun W hb => made_any A n cap f W ((hr.below hb (Nat.le_refl _)).more hb.size) hn
  have hq : bits .and .i64 h 31 = h % 32 := and31 h
  clear hr _wh
  go_enter Try.func3, Try.ntmps3
  go_wp2_with fail
  refine (awake_any _).mono ?_
  rintro e w1 ⟨rfl, hb1⟩
  go_wp2_with fail
  refine (hmade.out _ hb1).mono ?_
  rintro e w2 ⟨L, A2, cap2, rfl, hcap, hl6, hsm, hrow, hb2⟩
  have hb12 : Below w.heap.size w w2 := hb1.trans (hb2.mono hb1.size)
  clear hmade hb1 hb2
  go_wp2_with fail
  obtain ⟨held, hheld⟩ : ∃ held, h % 32 = held := ⟨_, rfl⟩
  have g0 : 0 ≤ held := by omega
  have g1 : held ≤ 31 := by omega
  rw [hheld]
  clear hheld hq
  refine (busy_any A2 cap2 L held 300 _ hsm.oks (by omega) hrow g0 (by omega) (by decide) (by decide) (by have := wsum_few (X := 300) (by decide) hsm (by omega); omega)).mono ?_
  rintro e w3 ⟨n3, ok, rfl, hbusy, hb3⟩
  have hb : Below w.heap.size w w3 := hb12.trans (hb3.mono hb12.size)
  have hrow3 : DRow w3 w3.heap.size A2 L := (hrow.below hb3 (Nat.le_refl _)).more hb3.size
  clear hrow hb3 hb12
  obtain ⟨m, hm⟩ : ∃ m, m = L.length := ⟨_, rfl⟩
  rw [← hm] at hl6 hcap ⊢
  have HM := Lib.hid hm
  have HB := Lib.hid hbusy
  clear hm hbusy hcap
  go_wp2_with fail
  go_loop [10] (fun x => ∃ X : Int, 1 ≤ X ∧ X ≤ 301 ∧ x = .int .i64 X ∧ Under L held X) (fun x => (301 - intOf x).toNat)
  case atStart => exact ⟨1, by omega, by omega, rfl, fun y h1 h2 => by omega⟩
  case round =>
    obtain ⟨X, x1, x2, rfl, hu⟩ := hrel
    by_cases hX : X ≤ 300
    · go_wp2
      go_loop [11, 12, 13] (fun s i _ => ∃ (k : Nat) (S : Int), k ≤ m ∧ i = .int .i64 k ∧ s = .int .i64 S ∧ Hid (S = held + wsum X (L.take k)) ∧ 0 ≤ S ∧ S ≤ 31 + 8000 * (k : Int)) (fun _ i _ => m - (intOf i).toNat)
      case atStart => exact ⟨0, held, Nat.zero_le _, rfl, rfl, Lib.hid (by simp [wsum]), g0, by omega⟩
      case round =>
        obtain ⟨k, S, hk, rfl, rfl, hS, S0, S1⟩ := hrel
        by_cases hlt : k < m
        · have hk' : k < L.length := by rw [← HM.out]; exact hlt
          obtain ⟨b, off, rfl, hbl, hc⟩ := hrow3 (by omega)
          have hsucc := wsum_succ X L k hk'
          have hsmk := hsm L[k] (List.getElem_mem _)
          obtain ⟨c0, _, c2⟩ := hc k hk'
          clear hc
          generalize L[k] = x at hsucc hsmk c0 c2
          obtain ⟨c, d, T⟩ := x
          obtain ⟨v0, v1, v2, v3, v4, v5⟩ := hsmk
          dsimp only at hsucc c0 c2 v0 v1 v2 v3 v4 v5
          have HS := Lib.hid hsucc
          clear hsucc
          go_wp2
          go_loop [11, 13] (fun s r => ∃ (j : Nat) (Z R : Int), s = .int .i64 Z ∧ r = .int .i64 R ∧ Hid (Z = S + j * c) ∧ Hid (R = j * T) ∧ 0 ≤ R ∧ R < X + T ∧ (j : Int) ≤ R ∧ 0 ≤ Z ∧ Z ≤ S + 24 * (j : Int)) (fun _ r => (X - intOf r).toNat)
          case atStart => exact ⟨0, S, 0, rfl, rfl, Lib.hid (by simp), Lib.hid (by simp), by omega, by omega, by omega, S0, by omega⟩
          case round =>
            obtain ⟨j, Z, R, rfl, rfl, hZ, hR, r0, r1, r2, z0, z1⟩ := hrel
            by_cases hRX : R < X
            · go_wp2
              go_round
              case rel => exact ⟨j + 1, Z + c, R + T, rfl, rfl, Lib.hid (by rw [hZ.out, Int.natCast_add, Int.add_mul]; omega), Lib.hid (by rw [hR.out, Int.natCast_add, Int.add_mul]; omega), by omega, by omega, by omega, by omega, by omega⟩
              case measure => simp [intOf]; omega
            · have hj : cdiv X T = j := cdiv_of (by omega) (by rw [← hR.out]; omega) (by rw [← hR.out]; omega)
              have hZ2 : Hid (Z = held + wsum X (L.take (k + 1))) := Lib.hid (by rw [HS.out, hj, hZ.out, hS.out, Int.mul_comm c]; omega)
              clear hj
              go_wp2
              go_round
              case rel => exact ⟨k + 1, Z, by omega, by go_num, rfl, hZ2, z0, by omega⟩
              case measure => simp [intOf]; omega
        · have hSX : S = held + wsum X L := by
            have e : L.take k = L := List.take_of_length_le (by rw [← HM.out]; omega)
            rw [hS.out, e]
          by_cases hle : S ≤ X
          · obtain ⟨rfl, rfl⟩ : n3 = X ∧ ok = true := by
              rcases HB.out with ⟨e1, b1, b2, b3, b4⟩ | ⟨e1, _, b4⟩
              · refine ⟨?_, e1⟩
                rcases Int.lt_trichotomy n3 X with h1 | h1 | h1
                · have := hu n3 b1 h1; omega
                · exact h1
                · have := b4 X x1 h1; omega
              · have := b4 X x1 (by omega); omega
            clear hSX
            go_wp2
            go_ret
            exact ⟨rfl, hb⟩
          · have hu' : Under L held (X + 1) := fun y y1 y2 => by
              rcases Int.lt_or_eq_of_le (show y ≤ X by omega) with h1 | h1
              · exact hu y y1 h1
              · rw [h1]; omega
            clear hSX
            go_wp2
            go_round
            case rel => exact ⟨X + 1, by omega, by omega, rfl, hu'⟩
            case measure => simp [intOf]; omega
    · obtain ⟨rfl, rfl⟩ : n3 = 0 ∧ ok = false := by
        rcases HB.out with ⟨e1, b1, b2, b3, b4⟩ | ⟨e1, e2, b4⟩
        · have := hu n3 b1 (by omega); omega
        · exact ⟨e2, e1⟩
      go_wp2
      go_ret
      exact ⟨rfl, hb⟩

end Go.Proofs.Ytcmldhanidkdjaa
