/- RtaBears: the walk. -/
import Derived.Test.YtcmldhanidkdjaaRtaJ
namespace Go.Proofs.Ytcmldhanidkdjaa
open Go.RowKit Go.Shelf

theorem BearIs.bounds {L : List De} {most n : Int} {ok : Bool} (h : BearIs L most n ok) (hm : 1 ≤ most) : 0 ≤ n ∧ n ≤ most := by
  rcases h with ⟨_, h1, h2, _⟩ | ⟨_, rfl, _⟩
  · exact ⟨h1, h2⟩
  · omega

set_option maxHeartbeats 1000000 in
theorem bears_walk (w : World) (A : Option Addr) (n cap : Nat) (f : Nat → Nat → Int) (hr : TRow w w.heap.size A n f) (hn : n ≤ 9223372036854775807) (h : Int) (_wh : (Lit.int .i64 h).wf = true) :
    Calls Try.prog 6 #[.slice A n cap, .int .i64 h] w fun e w' => e = .returned (.bool true) ∧ Below w.heap.size w w' := by
  have hmade : Hid (∀ W, Below w.heap.size w W → Calls Try.prog 8 #[.slice A n cap] W (MadePost W)) := Lib.hid fun W hb => made_any A n cap f W ((hr.below hb (Nat.le_refl _)).more hb.size) hn
  have hq : bits .and .i64 h 255 = h % 256 := and255 h
  clear hr _wh
  go_enter Try.func6, Try.ntmps6
  go_wp2_with fail
  refine (awake_any _).mono ?_
  rintro e w1 ⟨rfl, hb1⟩
  go_wp2_with fail
  refine (hmade.out _ hb1).mono ?_
  rintro e w2 ⟨L, A2, cap2, rfl, hcap, hl6, hsm, hrow, hb2⟩
  have hb12 : Below w.heap.size w w2 := hb1.trans (hb2.mono hb1.size)
  clear hmade hb1 hb2 hcap
  go_wp2_with fail
  obtain ⟨most, hmost⟩ : ∃ most, 1 + h % 256 = most := ⟨_, rfl⟩
  have g0 : 1 ≤ most := by omega
  have g1 : most ≤ 256 := by omega
  rw [hmost]
  clear hmost hq
  have hwm := wsum_few (X := most) (by omega) hsm (by omega)
  have HS := Lib.hid hsm
  refine (bear_any A2 cap2 L most _ hsm hl6 hrow g0 g1).mono ?_
  rintro e w3 ⟨b, ok, rfl, hbear, hb3⟩
  have hb : Below w.heap.size w w3 := hb12.trans (hb3.mono hb12.size)
  have hrow3 : DRow w3 w3.heap.size A2 L := (hrow.below hb3 (Nat.le_refl _)).more hb3.size
  clear hrow hb3 hb12 hsm
  obtain ⟨b0, b1⟩ := hbear.bounds g0
  have HB := Lib.hid hbear
  clear hbear
  cases ok with
  | false =>
    go_wp2_with fail
    refine (fits_any A2 cap2 L 0 most _ HS.out.oks (by omega) hrow3 (by omega) (by omega) g0 (by omega) (by omega)).mono ?_
    rintro e w4 ⟨_, ok, rfl, hf, hb4⟩
    obtain rfl := HB.out.never hf
    go_wp2
    go_ret
    exact ⟨rfl, hb.trans (hb4.mono hb.size)⟩
  | true =>
    go_wp2_with fail
    refine (fits_any A2 cap2 L b most _ HS.out.oks (by omega) hrow3 b0 (by omega) g0 (by omega) (by omega)).mono ?_
    rintro e w4 ⟨_, ok, rfl, hf, hb4⟩
    obtain rfl := HB.out.fits hf
    have hrow4 : DRow w4 w4.heap.size A2 L := (hrow3.below hb4 (Nat.le_refl _)).more hb4.size
    have hB4 := hb.trans (hb4.mono hb.size)
    clear hrow3 hb4 hf hb
    go_wp2_with fail
    refine (fits_any A2 cap2 L (b + 1) most _ HS.out.oks (by omega) hrow4 (by omega) (by omega) g0 (by omega) (by omega)).mono ?_
    rintro e w5 ⟨_, ok, rfl, hf, hb5⟩
    obtain rfl := HB.out.more hf
    go_wp2
    go_ret
    exact ⟨rfl, hB4.trans (hb5.mono hB4.size)⟩

end Go.Proofs.Ytcmldhanidkdjaa
