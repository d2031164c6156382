/- rta.Busy, rta.Fits. -/
import Derived.Test.YtcmldhanidkdjaaRtaC
namespace Go.Proofs.Ytcmldhanidkdjaa
open Go.RowKit Go.Shelf

theorem cdiv_mono {a b t : Int} (h : a ≤ b) (ht : 1 ≤ t) : cdiv a t ≤ cdiv b t := by
  unfold cdiv
  have h1 : t * (a / t) + a % t = a := Int.mul_ediv_add_emod a t
  have h2 : t * (b / t) + b % t = b := Int.mul_ediv_add_emod b t
  have h3 : 0 ≤ a % t := Int.emod_nonneg _ (by omega)
  have h4 : a % t < t := Int.emod_lt_of_pos _ (by omega)
  have h5 : 0 ≤ b % t := Int.emod_nonneg _ (by omega)
  have h6 : b % t < t := Int.emod_lt_of_pos _ (by omega)
  have h7 : a / t ≤ b / t := Int.ediv_le_ediv (by omega) h
  split
  · split <;> omega
  · split
    · rename_i hn he
      rcases Int.lt_or_eq_of_le h7 with h8 | h8
      · omega
      · rw [h8] at h1; omega
    · omega

theorem wsum_mono {X Y : Int} (h : X ≤ Y) {L : List De} (hL : ∀ x ∈ L, x.Ok) : wsum X L ≤ wsum Y L := by
  induction L with
  | nil => simp [wsum]
  | cons x r ih =>
    have h1 := ih fun y hy => hL y (List.mem_cons_of_mem _ hy)
    obtain ⟨v0, _, v2, v3, _⟩ := hL x (List.mem_cons_self ..)
    have h2 := Int.mul_le_mul_of_nonneg_left (cdiv_mono h (by omega : 1 ≤ x.t)) v0
    simp only [wsum]; omega

/-- Ahead of X there is no time at which all is done. -/
def Under (L : List De) (held X : Int) : Prop := ∀ y, 1 ≤ y → y < X → y < held + wsum y L

theorem Under.step {L : List De} {held X : Int} (hL : ∀ x ∈ L, x.Ok) (h : Under L held X) : Under L held (held + wsum X L) := by
  intro y h1 h2
  rcases Int.lt_or_le y X with hy | hy
  · exact h y h1 hy
  · have := wsum_mono hy hL; omega

/-- What a busy time is. -/
def BusyIs (L : List De) (held most n : Int) (ok : Bool) : Prop :=
  (ok = true ∧ 1 ≤ n ∧ n ≤ most ∧ held + wsum n L ≤ n ∧ Under L held n) ∨ (ok = false ∧ n = 0 ∧ Under L held (most + 1))

theorem Under.less {L : List De} {held X Y : Int} (h : Under L held X) (hY : Y ≤ X) : Under L held Y := fun y h1 h2 => h y h1 (by omega)

def BusyPost (L : List De) (held most : Int) (w : World) (e : Ending) (w' : World) : Prop :=
  ∃ n ok, e = .returned (.tuple #[.int .i64 n, .bool ok]) ∧ BusyIs L held most n ok ∧ Below w.heap.size w w'

set_option maxHeartbeats 1000000 in
theorem busy_any (A : Option Addr) (cap : Nat) (L : List De) (held most : Int) (w : World) (hL : ∀ x ∈ L, x.Ok) (hn : L.length ≤ 64) (hr : DRow w w.heap.size A L) (h0 : 0 ≤ held) (h1 : held ≤ 1099511627776)
    (hX : 1 ≤ most) (hX' : most ≤ 2147483648) (hW : wsum most L ≤ 4611686018427387904) :
    Calls Try.prog 9 #[.slice A L.length cap, .int .i64 held, .int .i64 most] w (BusyPost L held most w) := by
  have hmay := Lib.hid (may_yes A cap L most w hL hn hr hX hX')
  have hwork : Hid (∀ X wr, 1 ≤ X → X ≤ most → Below w.heap.size w wr → Calls Try.prog 10 #[.slice A L.length cap, .int .i64 X] wr fun e w' => e = .returned (.tuple #[.int .i64 (wsum X L), .bool true]) ∧ Below wr.heap.size wr w') :=
    Lib.hid fun X wr g1 g2 hb => work_any A cap L X wr hL hn ((hr.below hb (Nat.le_refl _)).more hb.size) g1 (by omega) (by have := wsum_mono g2 hL; omega)
  have hstep : Hid (∀ X, Under L held X → Under L held (held + wsum X L)) := Lib.hid fun X h => h.step hL
  have hbd : Hid (∀ X, 1 ≤ X → X ≤ most → 0 ≤ wsum X L ∧ wsum X L ≤ 4611686018427387904) := Lib.hid fun X g1 g2 => ⟨wsum_nonneg (by omega) hL, by have := wsum_mono g2 hL; omega⟩
  have hu0 : Under L held 1 := fun y g1 g2 => by omega
  clear hL hr hn
  generalize L.length = n at *
  go_enter Try.func9, Try.ntmps9
  go_wp2
  go_step3
  go_wp2_with (go_at_call 13; refine hmay.out.mono ?_; rintro e w1 ⟨rfl, hb1⟩)
  go_step3
  go_wp2
  go_loopw [8] (fun x wr => ∃ X : Int, 1 ≤ X ∧ x = .int .i64 X ∧ Under L held X ∧ Below w.heap.size w wr) (fun x _ => (most + 1 - intOf x).toNat)
  case atStart => exact ⟨1, by omega, rfl, hu0, hb1⟩
  case round =>
    clear hb1
    obtain ⟨X, g1, rfl, hu, hb⟩ := hrel
    by_cases hlt : X ≤ most
    · obtain ⟨k0, k1⟩ := hbd.out X g1 hlt
      have hu2 := hstep.out X hu
      by_cases hle : held + wsum X L ≤ X
      · go_wp2_with (go_at_call 10; refine (hwork.out X _ g1 hlt hb).mono ?_; rintro e w2 ⟨rfl, hb2⟩)
        try rw [Exit.noGoto_ret]
        go_ret2
        exact ⟨X, true, rfl, .inl ⟨rfl, g1, hlt, hle, hu⟩, hb.trans (hb2.mono hb.size)⟩
      · go_wp2_with (go_at_call 10; refine (hwork.out X _ g1 hlt hb).mono ?_; rintro e w2 ⟨rfl, hb2⟩)
        go_roundw
        case rel => exact ⟨held + wsum X L, by omega, rfl, hu2, hb.trans (hb2.mono hb.size)⟩
        case measure => simp [intOf]; omega
    · go_wp2
      try rw [Exit.noGoto_ret]
      go_ret2
      exact ⟨0, false, rfl, .inr ⟨rfl, rfl, hu.less (by omega)⟩, hb⟩

end Go.Proofs.Ytcmldhanidkdjaa
