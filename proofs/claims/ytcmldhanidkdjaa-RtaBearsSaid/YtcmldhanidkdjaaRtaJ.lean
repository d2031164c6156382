/- rta.Bear. -/
import Derived.Test.YtcmldhanidkdjaaRtaI
namespace Go.Proofs.Ytcmldhanidkdjaa
open Go.RowKit Go.Shelf Go.Maps

/-- The best of some points. -/
def BestOf (L : List De) (ps : List Int) (best : Int) : Prop := -1 ≤ best ∧ (∀ p ∈ ps, p - wsum p L ≤ best) ∧ (best = -1 ∨ ∃ p ∈ ps, best = p - wsum p L)

theorem BestOf.next {L : List De} {ps : List Int} {best p : Int} (h : BestOf L ps best) : BestOf L (ps ++ [p]) (if best < p - wsum p L then p - wsum p L else best) := by
  obtain ⟨h1, h2, h3⟩ := h
  split
  · refine ⟨by omega, fun q hq => ?_, .inr ⟨p, by simp, rfl⟩⟩
    rcases List.mem_append.1 hq with hq | hq
    · have := h2 q hq; omega
    · simp at hq; subst hq; omega
  · refine ⟨h1, fun q hq => ?_, ?_⟩
    · rcases List.mem_append.1 hq with hq | hq
      · exact h2 q hq
      · simp at hq; subst hq; omega
    · rcases h3 with h3 | ⟨q, hq, h3⟩
      · exact .inl h3
      · exact .inr ⟨q, List.mem_append_left _ hq, h3⟩

theorem Pt.bounds {L : List De} {most p : Int} (hL : AllSmall L) (hm : 1 ≤ most) (h : Pt L most p) : 1 ≤ p ∧ p ≤ most := by
  rcases h with rfl | ⟨h1, x, hx, k, hk, rfl⟩
  · omega
  · obtain ⟨_, _, _, _, v4, _⟩ := hL x hx
    have := Int.mul_le_mul_of_nonneg_right hk (show 0 ≤ x.t by omega)
    omega

def BearPost (L : List De) (most : Int) (w : World) (e : Ending) (w' : World) : Prop :=
  ∃ n ok, e = .returned (.tuple #[.int .i64 n, .bool ok]) ∧ BearIs L most n ok ∧ Below w.heap.size w w'

set_option maxHeartbeats 1000000 in
theorem bear_any (A : Option Addr) (cap : Nat) (L : List De) (most : Int) (w : World) (hL : AllSmall L) (hn : L.length ≤ 6) (hr : DRow w w.heap.size A L) (hm : 1 ≤ most) (hm' : most ≤ 256) :
    Calls Try.prog 12 #[.slice A L.length cap, .int .i64 most] w (BearPost L most w) := by
  have hpts := Lib.hid (points_any A cap L most w hL hn hr hm hm')
  have hwork : Hid (∀ X wr, 1 ≤ X → X ≤ most → Below w.heap.size w wr → Calls Try.prog 10 #[.slice A L.length cap, .int .i64 X] wr fun e w' => e = .returned (.tuple #[.int .i64 (wsum X L), .bool true]) ∧ Below wr.heap.size wr w') :=
    Lib.hid fun X wr g1 g2 hb => work_any A cap L X wr hL.oks (by omega) ((hr.below hb (Nat.le_refl _)).more hb.size) g1 (by omega) (by have := wsum_few (X := X) (by omega) hL (by omega); omega)
  have hbd : Hid (∀ X, 1 ≤ X → X ≤ most → 0 ≤ wsum X L ∧ wsum X L ≤ 73728) := Lib.hid fun X g1 g2 => ⟨wsum_nonneg (by omega) hL.oks, by have := wsum_few (X := X) (by omega) hL (by omega); omega⟩
  have HL := Lib.hid hL
  clear hr hn hL
  generalize L.length = n at *
  go_enter Try.func12, Try.ntmps12
  go_wp2_with (go_at_call 18; refine hpts.out.mono ?_; rintro e w1 ⟨ps, B, bc, rfl, hpl, hmem, hz, hb1⟩)
  obtain ⟨m, hml⟩ : ∃ m, m = ps.length := ⟨_, rfl⟩
  rw [← hml] at hpl ⊢
  have HM := Lib.hid hml
  have HMEM := Lib.hid hmem
  clear hml hmem hpts
  go_loopw [6, 15] (fun v i wr => ∃ (k : Nat) (best : Int), k ≤ m ∧ i = .int .i64 k ∧ v = .int .i64 best ∧ BestOf L (ps.take k) best ∧ best ≤ 256 ∧ Below w.heap.size w wr ∧ Below w1.heap.size w1 wr) (fun _ i _ => m - (intOf i).toNat)
  case atStart => exact ⟨0, -1, Nat.zero_le _, rfl, rfl, ⟨by omega, by simp, .inl rfl⟩, by omega, hb1, Below.refl _ _⟩
  case round =>
    obtain ⟨k, best, hk, rfl, rfl, hbest, hb256, hb, hbz⟩ := hrel
    by_cases hlt : k < m
    · have hk' : k < ps.length := by rw [← HM.out]; exact hlt
      obtain ⟨bl, off, rfl, hbl, hc⟩ := hz (by omega)
      have d0 := (hbz.cell (p := ⟨bl, off + k, none⟩) hbl).trans (hc k hk')
      have hpt := (HMEM.out ps[k]).1 (List.getElem_mem _)
      have hnext := hbest.next (p := ps[k])
      rw [← List.take_succ_eq_append_getElem hk'] at hnext
      clear hc
      generalize ps[k] = p at hpt d0 hnext
      obtain ⟨p0, p1⟩ := hpt.bounds HL.out hm
      obtain ⟨q0, q1⟩ := hbd.out p p0 p1
      have HN := Lib.hid hnext
      have hlo := hbest.1
      clear hnext hpt hbest
      by_cases hmx : best < p - wsum p L
      · rw [if_pos hmx] at HN
        go_wp2_with (go_at_call 10; refine (hwork.out p _ p0 p1 hb).mono ?_; rintro e w2 ⟨rfl, hb2⟩)
        go_roundw
        case rel => exact ⟨k + 1, p - wsum p L, by omega, by go_num, by go_num, HN.out, by omega, hb.trans (hb2.mono hb.size), hbz.trans (hb2.mono hbz.size)⟩
        case measure => simp [intOf]; omega
      · rw [if_neg hmx] at HN
        go_wp2_with (go_at_call 10; refine (hwork.out p _ p0 p1 hb).mono ?_; rintro e w2 ⟨rfl, hb2⟩)
        go_roundw
        case rel => exact ⟨k + 1, best, by omega, by go_num, by go_num, HN.out, by omega, hb.trans (hb2.mono hb.size), hbz.trans (hb2.mono hbz.size)⟩
        case measure => simp [intOf]; omega
    · have hkm : ps.take k = ps := List.take_of_length_le (by rw [← HM.out]; omega)
      rw [hkm] at hbest
      have hB := bear_of (ps := ps) HL.out.oks HMEM.out hbest.1 hbest.2.1 hbest.2.2 (fun p hp => ((HMEM.out p).1 hp).bounds HL.out hm)
      clear hkm hbest
      by_cases hneg : best < 0
      · rw [if_pos hneg, show decide (0 ≤ best) = false by simp; omega] at hB
        go_wp2
        go_ret2
        exact ⟨0, false, rfl, hB, hb⟩
      · rw [if_neg hneg, show decide (0 ≤ best) = true by simp; omega] at hB
        go_wp2
        go_ret2
        exact ⟨best, true, rfl, hB, hb⟩

end Go.Proofs.Ytcmldhanidkdjaa
