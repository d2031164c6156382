/- Between two points no new work comes: plain. -/
import Derived.Test.YtcmldhanidkdjaaRtaLeastW
namespace Go.Proofs.Ytcmldhanidkdjaa
open Go.RowKit Go.Shelf

/-- Where it is looked. -/
def Pt (L : List De) (most p : Int) : Prop := p = most ∨ (p < most ∧ ∃ x ∈ L, ∃ k : Int, 1 ≤ k ∧ p = k * x.t)

theorem cdiv_next {X t : Int} (ht : 1 ≤ t) (h : X % t ≠ 0) : cdiv (X + 1) t = cdiv X t := by
  have e1 : t * (X / t) + X % t = X := Int.mul_ediv_add_emod X t
  have h1 : 0 ≤ X % t := Int.emod_nonneg _ (by omega)
  have h2 : X % t < t := Int.emod_lt_of_pos _ (by omega)
  have hX : cdiv X t = X / t + 1 := by unfold cdiv; rw [if_neg h]
  rw [hX]
  refine cdiv_of ht ?_ ?_
  · have : (X / t + 1) * t = t * (X / t) + t := by rw [Int.add_mul, Int.mul_comm]; omega
    omega
  · have : (X / t + 1) * t = t * (X / t) + t := by rw [Int.add_mul, Int.mul_comm]; omega
    omega

theorem wsum_next {X : Int} {L : List De} (hL : ∀ x ∈ L, x.Ok) (h : ∀ x ∈ L, X % x.t ≠ 0) : wsum (X + 1) L = wsum X L := by
  induction L with
  | nil => rfl
  | cons x r ih =>
    have h1 := ih (fun y hy => hL y (List.mem_cons_of_mem _ hy)) (fun y hy => h y (List.mem_cons_of_mem _ hy))
    obtain ⟨_, _, v2, v3, _⟩ := hL x (List.mem_cons_self ..)
    simp only [wsum]
    rw [h1, cdiv_next (by omega) (h x (List.mem_cons_self ..))]

theorem pt_above {L : List De} {most : Int} (hL : ∀ x ∈ L, x.Ok) (d : Nat) : ∀ X, 1 ≤ X → X ≤ most → (most - X).toNat = d → ∃ p, Pt L most p ∧ X ≤ p ∧ p ≤ most ∧ wsum p L = wsum X L := by
  induction d with
  | zero =>
    intro X h1 h2 h3
    exact ⟨X, .inl (by omega), Int.le_refl _, h2, rfl⟩
  | succ d ih =>
    intro X h1 h2 h3
    by_cases hp : Pt L most X
    · exact ⟨X, hp, Int.le_refl _, h2, rfl⟩
    · obtain ⟨p, a, b, c, e⟩ := ih (X + 1) (by omega) (by omega) (by omega)
      refine ⟨p, a, by omega, c, ?_⟩
      rw [e]
      refine wsum_next hL fun x hx h0 => hp (.inr ⟨by omega, x, hx, X / x.t, ?_, ?_⟩)
      · obtain ⟨_, _, v2, v3, _⟩ := hL x hx
        have e1 : x.t * (X / x.t) + X % x.t = X := Int.mul_ediv_add_emod X x.t
        rcases Int.lt_or_le 0 (X / x.t) with hlt | hle
        · omega
        · have := Int.mul_le_mul_of_nonneg_left hle (show 0 ≤ x.t by omega)
          omega
      · have e1 : x.t * (X / x.t) + X % x.t = X := Int.mul_ediv_add_emod X x.t
        rw [Int.mul_comm]; omega

/-- What may be held is just so much. -/
def BearIs (L : List De) (most n : Int) (ok : Bool) : Prop :=
  (ok = true ∧ 0 ≤ n ∧ n ≤ most ∧ (∃ p, 1 ≤ p ∧ p ≤ most ∧ n + wsum p L ≤ p) ∧ ∀ X, 1 ≤ X → X ≤ most → X - wsum X L ≤ n) ∨ (ok = false ∧ n = 0 ∧ ∀ X, 1 ≤ X → X ≤ most → X < wsum X L)

/-- The best of some points. -/
theorem bear_of {L : List De} {most best : Int} {ps : List Int} (hL : ∀ x ∈ L, x.Ok) (hps : ∀ p, p ∈ ps ↔ Pt L most p)
    (h0 : -1 ≤ best) (h1 : ∀ p ∈ ps, p - wsum p L ≤ best) (h2 : best = -1 ∨ ∃ p ∈ ps, best = p - wsum p L) (h3 : ∀ p ∈ ps, 1 ≤ p ∧ p ≤ most) :
    BearIs L most (if best < 0 then 0 else best) (decide (0 ≤ best)) := by
  have hall : ∀ X, 1 ≤ X → X ≤ most → X - wsum X L ≤ best := fun X a b => by
    obtain ⟨p, c, d, _, e⟩ := pt_above hL _ X a b rfl
    have := h1 p ((hps p).2 c)
    omega
  by_cases hb : best < 0
  · rw [if_pos hb]
    refine .inr ⟨by simp; omega, rfl, fun X a b => ?_⟩
    have := hall X a b
    omega
  · rw [if_neg hb]
    rcases h2 with h2 | ⟨p, hp, h2⟩
    · omega
    · have hr := h3 p hp
      have := wsum_nonneg (X := p) (by omega) hL
      exact .inl ⟨by simp; omega, by omega, by omega, ⟨p, hr.1, hr.2, by omega⟩, hall⟩

theorem BearIs.fits {L : List De} {most n n' : Int} {ok' : Bool} (h : BearIs L most n true) (h' : BusyIs L n most n' ok') : ok' = true := by
  rcases h with ⟨_, a1, a2, ⟨p, p1, p2, p3⟩, _⟩ | ⟨e, _⟩
  · rcases h' with ⟨e, _⟩ | ⟨_, _, hu⟩
    · exact e
    · have := hu p p1 (by omega); omega
  · cases e

theorem BearIs.more {L : List De} {most n n' : Int} {ok' : Bool} (h : BearIs L most n true) (h' : BusyIs L (n + 1) most n' ok') : ok' = false := by
  rcases h with ⟨_, _, _, _, hall⟩ | ⟨e, _⟩
  · rcases h' with ⟨_, b1, b2, b3, _⟩ | ⟨e, _⟩
    · have := hall n' b1 b2; omega
    · exact e
  · cases e

theorem BearIs.never {L : List De} {most n n' : Int} {ok' : Bool} (h : BearIs L most n false) (h' : BusyIs L 0 most n' ok') : ok' = false := by
  rcases h with ⟨e, _⟩ | ⟨_, _, hall⟩
  · cases e
  · rcases h' with ⟨_, b1, b2, b3, _⟩ | ⟨e, _⟩
    · have := hall n' b1 b2; omega
    · exact e

end Go.Proofs.Ytcmldhanidkdjaa
