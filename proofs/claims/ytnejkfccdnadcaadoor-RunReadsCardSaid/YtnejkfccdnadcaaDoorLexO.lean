/- Digits, and what they say, plainly. -/
import Derived.Test.YtnejkfccdnadcaaDoorLexN
import Derived.Lib.ItoaNum
namespace Go.Proofs.YtnejkfccdnadcaaDoor
open Go.RowKit Go.Shelf Go.Lib

theorem dig_nat {d : Nat} (h : d < 10) : (UInt8.ofNat (48 + d)).toNat = 48 + d := by
  rw [UInt8.toNat_ofNat']
  omega

theorem dec_num : ∀ u : Nat, numV (decDigits u) = u ∧ (∀ c ∈ decDigits u, isD c) ∧ decDigits u ≠ [] ∧ (u < 10 → (decDigits u).length = 1) ∧ (u ≠ 0 → (decDigits u)[0]? ≠ some 48) := by
  intro u
  induction u using Nat.strongRecOn with
  | ind u ih =>
    by_cases h : u < 10
    · rw [decDigits_one h]
      refine ⟨?_, ?_, by simp, fun _ => rfl, ?_⟩
      · simp [numV, numF]
        have := dig_nat h
        simp at this
        omega
      · intro c hc
        simp at hc
        subst hc
        have := dig_nat h
        simp at this
        unfold isD
        simp
        omega
      · intro h0 he
        have h1 : UInt8.ofNat (48 + u) = 48 := by simpa using he
        have h2 := dig_nat h
        rw [h1] at h2
        have : (48 : UInt8).toNat = 48 := rfl
        omega
    · have e : decDigits u = decDigits (u / 10) ++ [UInt8.ofNat (48 + u % 10)] := by rw [decDigits, dif_neg h]
      obtain ⟨i1, i2, i3, _, i5⟩ := ih (u / 10) (by omega)
      have hd := dig_nat (d := u % 10) (by omega)
      rw [e]
      refine ⟨?_, ?_, by simp, fun h2 => absurd h2 h, ?_⟩
      · unfold numV at i1 ⊢
        rw [List.foldl_append, i1]
        simp only [List.foldl_cons, List.foldl_nil, numF]
        rw [hd]
        omega
      · intro c hc
        rcases List.mem_append.1 hc with hc | hc
        · exact i2 c hc
        · simp only [List.mem_singleton] at hc
          subst hc
          unfold isD
          rw [hd]
          omega
      · intro _
        have hl : 0 < (decDigits (u / 10)).length := by
          cases hx : decDigits (u / 10) with
          | nil => exact absurd hx i3
          | cons a b => simp
        rw [List.getElem?_append_left hl]
        exact i5 (by omega)

/-- A number's digits say it, up to any bound that is not below it. -/
theorem itoa_num (n : Int) (h : 0 ≤ n) (most : Int) : numV (itoa n) = n.toNat ∧ (NumOk (itoa n) most ↔ n ≤ most) := by
  have e : itoa n = decDigits n.toNat := by unfold itoa; rw [if_neg (by omega)]
  obtain ⟨h1, h2, h3, h4, h5⟩ := dec_num n.toNat
  rw [e]
  refine ⟨h1, fun hn => ?_, fun hn => ⟨⟨h3, ?_⟩, ?_, ?_⟩⟩
  · have := hn.2.2
    rw [h1] at this
    omega
  · by_cases h0 : n.toNat = 0
    · exact .inl (h4 (by omega))
    · exact .inr (h5 h0)
  · intro i c hc
    exact h2 c (List.mem_of_getElem? hc)
  · rw [h1]; omega

/-- With a byte behind them that is no digit they are no number. -/
theorem num_tail {l : List UInt8} {c : UInt8} {most : Int} (hc : ¬ isD c) : ¬ NumOk (l ++ [c]) most := by
  intro h
  exact hc (h.2.1 l.length c (by simp))

end Go.Proofs.YtnejkfccdnadcaaDoor
