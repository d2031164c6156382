/- The rule of facts, with the slots that an operation reads ahead of their writers. -/
import Derived.Test.YtnejkfccdnadcaaDoorFacts
namespace Go.Proofs.YtnejkfccdnadcaaDoor
open Go.RowKit

/-- Operation j is i, or waits for it. -/
def waitsF (ops : Array Oper) (i : Nat) : Nat → Nat → Bool
  | 0, _ => false
  | n + 1, j => decide (j = i) || (match ops[j]? with
    | none => false
    | some o => o.after.toList.any fun e => Region.binds .any e && waitsF ops i n e.on)

theorem waits_listed {ops : Array Oper} {listed : Array Bool} (hc : ∀ (j : Nat) oj, ops[j]? = some oj → listed.getD j false = true → ∀ e ∈ oj.after, Region.binds .any e = true → listed.getD e.on false = true) (i : Nat) :
    ∀ (n j : Nat), waitsF ops i n j = true → listed.getD j false = true → listed.getD i false = true := by
  intro n
  induction n with
  | zero => intro j h; cases h
  | succ n ih =>
    intro j h hj
    simp only [waitsF, Bool.or_eq_true, decide_eq_true_eq] at h
    rcases h with rfl | h
    · exact hj
    · cases ho : ops[j]? with
      | none => rw [ho] at h; cases h
      | some o =>
        rw [ho] at h
        simp only [List.any_eq_true, Bool.and_eq_true] at h
        obtain ⟨e, he, hb, hw⟩ := h
        exact ih e.on hw (hc j o ho hj e (by simpa using he) hb)

/-- All writers of slot d are i, or wait for it. -/
def readsB (ops : Array Oper) (i d : Nat) : Bool :=
  (List.range ops.size).all fun j => match ops[j]? with
    | none => true
    | some oj => oj.dst != some d || waitsF ops i ops.size j

theorem reads_at {ops : Array Oper} {i d : Nat} (h : readsB ops i d = true) : ∀ (j : Nat) oj, ops[j]? = some oj → oj.dst = some d → waitsF ops i ops.size j = true := by
  intro j oj hj hd
  have h1 := List.all_eq_true.1 h j (List.mem_range.2 (Array.getElem?_eq_some_iff.1 hj).1)
  rw [hj] at h1
  simpa [hd] using h1

theorem wp_region_facts2 {P : Program} {ops : Array Oper} {Q : Exit → Act → World → Prop} {id : Nat} {a0 : Act} {w0 : World} (hm : P.follows .mixedOrders = true) (ht : tidyB a0.tmps.size ops = true)
    (F : Nat → Value → World → Prop) (Kp : World → World → Prop) (hF : ∀ i v w w', F i v w → Kp w w' → F i v w') (G : World → Prop) (hG : G w0.drew)
    (hstep : ∀ (i : Nat) (o : Oper) (a : Act) (w : World), ops[i]? = some o → a.tmps.size = a0.tmps.size → (∀ d, (∀ (j : Nat) oj, ops[j]? = some oj → oj.dst = some d → waitsF ops i ops.size j = true) → a.tmps[d]? = a0.tmps[d]?) →
      (∀ e ∈ o.after, Region.binds .any e = true → ∀ oe d, ops[e.on]? = some oe → oe.dst = some d → ∃ v, a.tmps[d]? = some v ∧ F e.on v w) → G w →
      o.wp P a w (fun a' w' => ∃ v, a' = a.put o.dst v ∧ F i v w' ∧ Kp w w' ∧ G w') Q)
    (hend : ∀ (a : Act) (w : World), a.defers = a0.defers → a.tmps.size = a0.tmps.size → (∀ d, (∀ (j : Nat) oj, ops[j]? = some oj → oj.dst ≠ some d) → a.tmps[d]? = a0.tmps[d]?) →
      (∀ (i : Nat) o d, ops[i]? = some o → o.dst = some d → ∃ v, a.tmps[d]? = some v ∧ F i v w) → G w → Q .normal a w) :
    (Code.region id ops true).wp P Q a0 w0 := by
  refine wp_region_any hm ?_
  refine any_inv (fun i o ho => (tidy_at ht ho).2.1) (fun listed a w => a.defers = a0.defers ∧ a.tmps.size = a0.tmps.size ∧ (∀ d, (∀ (j : Nat) oj, ops[j]? = some oj → oj.dst = some d → listed.getD j false = false) → a.tmps[d]? = a0.tmps[d]?) ∧
    (∀ (i : Nat) o d, ops[i]? = some o → o.dst = some d → listed.getD i false = true → ∃ v, a.tmps[d]? = some v ∧ F i v w) ∧ G w ∧
    (∀ (j : Nat) oj, ops[j]? = some oj → listed.getD j false = true → ∀ e ∈ oj.after, Region.binds .any e = true → listed.getD e.on false = true)) ?_ ?_ _ _ _ _ (by simp) ?_ ⟨rfl, rfl, fun _ _ => rfl, ?_, hG, ?_⟩
  · rintro i o listed a w ho hsz hl hd ⟨i1, i2, i3, i4, i5, i6⟩
    obtain ⟨g1, g2, g3⟩ := tidy_at ht ho
    have hil : i < listed.size := by rw [hsz]; exact (Array.getElem?_eq_some_iff.1 ho).1
    have hlf : listed.getD i false = false := by
      rw [Array.getD_eq_getD_getElem?, Array.getElem?_eq_getElem hil] at hl ⊢
      simpa using hl
    have hset : ∀ j, j ≠ i → (listed.setIfInBounds i true).getD j false = listed.getD j false := fun j hji => by
      simp [Array.getD_eq_getD_getElem?, Ne.symm hji]
    have hseti : (listed.setIfInBounds i true).getD i false = true := by
      simp [Array.getD_eq_getD_getElem?, hil]
    have hup : ∀ j, listed.getD j false = true → (listed.setIfInBounds i true).getD j false = true := fun j hj => by
      by_cases hji : j = i
      · subst hji; exact hseti
      · rw [hset j hji]; exact hj
    have hw : Region.wanted o (yielded ops a.tmps) = true := by simp [Region.wanted, g1]
    have hclose : ∀ (j : Nat) oj, ops[j]? = some oj → (listed.setIfInBounds i true).getD j false = true → ∀ e ∈ oj.after, Region.binds .any e = true → (listed.setIfInBounds i true).getD e.on false = true := fun j oj hj hlj e he hb => by
      by_cases hji : j = i
      · subst hji
        rw [ho] at hj
        cases hj
        exact hup _ (hd e he hb)
      · rw [hset j hji] at hlj
        exact hup _ (i6 j oj hj hlj e he hb)
    unfold wpOp
    rw [ho]
    simp only [hw, if_true]
    refine .inl (Oper.wp_mono ?_ (hstep i o a w ho i2 (fun d hn => i3 d (fun j oj hj hdj => by
      cases hlj : listed.getD j false with
      | false => rfl
      | true => exact absurd (waits_listed i6 i _ j (hn j oj hj hdj) hlj) (by rw [hlf]; simp))) (fun e he hb oe d hoe hde => i4 e.on oe d hoe hde (hd e he hb)) i5))
    rintro a' w' ⟨v, rfl, k1, k2, k3⟩
    cases hdst : o.dst with
    | none =>
      refine ⟨i1, i2, fun d hn => i3 d (fun j oj hj hdj => ?_), fun j oj d hoj hdj hlj => ?_, k3, hclose⟩
      · have hji : j ≠ i := fun e => by subst e; rw [ho] at hj; cases hj; rw [hdst] at hdj; cases hdj
        rw [← hset j hji]
        exact hn j oj hj hdj
      · have hji : j ≠ i := fun e => by subst e; rw [ho] at hoj; cases hoj; rw [hdst] at hdj; cases hdj
        obtain ⟨u, u1, u2⟩ := i4 j oj d hoj hdj (by rw [← hset j hji]; exact hlj)
        exact ⟨u, u1, hF _ _ _ _ u2 k2⟩
    | some d0 =>
      have hd0 := (g3 d0 hdst).1
      have hput : (a.put (some d0) v).tmps = a.tmps.setIfInBounds d0 v := rfl
      refine ⟨i1, by rw [hput]; simp [i2], fun d hn => ?_, fun j oj d hoj hdj hlj => ?_, k3, hclose⟩
      · rw [hput, Array.getElem?_setIfInBounds]
        have : d0 ≠ d := fun e => by
          have := hn i o ho (by rw [hdst, e])
          rw [hseti] at this
          cases this
        rw [if_neg this]
        refine i3 d (fun j oj hj hdj => ?_)
        have hji : j ≠ i := fun e => by
          subst e
          have := hn j oj hj hdj
          rw [hseti] at this
          cases this
        rw [← hset j hji]
        exact hn j oj hj hdj
      · rw [hput, Array.getElem?_setIfInBounds]
        by_cases hji : j = i
        · subst hji
          rw [ho] at hoj
          cases hoj
          rw [hdst] at hdj
          cases hdj
          rw [if_pos rfl, if_pos (by rw [i2]; exact hd0)]
          exact ⟨v, rfl, k1⟩
        · have hdd : d0 ≠ d := fun e => hji (tidy_one ht hoj ho hdj (by rw [hdst, e]))
          rw [if_neg hdd]
          obtain ⟨u, u1, u2⟩ := i4 j oj d hoj hdj (by rw [← hset j hji]; exact hlj)
          exact ⟨u, u1, hF _ _ _ _ u2 k2⟩
  · rintro listed a w hall ⟨i1, i2, i3, i4, i5, i6⟩
    exact hend a w i1 i2 (fun d hn => i3 d (fun j oj hj hdj => absurd hdj (hn j oj hj))) (fun i o d ho hd => i4 i o d ho hd (hall i (Array.getElem?_eq_some_iff.1 ho).1)) i5
  · exact Nat.le_trans List.countP_le_length (by simp)
  · intro i o d _ _ h
    exfalso
    rw [Array.getD_eq_getD_getElem?, Array.getElem?_replicate] at h
    split at h <;> simp at h
  · intro j oj _ h
    exfalso
    rw [Array.getD_eq_getD_getElem?, Array.getElem?_replicate] at h
    split at h <;> simp at h

end Go.Proofs.YtnejkfccdnadcaaDoor
