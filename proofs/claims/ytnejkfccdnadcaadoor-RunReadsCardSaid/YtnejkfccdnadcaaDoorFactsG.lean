/- The rule of facts, where operations are guarded by operations that come out as wanted. -/
import Derived.Test.YtnejkfccdnadcaaDoorFactsB
namespace Go.Proofs.YtnejkfccdnadcaaDoor
open Go.RowKit

/-- Each guard is waited for, and has a slot; each operation waits for earlier ones alone, and has a slot of its own. -/
def tidyG (N : Nat) (ops : Array Oper) : Bool :=
  (List.range ops.size).all fun i => match ops[i]? with
    | none => true
    | some o => (match o.guard with
      | none => true
      | some (g, _) => (o.after.toList.any fun e => decide (e.on = g) && Region.binds .any e) && (match ops[g]? with
        | none => false
        | some og => og.dst.isSome)) && o.after.all (fun e => decide (e.on < i)) && (match o.dst with
      | none => true
      | some d => decide (d < N) && (List.range i).all fun j => match ops[j]? with
        | none => true
        | some oj => oj.dst != some d)

theorem tidyG_at {N : Nat} {ops : Array Oper} (h : tidyG N ops = true) {i : Nat} {o : Oper} (ho : ops[i]? = some o) :
    (∀ g want, o.guard = some (g, want) → ∃ e, e ∈ o.after ∧ Region.binds .any e = true ∧ e.on = g ∧ ∃ og d, ops[e.on]? = some og ∧ og.dst = some d) ∧ (∀ e ∈ o.after, e.on < i) ∧ ∀ d, o.dst = some d → d < N ∧ ∀ (j : Nat) oj, j < i → ops[j]? = some oj → oj.dst ≠ some d := by
  have hi := (Array.getElem?_eq_some_iff.1 ho).1
  have h1 := List.all_eq_true.1 h i (List.mem_range.2 hi)
  rw [ho] at h1
  simp only [Bool.and_eq_true] at h1
  obtain ⟨⟨h2, h3⟩, h4⟩ := h1
  refine ⟨fun g want hg => ?_, fun e he => by simpa using (Array.all_eq_true_iff_forall_mem.1 h3) e he, fun d hd => ?_⟩
  · rw [hg] at h2
    simp only [Bool.and_eq_true, List.any_eq_true, decide_eq_true_eq] at h2
    obtain ⟨⟨e, he, h5, h6⟩, h7⟩ := h2
    cases hog : ops[g]? with
    | none => rw [hog] at h7; cases h7
    | some og =>
      rw [hog] at h7
      obtain ⟨d, hd⟩ := Option.isSome_iff_exists.1 h7
      exact ⟨e, by simpa using he, h6, h5, og, d, by rw [h5]; exact hog, hd⟩
  rw [hd] at h4
  simp only [Bool.and_eq_true] at h4
  refine ⟨by simpa using h4.1, fun j oj hj hoj e => ?_⟩
  have h5 := List.all_eq_true.1 h4.2 j (List.mem_range.2 hj)
  rw [hoj] at h5
  simp [e] at h5

theorem tidyG_one {N : Nat} {ops : Array Oper} (h : tidyG N ops = true) {i j d : Nat} {o oj : Oper} (ho : ops[i]? = some o) (hoj : ops[j]? = some oj) (hd : o.dst = some d) (hdj : oj.dst = some d) : i = j := by
  rcases Nat.lt_trichotomy i j with h1 | h1 | h1
  · exact absurd hd (((tidyG_at h hoj).2.2 d hdj).2 i o h1 ho)
  · exact h1
  · exact absurd hdj (((tidyG_at h ho).2.2 d hd).2 j oj h1 hoj)

theorem wp_region_facts3 {P : Program} {ops : Array Oper} {Q : Exit → Act → World → Prop} {id : Nat} {a0 : Act} {w0 : World} (hm : P.follows .mixedOrders = true) (ht : tidyG a0.tmps.size ops = true)
    (F : Nat → Value → World → Prop) (Kp : World → World → Prop) (hF : ∀ i v w w', F i v w → Kp w w' → F i v w') (G : World → Prop) (hG : G w0.drew)
    (hgd : ∀ (i : Nat) o g want, ops[i]? = some o → o.guard = some (g, want) → ∀ v w, F g v w → v = .bool want)
    (hstep : ∀ (i : Nat) (o : Oper) (a : Act) (w : World), ops[i]? = some o → a.tmps.size = a0.tmps.size → (∀ d, (∀ (j : Nat) oj, ops[j]? = some oj → oj.dst = some d → waitsF ops i ops.size j = true) → a.tmps[d]? = a0.tmps[d]?) →
      (∀ e ∈ o.after, Region.binds .any e = true → ∀ oe d, ops[e.on]? = some oe → oe.dst = some d → ∃ v, a.tmps[d]? = some v ∧ F e.on v w) → G w →
      o.wp P a w (fun a' w' => ∃ v, a' = a.put o.dst v ∧ F i v w' ∧ Kp w w' ∧ G w') Q)
    (hend : ∀ (a : Act) (w : World), a.defers = a0.defers → a.tmps.size = a0.tmps.size → (∀ d, (∀ (j : Nat) oj, ops[j]? = some oj → oj.dst ≠ some d) → a.tmps[d]? = a0.tmps[d]?) →
      (∀ (i : Nat) o d, ops[i]? = some o → o.dst = some d → ∃ v, a.tmps[d]? = some v ∧ F i v w) → G w → Q .normal a w) :
    (Code.region id ops true).wp P Q a0 w0 := by
  refine wp_region_any hm ?_
  refine any_inv (fun i o ho => (tidyG_at ht ho).2.1) (fun listed a w => a.defers = a0.defers ∧ a.tmps.size = a0.tmps.size ∧ (∀ d, (∀ (j : Nat) oj, ops[j]? = some oj → oj.dst = some d → listed.getD j false = false) → a.tmps[d]? = a0.tmps[d]?) ∧
    (∀ (i : Nat) o d, ops[i]? = some o → o.dst = some d → listed.getD i false = true → ∃ v, a.tmps[d]? = some v ∧ F i v w) ∧ G w ∧
    (∀ (j : Nat) oj, ops[j]? = some oj → listed.getD j false = true → ∀ e ∈ oj.after, Region.binds .any e = true → listed.getD e.on false = true)) ?_ ?_ _ _ _ _ (by simp) ?_ ⟨rfl, rfl, fun _ _ => rfl, ?_, hG, ?_⟩
  · rintro i o listed a w ho hsz hl hd ⟨i1, i2, i3, i4, i5, i6⟩
    obtain ⟨g1, g2, g3⟩ := tidyG_at ht ho
    have hil : i < listed.size := by rw [hsz]; exact (Array.getElem?_eq_some_iff.1 ho).1
    have hlf : listed.getD i false = false := by
      rw [Array.getD_eq_getD_getElem?, Array.getElem?_eq_getElem hil] at hl ⊢
      simpa using hl
    have hset : ∀ j, j ≠ i → (listed.setIfInBounds i true).getD j false = listed.getD j false := fun j hji => by
      simp [Array.getD_eq_getD_getElem?, Ne.symm hji]
    have hseti : (listed.setIfInBounds i true).getD i false = true := by
      simp [Array.getD_eq_getD_getElem?, hil]
    have hup : ∀ j, listed.getD j false = true → (listed.setIfInBounds i true).getD j false = true := fun j hj => by
      by_cases hji : j = i
      · subst hji; exact hseti
      · rw [hset j hji]; exact hj
    have hw : Region.wanted o (yielded ops a.tmps) = true := by
      unfold Region.wanted
      cases hgu : o.guard with
      | none => rfl
      | some gw =>
        obtain ⟨g, want⟩ := gw
        obtain ⟨e, he, hb, rfl, og, d, hog, hdg⟩ := g1 g want hgu
        obtain ⟨v, hv, hF1⟩ := i4 e.on og d hog hdg (hd e he hb)
        obtain rfl := hgd i o e.on want ho hgu v w hF1
        simp [yielded, hog, hdg, hv]
    have hclose : ∀ (j : Nat) oj, ops[j]? = some oj → (listed.setIfInBounds i true).getD j false = true → ∀ e ∈ oj.after, Region.binds .any e = true → (listed.setIfInBounds i true).getD e.on false = true := fun j oj hj hlj e he hb => by
      by_cases hji : j = i
      · subst hji
        rw [ho] at hj
        cases hj
        exact hup _ (hd e he hb)
      · rw [hset j hji] at hlj
        exact hup _ (i6 j oj hj hlj e he hb)
    unfold wpOp
    rw [ho]
    simp only [hw, if_true]
    refine .inl (Oper.wp_mono ?_ (hstep i o a w ho i2 (fun d hn => i3 d (fun j oj hj hdj => by
      cases hlj : listed.getD j false with
      | false => rfl
      | true => exact absurd (waits_listed i6 i _ j (hn j oj hj hdj) hlj) (by rw [hlf]; simp))) (fun e he hb oe d hoe hde => i4 e.on oe d hoe hde (hd e he hb)) i5))
    rintro a' w' ⟨v, rfl, k1, k2, k3⟩
    cases hdst : o.dst with
    | none =>
      refine ⟨i1, i2, fun d hn => i3 d (fun j oj hj hdj => ?_), fun j oj d hoj hdj hlj => ?_, k3, hclose⟩
      · have hji : j ≠ i := fun e => by subst e; rw [ho] at hj; cases hj; rw [hdst] at hdj; cases hdj
        rw [← hset j hji]
        exact hn j oj hj hdj
      · have hji : j ≠ i := fun e => by subst e; rw [ho] at hoj; cases hoj; rw [hdst] at hdj; cases hdj
        obtain ⟨u, u1, u2⟩ := i4 j oj d hoj hdj (by rw [← hset j hji]; exact hlj)
        exact ⟨u, u1, hF _ _ _ _ u2 k2⟩
    | some d0 =>
      have hd0 := (g3 d0 hdst).1
      have hput : (a.put (some d0) v).tmps = a.tmps.setIfInBounds d0 v := rfl
      refine ⟨i1, by rw [hput]; simp [i2], fun d hn => ?_, fun j oj d hoj hdj hlj => ?_, k3, hclose⟩
      · rw [hput, Array.getElem?_setIfInBounds]
        have : d0 ≠ d := fun e => by
          have := hn i o ho (by rw [hdst, e])
          rw [hseti] at this
          cases this
        rw [if_neg this]
        refine i3 d (fun j oj hj hdj => ?_)
        have hji : j ≠ i := fun e => by
          subst e
          have := hn j oj hj hdj
          rw [hseti] at this
          cases this
        rw [← hset j hji]
        exact hn j oj hj hdj
      · rw [hput, Array.getElem?_setIfInBounds]
        by_cases hji : j = i
        · subst hji
          rw [ho] at hoj
          cases hoj
          rw [hdst] at hdj
          cases hdj
          rw [if_pos rfl, if_pos (by rw [i2]; exact hd0)]
          exact ⟨v, rfl, k1⟩
        · have hdd : d0 ≠ d := fun e => hji (tidyG_one ht hoj ho hdj (by rw [hdst, e]))
          rw [if_neg hdd]
          obtain ⟨u, u1, u2⟩ := i4 j oj d hoj hdj (by rw [← hset j hji]; exact hlj)
          exact ⟨u, u1, hF _ _ _ _ u2 k2⟩
  · rintro listed a w hall ⟨i1, i2, i3, i4, i5, i6⟩
    exact hend a w i1 i2 (fun d hn => i3 d (fun j oj hj hdj => absurd hdj (hn j oj hj))) (fun i o d ho hd => i4 i o d ho hd (hall i (Array.getElem?_eq_some_iff.1 ho).1)) i5
  · exact Nat.le_trans List.countP_le_length (by simp)
  · intro i o d _ _ h
    exfalso
    rw [Array.getD_eq_getD_getElem?, Array.getElem?_replicate] at h
    split at h <;> simp at h
  · intro j oj _ h
    exfalso
    rw [Array.getD_eq_getD_getElem?, Array.getElem?_replicate] at h
    split at h <;> simp at h

end Go.Proofs.YtnejkfccdnadcaaDoor
