/- A region that draws its order, by facts: each operation's value, once it is there, meets its fact, in whatever order. -/
import Derived.Test.YtnejkfccdnadcaaDoorWords
import Derived.Orders
import Derived.Below
namespace Go.Proofs.YtnejkfccdnadcaaDoor
open Go.RowKit

theorem countP_lt {p q : Nat → Bool} : ∀ {l : List Nat} {i : Nat}, i ∈ l → p i = true → q i = false → (∀ j, q j = true → p j = true) → l.countP q < l.countP p := by
  intro l
  induction l with
  | nil => intro i h; cases h
  | cons a l ih =>
    intro i hi hp hq hqp
    rw [List.countP_cons, List.countP_cons]
    have hle : ∀ m : List Nat, m.countP q ≤ m.countP p := fun m => List.countP_mono_left (fun x _ h => hqp x h)
    rcases List.mem_cons.1 hi with rfl | hi
    · have := hle l
      simp [hp, hq]
      omega
    · have := ih hi hp hq hqp
      by_cases ha : q a = true
      · simp [ha, hqp a ha]; omega
      · simp [ha]; omega

/-- How many are not yet listed. -/
def unl (n : Nat) (listed : Array Bool) : Nat := (List.range n).countP fun j => !listed.getD j true

theorem unl_set {n i : Nat} {listed : Array Bool} (hi : i < n) (h : listed.getD i true = false) : unl n (listed.setIfInBounds i true) < unl n listed := by
  have hsz : i < listed.size := by
    rcases Nat.lt_or_ge i listed.size with h1 | h1
    · exact h1
    · rw [Array.getD_eq_getD_getElem?, Array.getElem?_eq_none h1] at h; cases h
  unfold unl
  refine countP_lt (i := i) (List.mem_range.2 hi) (by simp [h]) ?_ ?_
  · simp [Array.getD_eq_getD_getElem?, hsz]
  · intro j hj
    by_cases e : i = j
    · subst e
      simp [Array.getD_eq_getD_getElem?, hsz] at hj
    · simpa [Array.getD_eq_getD_getElem?, Array.getElem?_setIfInBounds, e] using hj

section
variable {P : Program} {md : Region.Mode} {ops : Array Oper} {Q : Exit → Act → World → Prop}

theorem ready_mem {listed : Array Bool} {i : Nat} (h : i ∈ Region.ready md ops listed) : ∃ o, ops[i]? = some o ∧ listed.getD i true = false ∧ ∀ e ∈ o.after, Region.binds md e = true → listed.getD e.on false = true := by
  unfold Region.ready at h
  rw [List.mem_filter, List.mem_range] at h
  obtain ⟨hi, h⟩ := h
  rw [Array.getElem?_eq_getElem hi] at h
  simp only [Option.map_some, Option.getD_some, Bool.and_eq_true] at h
  refine ⟨ops[i], Array.getElem?_eq_getElem hi, by simpa using h.1, fun e he hb => ?_⟩
  have := (Array.all_eq_true_iff_forall_mem.1 h.2) e he
  simpa [hb] using this

/-- All are listed where none is ready (each waits for earlier ones alone). -/
theorem none_ready (hac : ∀ (i : Nat) o, ops[i]? = some o → ∀ e ∈ o.after, e.on < i) {listed : Array Bool} (hs : listed.size = ops.size) (h : Region.ready md ops listed = []) : ∀ i, i < ops.size → listed.getD i false = true := by
  intro i
  induction i using Nat.strongRecOn with
  | ind i ih =>
    intro hi
    by_cases hl : listed.getD i false = true
    · exact hl
    · exfalso
      have hm : i ∈ Region.ready md ops listed := by
        unfold Region.ready
        rw [List.mem_filter, List.mem_range]
        refine ⟨hi, ?_⟩
        have hli : i < listed.size := by omega
        have hf : listed[i] = false := by
          rw [Array.getD_eq_getD_getElem?, Array.getElem?_eq_getElem hli] at hl
          simpa using hl
        rw [Array.getElem?_eq_getElem hi]
        simp only [Option.map_some, Option.getD_some, Bool.and_eq_true]
        refine ⟨by rw [Array.getD_eq_getD_getElem?, Array.getElem?_eq_getElem hli]; simp [hf], ?_⟩
        rw [Array.all_eq_true_iff_forall_mem]
        intro e he
        have h1 := hac i ops[i] (Array.getElem?_eq_getElem hi) e he
        rw [ih e.on h1 (by omega)]
        simp
      rw [h] at hm
      cases hm

/-- An invariant of what is listed, of the state and of the world serves for every order. -/
theorem any_inv (hac : ∀ (i : Nat) o, ops[i]? = some o → ∀ e ∈ o.after, e.on < i) (I : Array Bool → Act → World → Prop)
    (hstep : ∀ i o listed a w, ops[i]? = some o → listed.size = ops.size → listed.getD i true = false → (∀ e ∈ o.after, Region.binds md e = true → listed.getD e.on false = true) → I listed a w → wpOp P ops Q i (I (listed.setIfInBounds i true)) a w)
    (hend : ∀ listed a w, (∀ i, i < ops.size → listed.getD i false = true) → I listed a w → Q .normal a w) :
    ∀ (fuel : Nat) (listed : Array Bool) (a : Act) (w : World), listed.size = ops.size → unl ops.size listed ≤ fuel → I listed a w → wpAny P md ops Q fuel listed a w := by
  intro fuel
  induction fuel with
  | zero =>
    intro listed a w hs hf hI
    have hr : Region.ready md ops listed = [] := by
      cases hr : Region.ready md ops listed with
      | nil => rfl
      | cons i r =>
        exfalso
        obtain ⟨o, ho, hl, _⟩ := ready_mem (i := i) (md := md) (ops := ops) (listed := listed) (by rw [hr]; exact List.mem_cons_self)
        have := unl_set (n := ops.size) (Array.getElem?_eq_some_iff.1 ho).1 hl
        omega
    exact ⟨hr, hend listed a w (none_ready hac hs hr) hI⟩
  | succ fuel ih =>
    intro listed a w hs hf hI
    refine ⟨fun hr => hend listed a w (none_ready hac hs hr) hI, fun i hi => ?_⟩
    obtain ⟨o, ho, hl, hd⟩ := ready_mem hi
    refine wpOp_mono (fun a' w' h' => ?_) (hstep i o listed a w ho hs hl hd hI)
    have := unl_set (n := ops.size) (Array.getElem?_eq_some_iff.1 ho).1 hl
    exact ih _ a' w' (by simp [hs]) (by omega) h'
end

/-- No guards; each operation waits for earlier ones alone, and has a slot of its own. -/
def tidyB (N : Nat) (ops : Array Oper) : Bool :=
  (List.range ops.size).all fun i => match ops[i]? with
    | none => true
    | some o => o.guard.isNone && o.after.all (fun e => decide (e.on < i)) && (match o.dst with
      | none => true
      | some d => decide (d < N) && (List.range i).all fun j => match ops[j]? with
        | none => true
        | some oj => oj.dst != some d)

theorem tidy_at {N : Nat} {ops : Array Oper} (h : tidyB N ops = true) {i : Nat} {o : Oper} (ho : ops[i]? = some o) :
    o.guard = none ∧ (∀ e ∈ o.after, e.on < i) ∧ ∀ d, o.dst = some d → d < N ∧ ∀ (j : Nat) oj, j < i → ops[j]? = some oj → oj.dst ≠ some d := by
  have hi := (Array.getElem?_eq_some_iff.1 ho).1
  have h1 := List.all_eq_true.1 h i (List.mem_range.2 hi)
  rw [ho] at h1
  simp only [Bool.and_eq_true] at h1
  obtain ⟨⟨h2, h3⟩, h4⟩ := h1
  refine ⟨by simpa using h2, fun e he => by simpa using (Array.all_eq_true_iff_forall_mem.1 h3) e he, fun d hd => ?_⟩
  rw [hd] at h4
  simp only [Bool.and_eq_true] at h4
  refine ⟨by simpa using h4.1, fun j oj hj hoj e => ?_⟩
  have h5 := List.all_eq_true.1 h4.2 j (List.mem_range.2 hj)
  rw [hoj] at h5
  simp [e] at h5

theorem tidy_one {N : Nat} {ops : Array Oper} (h : tidyB N ops = true) {i j d : Nat} {o oj : Oper} (ho : ops[i]? = some o) (hoj : ops[j]? = some oj) (hd : o.dst = some d) (hdj : oj.dst = some d) : i = j := by
  rcases Nat.lt_trichotomy i j with h1 | h1 | h1
  · exact absurd hd (((tidy_at h hoj).2.2 d hdj).2 i o h1 ho)
  · exact h1
  · exact absurd hdj (((tidy_at h ho).2.2 d hd).2 j oj h1 hoj)

theorem no_dst {ops : Array Oper} {d : Nat} (h : (ops.all fun o => o.dst != some d) = true) : ∀ (j : Nat) oj, ops[j]? = some oj → oj.dst ≠ some d := by
  intro j oj hj e
  obtain ⟨hi, rfl⟩ := Array.getElem?_eq_some_iff.1 hj
  have := (Array.all_eq_true.1 h) j hi
  rw [e] at this
  simp at this

/-- THE RULE: each operation's value meets its fact F; facts are kept by what each operation does (Kp); G holds throughout. -/
theorem wp_region_facts {P : Program} {ops : Array Oper} {Q : Exit → Act → World → Prop} {id : Nat} {a0 : Act} {w0 : World} (hm : P.follows .mixedOrders = true) (ht : tidyB a0.tmps.size ops = true)
    (F : Nat → Value → World → Prop) (Kp : World → World → Prop) (hF : ∀ i v w w', F i v w → Kp w w' → F i v w') (G : World → Prop) (hG : G w0.drew)
    (hstep : ∀ (i : Nat) (o : Oper) (a : Act) (w : World), ops[i]? = some o → a.tmps.size = a0.tmps.size → (∀ d, (∀ (j : Nat) oj, ops[j]? = some oj → oj.dst ≠ some d) → a.tmps[d]? = a0.tmps[d]?) →
      (∀ e ∈ o.after, Region.binds .any e = true → ∀ oe d, ops[e.on]? = some oe → oe.dst = some d → ∃ v, a.tmps[d]? = some v ∧ F e.on v w) → G w →
      o.wp P a w (fun a' w' => ∃ v, a' = a.put o.dst v ∧ F i v w' ∧ Kp w w' ∧ G w') Q)
    (hend : ∀ (a : Act) (w : World), a.defers = a0.defers → a.tmps.size = a0.tmps.size → (∀ d, (∀ (j : Nat) oj, ops[j]? = some oj → oj.dst ≠ some d) → a.tmps[d]? = a0.tmps[d]?) →
      (∀ (i : Nat) o d, ops[i]? = some o → o.dst = some d → ∃ v, a.tmps[d]? = some v ∧ F i v w) → G w → Q .normal a w) :
    (Code.region id ops true).wp P Q a0 w0 := by
  refine wp_region_any hm ?_
  refine any_inv (fun i o ho => (tidy_at ht ho).2.1) (fun listed a w => a.defers = a0.defers ∧ a.tmps.size = a0.tmps.size ∧ (∀ d, (∀ (j : Nat) oj, ops[j]? = some oj → oj.dst ≠ some d) → a.tmps[d]? = a0.tmps[d]?) ∧
    (∀ (i : Nat) o d, ops[i]? = some o → o.dst = some d → listed.getD i false = true → ∃ v, a.tmps[d]? = some v ∧ F i v w) ∧ G w) ?_ ?_ _ _ _ _ (by simp) ?_ ⟨rfl, rfl, fun _ _ => rfl, ?_, hG⟩
  · rintro i o listed a w ho hsz hl hd ⟨i1, i2, i3, i4, i5⟩
    obtain ⟨g1, g2, g3⟩ := tidy_at ht ho
    have hil : i < listed.size := by rw [hsz]; exact (Array.getElem?_eq_some_iff.1 ho).1
    have hw : Region.wanted o (yielded ops a.tmps) = true := by simp [Region.wanted, g1]
    unfold wpOp
    rw [ho]
    simp only [hw, if_true]
    refine .inl (Oper.wp_mono ?_ (hstep i o a w ho i2 i3 (fun e he hb oe d hoe hde => i4 e.on oe d hoe hde (hd e he hb)) i5))
    rintro a' w' ⟨v, rfl, k1, k2, k3⟩
    cases hdst : o.dst with
    | none =>
      refine ⟨i1, i2, i3, fun j oj d hoj hdj hlj => ?_, k3⟩
      have hji : j ≠ i := fun e => by subst e; rw [ho] at hoj; cases hoj; rw [hdst] at hdj; cases hdj
      obtain ⟨u, u1, u2⟩ := i4 j oj d hoj hdj (by simpa [Array.getD_eq_getD_getElem?, Array.getElem?_setIfInBounds, Ne.symm hji] using hlj)
      exact ⟨u, u1, hF _ _ _ _ u2 k2⟩
    | some d0 =>
      have hd0 := (g3 d0 hdst).1
      have hput : (a.put (some d0) v).tmps = a.tmps.setIfInBounds d0 v := rfl
      refine ⟨i1, by rw [hput]; simp [i2], fun d hn => ?_, fun j oj d hoj hdj hlj => ?_, k3⟩
      · rw [hput, Array.getElem?_setIfInBounds]
        have : d0 ≠ d := fun e => hn i o ho (by rw [hdst, e])
        rw [if_neg this]
        exact i3 d hn
      · rw [hput, Array.getElem?_setIfInBounds]
        by_cases hji : j = i
        · subst hji
          rw [ho] at hoj
          cases hoj
          rw [hdst] at hdj
          cases hdj
          rw [if_pos rfl, if_pos (by rw [i2]; exact hd0)]
          exact ⟨v, rfl, k1⟩
        · have hdd : d0 ≠ d := fun e => hji (tidy_one ht hoj ho hdj (by rw [hdst, e]))
          rw [if_neg hdd]
          obtain ⟨u, u1, u2⟩ := i4 j oj d hoj hdj (by simpa [Array.getD_eq_getD_getElem?, Array.getElem?_setIfInBounds, Ne.symm hji] using hlj)
          exact ⟨u, u1, hF _ _ _ _ u2 k2⟩
  · rintro listed a w hall ⟨i1, i2, i3, i4, i5⟩
    exact hend a w i1 i2 i3 (fun i o d ho hd => i4 i o d ho hd (hall i (Array.getElem?_eq_some_iff.1 ho).1)) i5
  · exact Nat.le_trans List.countP_le_length (by simp)
  · intro i o d _ _ h
    exfalso
    rw [Array.getD_eq_getD_getElem?, Array.getElem?_replicate] at h
    split at h <;> simp at h

end Go.Proofs.YtnejkfccdnadcaaDoor
