/- Where the words stand. -/
import Derived.Test.YtjmokodifkjfgaaDoorLexS
namespace Go.Proofs.YtjmokodifkjfgaaDoor
open Go.RowKit Go.Shelf Go.Lib

/-- How many line ends stand ahead of k. -/
def nl (l : List UInt8) (k : Nat) : Nat := (l.take k).count 10

theorem nl_step {l : List UInt8} {k : Nat} {c : UInt8} (h : l[k]? = some c) : nl l (k + 1) = nl l k + (if c = 10 then 1 else 0) := by
  obtain ⟨hk, he⟩ := List.getElem?_eq_some_iff.1 h
  unfold nl
  rw [List.take_succ_eq_append_getElem hk, List.count_append, he]
  split
  · rename_i h; rw [h]; rfl
  · rename_i h; rw [List.count_singleton]; simp [h]

def wordB (c : UInt8) : Prop := ws c = false ∧ c ≠ 10 ∧ c ≠ 35

/-- Words that stand behind position e, of whose lines the last one was 'line'. -/
def Placed (l : List UInt8) : Bool → Nat → Nat → List Wd → Prop
  | _, _, _, [] => True
  | first, e, line, x :: xs => ∃ p n q : Nat, x = ⟨p, q, ⟨((l.drop p).take n).toArray⟩⟩ ∧ e ≤ p ∧ 0 < n ∧ p + n ≤ l.length ∧ q + nl l e = line + nl l p ∧
      (∀ k c, p ≤ k → k < p + n → l[k]? = some c → wordB c) ∧
      (first = false → q = line → e < p ∧ ∀ k c, e ≤ k → k < p → l[k]? = some c → ws c = true) ∧ Placed l false (p + n) q xs

/-- What is known between two words, at position i of line q. -/
def Gap (l : List UInt8) (first off : Bool) (e line i q : Nat) : Prop :=
  e ≤ i ∧ q + nl l e = line + nl l i ∧ (first = false → e < i) ∧ (first = false → q = line → off = false → ∀ k c, e ≤ k → k < i → l[k]? = some c → ws c = true)

/-- What is known within a word. -/
def Mid (l : List UInt8) (first : Bool) (e line p i q : Nat) : Prop :=
  e ≤ p ∧ p < i ∧ i ≤ l.length ∧ q + nl l e = line + nl l p ∧ (∀ k c, p ≤ k → k < i → l[k]? = some c → wordB c) ∧
    (first = false → q = line → e < p ∧ ∀ k c, e ≤ k → k < p → l[k]? = some c → ws c = true)

theorem Mid.emit {l : List UInt8} {first : Bool} {e line p i q : Nat} {xs : List Wd} {t : List UInt8} (h : Mid l first e line p i q) (ht : t = (l.drop p).take (i - p)) (hx : Placed l false i q xs) :
    Placed l first e line (⟨p, q, ⟨t.toArray⟩⟩ :: xs) := by
  obtain ⟨h1, h2, h3, h4, h5, h6⟩ := h
  have e1 : p + (i - p) = i := by omega
  exact ⟨p, i - p, q, by rw [ht], h1, by omega, by omega, h4, by rw [e1]; exact h5, h6, by rw [e1]; exact hx⟩

theorem nl_same {l : List UInt8} {p : Nat} : ∀ i, p ≤ i → (∀ k c, p ≤ k → k < i → l[k]? = some c → c ≠ 10) → i ≤ l.length → nl l i = nl l p := by
  intro i
  induction i with
  | zero => intro h _ _; have : p = 0 := by omega
            rw [this]
  | succ i ih =>
    intro h hc hl
    by_cases hp : p = i + 1
    · rw [hp]
    · have hi : i < l.length := by omega
      have hs : l[i]? = some l[i] := by simp [hi]
      rw [nl_step hs, if_neg (hc i _ (by omega) (by omega) hs), ih (by omega) (fun k c h1 h2 h3 => hc k c h1 (by omega) h3) (by omega)]
      rfl

/-- Behind a word's end at i, the next byte c being no word's. -/
theorem Gap.behind {l : List UInt8} {i q : Nat} {c : UInt8} (hc : l[i]? = some c) (off' : Bool) (q' : Nat) (hq : q' = q + (if c = 10 then 1 else 0)) (hw : off' = false → q' = q → ws c = true) :
    Gap l false off' i q (i + 1) q' := by
  refine ⟨by omega, by rw [nl_step hc, hq]; omega, fun _ => by omega, fun _ h1 h2 k d h3 h4 h5 => ?_⟩
  obtain rfl : k = i := by omega
  rw [hc] at h5
  cases h5
  exact hw h2 h1

theorem Gap.on {l : List UInt8} {first off off' : Bool} {e line i q : Nat} {c : UInt8} (h : Gap l first off e line i q) (hc : l[i]? = some c) (q' : Nat) (hq : q' = q + (if c = 10 then 1 else 0))
    (hw : off' = false → q' = line → ws c = true ∧ off = false) : Gap l first off' e line (i + 1) q' := by
  obtain ⟨h1, h2, h3, h4⟩ := h
  refine ⟨by omega, by rw [nl_step hc, hq]; omega, fun hf => by have := h3 hf; omega, fun hf h5 h6 k d h7 h8 h9 => ?_⟩
  obtain ⟨w1, w2⟩ := hw h6 h5
  by_cases hk : k = i
  · subst hk
    rw [hc] at h9
    cases h9
    exact w1
  · have hc10 : c ≠ 10 := by rintro rfl; revert w1; decide
    rw [if_neg hc10] at hq
    exact h4 hf (by omega) w2 k d h7 (by omega) h9

theorem scan_placed (l : List UInt8) : ∀ (r done : List UInt8), done ++ r = l → ∀ (q : Nat) (first : Bool) (e line : Nat),
    (∀ off, Gap l first off e line done.length q → Placed l first e line (scan q off none done.length r)) ∧
    (∀ p t, Mid l first e line p done.length q → t = (l.drop p).take (done.length - p) → Placed l first e line (scan q false (some (p, t)) done.length r)) := by
  intro r
  induction r with
  | nil =>
    intro done hd q first e line
    refine ⟨fun off _ => trivial, fun p t hm ht => ?_⟩
    exact hm.emit ht trivial
  | cons c r ih =>
    intro done hd q first e line
    have hc : l[done.length]? = some c := by rw [← hd]; simp
    have hlen : done.length + 1 ≤ l.length := by rw [← hd]; simp
    have hdone : (done ++ [c]).length = done.length + 1 := by simp
    have hnext := fun q first e line => ih (done ++ [c]) (by rw [← hd]; simp) q first e line
    rw [hdone] at hnext
    constructor
    · intro off hg
      simp only [scan]
      by_cases h10 : c = 10
      · rw [if_pos h10]
        simp only [emit, List.nil_append]
        refine (hnext _ _ _ _).1 false (hg.on hc (q + 1) (by rw [if_pos h10]) (fun _ h => ?_))
        exfalso
        obtain ⟨h1, h2, -, -⟩ := hg
        have hle : nl l e ≤ nl l done.length := by
          unfold nl
          have := (List.take_prefix_take_left (l := l) h1).sublist.count_le (10 : UInt8)
          exact this
        omega
      · rw [if_neg h10]
        by_cases hoff : (off || c == 35) = true
        · rw [if_pos hoff]
          simp only [emit, List.nil_append]
          exact (hnext _ _ _ _).1 true (hg.on hc q (by rw [if_neg h10]; rfl) (fun h => by cases h))
        · rw [if_neg hoff]
          have ho : off = false := by cases off <;> simp_all
          subst ho
          by_cases hw : ws c = true
          · rw [if_pos hw]
            simp only [emit, List.nil_append]
            exact (hnext _ _ _ _).1 false (hg.on hc q (by rw [if_neg h10]; rfl) (fun _ _ => ⟨hw, rfl⟩))
          · rw [if_neg hw]
            simp only [grow]
            have h35 : c ≠ 35 := by intro h; simp [h] at hoff
            obtain ⟨h1, h2, h3, h4⟩ := hg
            refine (hnext _ _ _ _).2 done.length [c] ⟨h1, by omega, hlen, h2, ?_, fun hf hq => ⟨h3 hf, h4 hf hq rfl⟩⟩ ?_
            · intro k d k1 k2 k3
              obtain rfl : k = done.length := by omega
              rw [hc] at k3
              cases k3
              exact ⟨by simpa using hw, h10, h35⟩
            · rw [← hd]; simp
    · intro p t hm ht
      simp only [scan]
      by_cases h10 : c = 10
      · rw [if_pos h10]
        exact hm.emit ht ((hnext _ _ _ _).1 false (Gap.behind hc false (q + 1) (by rw [if_pos h10]) (fun _ h => by omega)))
      · rw [if_neg h10]
        by_cases hoff : (false || c == 35) = true
        · rw [if_pos hoff]
          exact hm.emit ht ((hnext _ _ _ _).1 true (Gap.behind hc true q (by rw [if_neg h10]; rfl) (fun h => by cases h)))
        · rw [if_neg hoff]
          by_cases hw : ws c = true
          · rw [if_pos hw]
            exact hm.emit ht ((hnext _ _ _ _).1 false (Gap.behind hc false q (by rw [if_neg h10]; rfl) (fun _ _ => hw)))
          · rw [if_neg hw]
            simp only [grow]
            have h35 : c ≠ 35 := by intro h; simp [h] at hoff
            obtain ⟨h1, h2, h3, h4, h5, h6⟩ := hm
            refine (hnext _ _ _ _).2 p (t ++ [c]) ⟨h1, by omega, hlen, h4, ?_, h6⟩ ?_
            · intro k d k1 k2 k3
              by_cases hk : k = done.length
              · subst hk
                rw [hc] at k3
                cases k3
                exact ⟨by simpa using hw, h10, h35⟩
              · exact h5 k d k1 (by omega) k3
            · rw [ht]
              have e1 : done.length + 1 - p = (done.length - p) + 1 := by omega
              have hlt : done.length - p < (l.drop p).length := by rw [List.length_drop]; omega
              rw [e1, List.take_succ_eq_append_getElem hlt]
              congr 2
              rw [List.getElem_drop]
              have e2 : p + (done.length - p) = done.length := by omega
              obtain ⟨hk, he⟩ := List.getElem?_eq_some_iff.1 hc
              simp only [e2, he]

theorem text_placed (s : ByteArray) : Placed s.data.toList true 0 1 (textW s) := by
  rw [textW_scan]
  exact (scan_placed s.data.toList s.data.toList [] rfl 1 true 0 1).1 false ⟨Nat.le_refl _, rfl, fun h => (by cases h), fun h => (by cases h)⟩

end Go.Proofs.YtjmokodifkjfgaaDoor
