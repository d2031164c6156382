/- The scan of a text, parted, moved, bounded. -/
import Derived.Test.YtnejkfccdnadcaaDoorLexDa
import Derived.Test.YtnejkfccdnadcaaDoorLexS
namespace Go.Proofs.YtnejkfccdnadcaaDoor
open Go.RowKit Go.Shelf Go.Lib

theorem scan_app (b : List UInt8) : ∀ (a : List UInt8) (q : Nat) (off : Bool) (cur : Option (Nat × List UInt8)) (i : Nat),
    scan q off cur i (a ++ 10 :: b) = scan q off cur i a ++ scan (q + 1 + a.count 10) false none (i + a.length + 1) b := by
  intro a
  induction a with
  | nil => intro q off cur i; simp [scan]
  | cons c l ih =>
    intro q off cur i
    have e1 : i + (c :: l).length + 1 = (i + 1) + l.length + 1 := by simp; omega
    rw [e1]
    simp only [List.cons_append, scan]
    by_cases hc : c = 10
    · rw [if_pos hc, if_pos hc, ih, ← List.append_assoc]
      have e2 : q + 1 + (c :: l).count 10 = q + 1 + 1 + l.count 10 := by rw [hc, List.count_cons_self]; omega
      rw [e2]
    · have e2 : (c :: l).count 10 = l.count 10 := List.count_cons_of_ne hc
      rw [if_neg hc, if_neg hc, e2]
      split
      · rw [ih, ← List.append_assoc]
      · split
        · rw [ih, ← List.append_assoc]
        · rw [ih]

def Wd.shift (d e : Nat) (x : Wd) : Wd := ⟨x.p + d, x.q + e, x.t⟩

def moved (d : Nat) : Option (Nat × List UInt8) → Option (Nat × List UInt8)
  | none => none
  | some (p, t) => some (p + d, t)

theorem emit_shift (q d e : Nat) (cur : Option (Nat × List UInt8)) : emit (q + e) (moved d cur) = (emit q cur).map (Wd.shift d e) := by
  cases cur with
  | none => rfl
  | some x => simp [emit, moved, Wd.shift]

theorem scan_shift (d e : Nat) : ∀ (b : List UInt8) (q : Nat) (off : Bool) (cur : Option (Nat × List UInt8)) (i : Nat),
    scan (q + e) off (moved d cur) (i + d) b = (scan q off cur i b).map (Wd.shift d e) := by
  intro b
  induction b with
  | nil => intro q off cur i; exact emit_shift q d e cur
  | cons c l ih =>
    intro q off cur i
    have e1 : i + d + 1 = i + 1 + d := by omega
    have e2 : q + e + 1 = q + 1 + e := by omega
    have e3 : grow (i + d) c (moved d cur) = moved d (grow i c cur) := by cases cur <;> rfl
    simp only [scan]
    rw [e1, e2, e3]
    have h0 := fun q off => ih q off none (i + 1)
    simp only [moved] at h0
    split
    · rw [List.map_append, emit_shift, h0]
    · split
      · rw [List.map_append, emit_shift, h0]
      · split
        · rw [List.map_append, emit_shift, h0]
        · rw [ih]

theorem text_parts (a b : ByteArray) : textW (a ++ ⟨#[10]⟩ ++ b) = textW a ++ (textW b).map (Wd.shift (a.size + 1) (1 + a.data.toList.count 10)) := by
  rw [textW_scan, textW_scan, textW_scan]
  have h : (a ++ ⟨#[10]⟩ ++ b).data.toList = a.data.toList ++ 10 :: b.data.toList := by simp
  rw [h, scan_app]
  have h2 := scan_shift (a.size + 1) (1 + a.data.toList.count 10) b.data.toList 1 false none 0
  simp only [moved] at h2
  rw [← h2, Lib.size_eq]
  congr 2 <;> omega

theorem WRow.left {w : World} {B : Nat} {A : Option Addr} {L M : List Wd} (h : WRow w B A (L ++ M)) : WRow w B A L := by
  intro hl
  obtain ⟨b, off, e, hlt, hc⟩ := h (by rw [List.length_append]; omega)
  refine ⟨b, off, e, hlt, fun i hi => ?_⟩
  have := hc i (by rw [List.length_append]; omega)
  simpa [List.getElem_append_left hi] using this

theorem count_step {a : ByteArray} {al : List UInt8} (hal : a.data.toList = al) {i : Nat} (h : i < a.size) : (al.take (i + 1)).count 10 = (al.take i).count 10 + (if a[i] = 10 then 1 else 0) := by
  subst hal
  have hi : i < a.data.toList.length := by rw [← Lib.size_eq]; exact h
  rw [List.take_succ_eq_append_getElem hi, List.count_append]
  have hx : a.data.toList[i] = a[i] := rfl
  rw [hx]
  split
  · rename_i h; rw [h]; rfl
  · rename_i h; rw [List.count_singleton]; simp [h]

theorem byte_ten {x : UInt8} : ((x.toNat : Int) == 10) = true ↔ x = 10 := by
  rw [beq_iff_eq]
  constructor
  · intro h
    have h2 : x.toNat = 10 := by omega
    exact UInt8.toNat_inj.1 h2
  · rintro rfl; rfl

theorem w64 (n : Int) (h : -9223372036854775808 ≤ n ∧ n ≤ 9223372036854775807) : wrap64 n = n := by unfold wrap64; omega

theorem emit_bd {q : Nat} {cur : Option (Nat × List UInt8)} {i : Nat} (h : ∀ p t, cur = some (p, t) → p ≤ i) : ∀ x ∈ emit q cur, (0 ≤ x.p ∧ x.p ≤ (i : Int)) ∧ x.q = (q : Int) := by
  intro x hx
  cases cur with
  | none => simp [emit] at hx
  | some y =>
    obtain ⟨p, t⟩ := y
    simp [emit] at hx
    subst hx
    have := h p t rfl
    exact ⟨⟨by simp, by simp; omega⟩, rfl⟩

theorem scan_bd : ∀ (l : List UInt8) (q : Nat) (off : Bool) (cur : Option (Nat × List UInt8)) (i : Nat), (∀ p t, cur = some (p, t) → p ≤ i) →
    ∀ x ∈ scan q off cur i l, (0 ≤ x.p ∧ x.p ≤ ((i + l.length : Nat) : Int)) ∧ ((q : Int) ≤ x.q ∧ x.q ≤ ((q + l.length : Nat) : Int)) := by
  intro l
  induction l with
  | nil =>
    intro q off cur i h x hx
    obtain ⟨h1, h2⟩ := emit_bd h x hx
    exact ⟨⟨h1.1, by simpa using h1.2⟩, by omega, by simp; omega⟩
  | cons c l ih =>
    intro q off cur i h x hx
    have hlen : (c :: l).length = l.length + 1 := rfl
    have hnone : ∀ (p : Nat) (t : List UInt8), (none : Option (Nat × List UInt8)) = some (p, t) → p ≤ i + 1 := fun _ _ h => by cases h
    have hem : x ∈ emit q cur → (0 ≤ x.p ∧ x.p ≤ ((i + (c :: l).length : Nat) : Int)) ∧ ((q : Int) ≤ x.q ∧ x.q ≤ ((q + (c :: l).length : Nat) : Int)) := by
      intro he
      obtain ⟨h1, h2⟩ := emit_bd h x he
      rw [hlen]
      exact ⟨⟨h1.1, by omega⟩, by omega, by omega⟩
    simp only [scan] at hx
    split at hx
    · rcases List.mem_append.1 hx with hx | hx
      · exact hem hx
      · obtain ⟨⟨a1, a2⟩, a3, a4⟩ := ih (q + 1) false none (i + 1) hnone x hx
        rw [hlen]
        exact ⟨⟨a1, by omega⟩, by omega, by omega⟩
    · split at hx
      · rcases List.mem_append.1 hx with hx | hx
        · exact hem hx
        · obtain ⟨⟨a1, a2⟩, a3, a4⟩ := ih q true none (i + 1) hnone x hx
          rw [hlen]
          exact ⟨⟨a1, by omega⟩, by omega, by omega⟩
      · split at hx
        · rcases List.mem_append.1 hx with hx | hx
          · exact hem hx
          · obtain ⟨⟨a1, a2⟩, a3, a4⟩ := ih q off none (i + 1) hnone x hx
            rw [hlen]
            exact ⟨⟨a1, by omega⟩, by omega, by omega⟩
        · have hg : ∀ p t, grow i c cur = some (p, t) → p ≤ i + 1 := by
            intro p t e
            cases cur with
            | none => simp [grow] at e; omega
            | some y =>
              obtain ⟨p', t'⟩ := y
              have := h p' t' rfl
              simp [grow] at e
              omega
          obtain ⟨⟨a1, a2⟩, a3, a4⟩ := ih q off _ (i + 1) hg x hx
          rw [hlen]
          exact ⟨⟨a1, by omega⟩, by omega, by omega⟩

theorem text_bd (s : ByteArray) : ∀ x ∈ textW s, (0 ≤ x.p ∧ x.p ≤ (s.size : Int)) ∧ (1 ≤ x.q ∧ x.q ≤ ((s.size + 1 : Nat) : Int)) := by
  intro x hx
  rw [textW_scan] at hx
  obtain ⟨⟨a1, a2⟩, a3, a4⟩ := scan_bd s.data.toList 1 false none 0 (fun _ _ h => by cases h) x hx
  rw [← Lib.size_eq] at a2 a4
  exact ⟨⟨a1, by omega⟩, by omega, by omega⟩

end Go.Proofs.YtnejkfccdnadcaaDoor
