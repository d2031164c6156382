/- The words of a text, byte by byte. -/
import Derived.Test.YtnejkfccdnadcaaDoorLexCa
namespace Go.Proofs.YtnejkfccdnadcaaDoor
open Go.RowKit Go.Shelf Go.Lib

/-- A word under way. -/
def emit (q : Nat) : Option (Nat × List UInt8) → List Wd
  | none => []
  | some (p, t) => [⟨p, q, ⟨t.toArray⟩⟩]

def grow (i : Nat) (c : UInt8) : Option (Nat × List UInt8) → Option (Nat × List UInt8)
  | none => some (i, [c])
  | some (p, t) => some (p, t ++ [c])

/-- The text byte by byte, as the document says it. -/
def scan (q : Nat) (off : Bool) (cur : Option (Nat × List UInt8)) (i : Nat) : List UInt8 → List Wd
  | [] => emit q cur
  | c :: l =>
    if c = 10 then emit q cur ++ scan (q + 1) false none (i + 1) l
    else if (off || c == 35) = true then emit q cur ++ scan q true none (i + 1) l
    else if ws c = true then emit q cur ++ scan q off none (i + 1) l
    else scan q off (grow i c cur) (i + 1) l

/-- A line's part ahead of its note. -/
def scanL (q : Nat) (cur : Option (Nat × List UInt8)) (i : Nat) : List UInt8 → List Wd
  | [] => emit q cur
  | c :: l => if ws c = true then emit q cur ++ scanL q none (i + 1) l else scanL q (grow i c cur) (i + 1) l

theorem scanL_blank (q : Nat) : ∀ (l : List UInt8) (i : Nat), scanL q none i l = scanL q none (i + (l.length - (l.dropWhile ws).length)) (l.dropWhile ws) := by
  intro l
  induction l with
  | nil => intro i; rfl
  | cons c l ih =>
    intro i
    by_cases hc : ws c = true
    · have h1 : (c :: l).dropWhile ws = l.dropWhile ws := List.dropWhile_cons_of_pos hc
      have h2 := dropWhile_len ws l
      rw [h1]
      have h3 : i + ((c :: l).length - (l.dropWhile ws).length) = (i + 1) + (l.length - (l.dropWhile ws).length) := by simp; omega
      rw [h3, ← ih (i + 1)]
      simp [scanL, hc, emit]
    · have h1 : (c :: l).dropWhile ws = c :: l := List.dropWhile_cons_of_neg hc
      rw [h1]
      simp

theorem scanL_word (q : Nat) : ∀ (l : List UInt8) (p i : Nat) (t : List UInt8), scanL q (some (p, t)) i l = ⟨p, q, ⟨(t ++ l.takeWhile nws).toArray⟩⟩ :: scanL q none (i + (l.takeWhile nws).length) (l.drop (l.takeWhile nws).length) := by
  intro l
  induction l with
  | nil => intro p i t; simp [scanL, emit]
  | cons c l ih =>
    intro p i t
    by_cases hc : ws c = true
    · have h1 : (c :: l).takeWhile nws = [] := by simp [nws, hc]
      rw [h1]
      simp [scanL, hc, emit]
    · have h1 : (c :: l).takeWhile nws = c :: l.takeWhile nws := by
        have : nws c = true := by simp [nws, hc]
        rw [List.takeWhile_cons_of_pos this]
      rw [h1]
      have h2 := ih p (i + 1) (t ++ [c])
      have h3 : i + 1 + (l.takeWhile nws).length = i + (c :: l.takeWhile nws).length := by simp; omega
      rw [h3] at h2
      simp only [scanL, hc, grow]
      simpa [List.append_assoc] using h2

theorem scanL_new (q : Nat) (c : UInt8) (l : List UInt8) (i : Nat) (hc : ws c = false) :
    scanL q none i (c :: l) = ⟨i, q, ⟨((c :: l).takeWhile nws).toArray⟩⟩ :: scanL q none (i + ((c :: l).takeWhile nws).length) ((c :: l).drop ((c :: l).takeWhile nws).length) := by
  have h1 : (c :: l).takeWhile nws = c :: l.takeWhile nws := by
    have : nws c = true := by simp [nws, hc]
    rw [List.takeWhile_cons_of_pos this]
  have h2 := scanL_word q l i (i + 1) [c]
  rw [h1]
  have h3 : i + 1 + (l.takeWhile nws).length = i + (c :: l.takeWhile nws).length := by simp; omega
  rw [h3] at h2
  simp only [scanL, hc, grow]
  simpa using h2

theorem lwc_scan (q : Nat) : ∀ (k p : Nat) (l : List UInt8), l.length ≤ k → lwc p q l = scanL q none p l := by
  intro k
  induction k with
  | zero =>
    intro p l h
    obtain rfl : l = [] := List.eq_nil_of_length_eq_zero (by omega)
    rfl
  | succ k ih =>
    intro p l h
    cases l with
    | nil => rfl
    | cons c l =>
      rw [lwc_step p q (c :: l) (by simp), scanL_blank]
      have hlt := left_lt c l
      rw [ih _ _ (by simp at h hlt ⊢; omega)]
      cases hd : (c :: l).dropWhile ws with
      | nil => simp
      | cons d r =>
        have hd' : ws d = false := by
          have h5 := List.head_dropWhile_not (p := ws) (l := c :: l) (by rw [hd]; simp)
          simp only [hd, List.head_cons] at h5
          simpa using h5
        rw [scanL_new q d r _ hd']
        have hne : ¬ ((d :: r).takeWhile nws = []) := by simp [nws, hd']
        rw [if_neg hne]
        rfl

/-- A text's lines. -/
def sl : List UInt8 → List (List UInt8)
  | [] => [[]]
  | c :: l => if c = 10 then [] :: sl l else (c :: (sl l).headD []) :: (sl l).tail

theorem sl_cons (l : List UInt8) : ∃ h t, sl l = h :: t := by
  cases l with
  | nil => exact ⟨[], [], rfl⟩
  | cons c l =>
    by_cases hc : c = 10
    · exact ⟨[], sl l, by simp [sl, hc]⟩
    · exact ⟨_, _, by simp [sl, hc]; exact ⟨rfl, rfl⟩⟩

theorem indexByte_cons (c b : UInt8) (l : List UInt8) : Lib.indexByte (b :: l) c = if b = c then 0 else if Lib.indexByte l c = -1 then -1 else Lib.indexByte l c + 1 := by
  simp [Lib.indexByte]

theorem splitK_sl : ∀ l : List UInt8, Lib.splitK [10] 0 (Lib.count l [10]) l = sl l := by
  intro l
  induction l with
  | nil => rfl
  | cons c l ih =>
    by_cases hc : c = 10
    · subst hc
      rw [Lib.count_cons_eq, Nat.add_comm]
      have hi : Lib.index (10 :: l) [10] = 0 := by rw [Lib.index_one, indexByte_cons, if_pos rfl]
      rw [Lib.splitK, hi]
      simp [sl, ih]
    · rw [Lib.count_cons_ne c 10 l hc]
      have hs : sl (c :: l) = (c :: (sl l).headD []) :: (sl l).tail := by simp [sl, hc]
      rw [hs, ← ih]
      have hi : Lib.index (c :: l) [10] = if Lib.indexByte l 10 = -1 then -1 else Lib.indexByte l 10 + 1 := by rw [Lib.index_one, indexByte_cons, if_neg hc]
      cases hk : Lib.count l [10] with
      | zero => simp [Lib.splitK]
      | succ k =>
        rw [Lib.splitK, Lib.splitK, hi, Lib.index_one]
        by_cases h1 : Lib.indexByte l 10 = -1
        · simp [h1]
        · have h2 := Lib.indexByte_ge l 10
          obtain ⟨i, h3⟩ : ∃ i : Nat, Lib.indexByte l 10 = i := ⟨(Lib.indexByte l 10).toNat, by omega⟩
          rw [h3]
          have h4 : ¬ ((i : Int) = -1) := by omega
          have h5 : ¬ ((i : Int) + 1 = -1) := by omega
          have h6 : ((i : Int) + 1).toNat = i + 1 := by omega
          simp [h4, h5, h6]

/-- A line's part ahead of its note. -/
theorem cut_note : ∀ l : List UInt8, (Lib.cut l [35]).1 = l.takeWhile (fun c => c != 35) := by
  intro l
  have key : ∀ l : List UInt8, (Lib.indexByte l 35 = -1 ∧ l.takeWhile (fun c => c != 35) = l) ∨ (∃ i : Nat, Lib.indexByte l 35 = i ∧ l.takeWhile (fun c => c != 35) = l.take i) := by
    intro l
    induction l with
    | nil => left; exact ⟨rfl, rfl⟩
    | cons c l ih =>
      rw [indexByte_cons]
      by_cases hc : c = 35
      · right
        exact ⟨0, by rw [if_pos hc]; rfl, by simp [hc]⟩
      · rw [if_neg hc]
        have hn : (c != 35) = true := by simp [hc]
        rw [List.takeWhile_cons_of_pos (p := fun c => c != 35) hn]
        rcases ih with ⟨h1, h2⟩ | ⟨i, h1, h2⟩
        · left; rw [if_pos h1, h2]; exact ⟨rfl, rfl⟩
        · right
          refine ⟨i + 1, ?_, by rw [h2]; rfl⟩
          rw [if_neg (by rw [h1]; omega), h1]; rfl
  unfold Lib.cut
  rw [Lib.index_one]
  rcases key l with ⟨h1, h2⟩ | ⟨i, h1, h2⟩
  · rw [h1, if_neg (by omega), h2]
  · rw [h1, if_pos (by omega), h2]; simp

/-- The words of lines, over lists. -/
def linesL : Nat → Nat → List (List UInt8) → List Wd
  | _, _, [] => []
  | f, q, x :: xs => scanL q none f (x.takeWhile (fun c => c != 35)) ++ linesL (f + x.length + 1) (q + 1) xs

theorem linesW_L : ∀ (L : List ByteArray) (f q : Nat), linesW f q L = linesL f q (L.map (·.data.toList)) := by
  intro L
  induction L with
  | nil => intro f q; rfl
  | cons x L ih =>
    intro f q
    simp only [linesW, List.map_cons, linesL]
    rw [ih, lwc_scan q _ f _ (Nat.le_refl _), cut_note, Lib.size_eq]

theorem scan_lines : ∀ (s : List UInt8) (q i : Nat), (∀ cur, scan q false cur i s = scanL q cur i (((sl s).headD []).takeWhile (fun c => c != 35)) ++ linesL (i + ((sl s).headD []).length + 1) (q + 1) (sl s).tail) ∧
    scan q true none i s = linesL (i + ((sl s).headD []).length + 1) (q + 1) (sl s).tail := by
  intro s
  induction s with
  | nil => intro q i; exact ⟨fun cur => by simp [scan, sl, scanL, linesL], by simp [scan, sl, linesL, emit]⟩
  | cons c l ih =>
    intro q i
    by_cases hc : c = 10
    · have hlines : linesL (i + 1) (q + 1) (sl l) = scan (q + 1) false none (i + 1) l := by
        obtain ⟨h, t, he⟩ := sl_cons l
        have h1 := (ih (q + 1) (i + 1)).1 none
        rw [h1, he]
        rfl
      refine ⟨fun cur => ?_, ?_⟩
      · simp only [scan, if_pos hc, sl]
        rw [← hlines]
        simp [scanL]
      · simp only [scan, if_pos hc, sl]
        rw [← hlines]
        simp [emit]
    · have hs : sl (c :: l) = (c :: (sl l).headD []) :: (sl l).tail := by simp [sl, hc]
      have hlen : i + (c :: (sl l).headD []).length + 1 = (i + 1) + ((sl l).headD []).length + 1 := by simp; omega
      rw [hs]
      simp only [List.headD_cons, List.tail_cons]
      rw [hlen]
      refine ⟨fun cur => ?_, ?_⟩
      · by_cases hn : c = 35
        · have h2 := (ih q (i + 1)).2
          have ht : (c :: (sl l).headD []).takeWhile (fun c => c != 35) = [] := by simp [hn]
          rw [ht]
          have hstep : scan q false cur i (c :: l) = emit q cur ++ scan q true none (i + 1) l := by simp [scan, hn]
          rw [hstep, h2]
          rfl
        · have ht : (c :: (sl l).headD []).takeWhile (fun c => c != 35) = c :: ((sl l).headD []).takeWhile (fun c => c != 35) := by
            have : (c != 35) = true := by simp [hn]
            rw [List.takeWhile_cons_of_pos (p := fun c => c != 35) this]
          rw [ht]
          by_cases hw : ws c = true
          · have hstep : scan q false cur i (c :: l) = emit q cur ++ scan q false none (i + 1) l := by simp [scan, hc, hn, hw]
            rw [hstep, (ih q (i + 1)).1 none]
            simp [scanL, hw]
          · have hstep : scan q false cur i (c :: l) = scan q false (grow i c cur) (i + 1) l := by simp [scan, hc, hn, hw]
            rw [hstep, (ih q (i + 1)).1 _]
            simp [scanL, hw]
      · have hstep : scan q true none i (c :: l) = scan q true none (i + 1) l := by simp [scan, hc, emit]
        rw [hstep, (ih q (i + 1)).2]

/-- What lex.Words gives is what stands in the document. -/
theorem textW_scan (s : ByteArray) : textW s = scan 1 false none 0 s.data.toList := by
  unfold textW
  rw [linesW_L, Lib.splitB_data]
  have h : (ByteArray.mk #[10]).data.toList = [10] := rfl
  rw [h]
  have hc : Lib.countB s ⟨#[10]⟩ = Lib.count s.data.toList [10] := rfl
  rw [hc, splitK_sl, (scan_lines s.data.toList 1 0).1 none]
  obtain ⟨a, t, he⟩ := sl_cons s.data.toList
  rw [he]
  rfl

end Go.Proofs.YtnejkfccdnadcaaDoor
