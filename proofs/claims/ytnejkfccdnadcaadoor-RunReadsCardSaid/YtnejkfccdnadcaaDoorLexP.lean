/- The words of a text, plainly: what lex.words yields. -/
import Derived.Test.YtnejkfccdnadcaaDoorWords
import Derived.Test.YtnejkfccdnadcaaDoorShelf
namespace Go.Proofs.YtnejkfccdnadcaaDoor
open Go.RowKit Go.Shelf Go.Lib

/-- A word: where, which line, what. -/
structure Wd where
  p : Int
  q : Int
  t : ByteArray

def Wd.enc (x : Wd) : Value := .agg #[.int .i64 x.p, .int .i64 x.q, .string x.t]

def ws (c : UInt8) : Bool := [32, 9].contains c
def nws (c : UInt8) : Bool := !ws c

theorem trimLeft_ws (l : List UInt8) : Lib.trimLeftS l [32, 9] = l.dropWhile ws := rfl

theorem dropWhile_len (f : UInt8 → Bool) (l : List UInt8) : (l.dropWhile f).length ≤ l.length := (List.dropWhile_suffix f).length_le
theorem takeWhile_len (f : UInt8 → Bool) (l : List UInt8) : (l.takeWhile f).length ≤ l.length := (List.takeWhile_prefix f).length_le

def lw : Nat → Nat → Nat → List UInt8 → List Wd
  | 0, _, _, _ => []
  | _ + 1, _, _, [] => []
  | k + 1, p, q, c :: l =>
    (if ((c :: l).dropWhile ws).takeWhile nws = [] then [] else [⟨((p + ((c :: l).length - ((c :: l).dropWhile ws).length) : Nat) : Int), (q : Int), ⟨(((c :: l).dropWhile ws).takeWhile nws).toArray⟩⟩]) ++
      lw k (p + ((c :: l).length - ((c :: l).dropWhile ws).length) + (((c :: l).dropWhile ws).takeWhile nws).length) q (((c :: l).dropWhile ws).drop (((c :: l).dropWhile ws).takeWhile nws).length)

/-- What is left behind a word is shorter. -/
theorem left_lt (c : UInt8) (l : List UInt8) : (((c :: l).dropWhile ws).drop (((c :: l).dropWhile ws).takeWhile nws).length).length < (c :: l).length := by
  have h1 := dropWhile_len ws (c :: l)
  by_cases hc : ws c
  · have : (c :: l).dropWhile ws = l.dropWhile ws := by simp [List.dropWhile, hc]
    rw [this, List.length_drop]
    have := dropWhile_len ws l
    simp; omega
  · have h2 : (c :: l).dropWhile ws = c :: l := by simp [List.dropWhile, hc]
    rw [h2, List.length_drop]
    have : 0 < ((c :: l).takeWhile nws).length := by simp [List.takeWhile, nws, hc]
    simp at this ⊢
    omega

theorem lw_fuel (q : Nat) : ∀ (k p : Nat) (l : List UInt8), l.length ≤ k → lw k p q l = lw l.length p q l := by
  intro k
  induction k using Nat.strongRecOn with
  | ind k ih =>
    intro p l hl
    cases l with
    | nil => cases k <;> rfl
    | cons c l =>
      obtain ⟨k', rfl⟩ : ∃ k', k = k' + 1 := ⟨k - 1, by simp at hl; omega⟩
      have hlt := left_lt c l
      have h1 := ih k' (by omega) (p + ((c :: l).length - ((c :: l).dropWhile ws).length) + (((c :: l).dropWhile ws).takeWhile nws).length)
        (((c :: l).dropWhile ws).drop (((c :: l).dropWhile ws).takeWhile nws).length) (Nat.le_trans (Nat.le_of_lt_succ hlt) (Nat.le_of_succ_le_succ hl))
      rw [show (c :: l).length = l.length + 1 from rfl]
      by_cases hk : k' = l.length
      · rw [hk]
      · have h2 := ih l.length (by simp at hl; omega) (p + ((c :: l).length - ((c :: l).dropWhile ws).length) + (((c :: l).dropWhile ws).takeWhile nws).length)
          (((c :: l).dropWhile ws).drop (((c :: l).dropWhile ws).takeWhile nws).length) (Nat.le_of_lt_succ hlt)
        unfold lw
        rw [h1, h2]

/-- The words of one line's part ahead of its note, from position p on. -/
def lwc (p q : Nat) (l : List UInt8) : List Wd := lw l.length p q l

theorem lwc_nil (p q : Nat) : lwc p q [] = [] := rfl

theorem lwc_step (p q : Nat) (l : List UInt8) (h : l ≠ []) :
    lwc p q l = (if (l.dropWhile ws).takeWhile nws = [] then [] else [⟨((p + (l.length - (l.dropWhile ws).length) : Nat) : Int), (q : Int), ⟨((l.dropWhile ws).takeWhile nws).toArray⟩⟩]) ++
      lwc (p + (l.length - (l.dropWhile ws).length) + ((l.dropWhile ws).takeWhile nws).length) q ((l.dropWhile ws).drop ((l.dropWhile ws).takeWhile nws).length) := by
  cases l with
  | nil => exact absurd rfl h
  | cons c l =>
    unfold lwc
    have hlt := left_lt c l
    have h := lw_fuel q l.length (p + ((c :: l).length - ((c :: l).dropWhile ws).length) + (((c :: l).dropWhile ws).takeWhile nws).length) _ (Nat.le_of_lt_succ hlt)
    rw [← h]
    rfl

/-- The words of lines. -/
def linesW : Nat → Nat → List ByteArray → List Wd
  | _, _, [] => []
  | f, q, x :: xs => lwc f q (Lib.cut x.data.toList [35]).1 ++ linesW (f + x.size + 1) (q + 1) xs

/-- strings.IndexAny at a blank and a tab: where the word ends. -/
theorem idx_word : ∀ l : List UInt8, (Lib.indexAny l [32, 9] = -1 ∧ (l.takeWhile nws).length = l.length) ∨ Lib.indexAny l [32, 9] = ((l.takeWhile nws).length : Int) := by
  intro l
  induction l with
  | nil => left; exact ⟨rfl, rfl⟩
  | cons c l ih =>
    have hstep : Lib.indexAny (c :: l) [32, 9] = if ws c then 0 else if Lib.indexAny l [32, 9] == -1 then -1 else Lib.indexAny l [32, 9] + 1 := rfl
    rw [hstep]
    by_cases hc : ws c = true
    · right
      rw [if_pos hc]
      simp [List.takeWhile, nws, hc]
    · rw [if_neg hc]
      have ht : ((c :: l).takeWhile nws).length = (l.takeWhile nws).length + 1 := by
        have : nws c = true := by simp [nws, hc]
        rw [List.takeWhile_cons_of_pos this]; rfl
      rw [ht]
      rcases ih with ⟨h1, h2⟩ | h1
      · left; rw [h1]; exact ⟨rfl, by rw [h2]; rfl⟩
      · right
        rw [h1, if_neg (by simp)]
        simp

end Go.Proofs.YtnejkfccdnadcaaDoor
