/- run.Text and the document's Text. (Printed by wip/gen_text.py.) -/
import Derived.Test.YtnejkfccdnadcaaDoorRunA
import Derived.Test.YtnejkfccdnadcaaDoorLexU
import Derived.Test.YtnejkfccdnadcaaDoorFacts
namespace Go.Proofs.YtnejkfccdnadcaaDoor
open Go.RowKit Go.Shelf Go.Lib

/-- A report's text, of its numbers' digits. -/
def textD (D0 D1 D2 D3 D4 D5 D6 : ByteArray) (br : Bool) : ByteArray := if br then (((((((((((((⟨#[114, 101, 102, 117, 115, 101, 100, 32]⟩ ++ D0) ++ ⟨#[32, 106, 111, 98, 115, 32]⟩) ++ D1) ++ ⟨#[32, 100, 111, 110, 101, 32]⟩) ++ D2) ++ ⟨#[32, 108, 97, 116, 101, 32]⟩) ++ D3) ++ ⟨#[32, 114, 101, 115, 112, 111, 110, 115, 101, 32]⟩) ++ D4) ++ ⟨#[32, 114, 101, 108, 111, 97, 100, 115, 32]⟩) ++ D5) ++ ⟨#[32, 116, 105, 109, 101, 115, 32]⟩) ++ D6) ++ ⟨#[32, 98, 114, 111, 107, 101, 110]⟩ else ((((((((((((⟨#[114, 101, 102, 117, 115, 101, 100, 32]⟩ ++ D0) ++ ⟨#[32, 106, 111, 98, 115, 32]⟩) ++ D1) ++ ⟨#[32, 100, 111, 110, 101, 32]⟩) ++ D2) ++ ⟨#[32, 108, 97, 116, 101, 32]⟩) ++ D3) ++ ⟨#[32, 114, 101, 115, 112, 111, 110, 115, 101, 32]⟩) ++ D4) ++ ⟨#[32, 114, 101, 108, 111, 97, 100, 115, 32]⟩) ++ D5) ++ ⟨#[32, 116, 105, 109, 101, 115, 32]⟩) ++ D6

theorem arr_lit43 (xs : Array Value) (h : xs.size = 43) : xs = List.toArray (xs.getD 0 undef :: xs.getD 1 undef :: xs.getD 2 undef :: xs.getD 3 undef :: xs.getD 4 undef :: xs.getD 5 undef :: xs.getD 6 undef :: xs.getD 7 undef :: xs.getD 8 undef :: xs.getD 9 undef :: xs.getD 10 undef :: xs.getD 11 undef :: xs.getD 12 undef :: xs.getD 13 undef :: xs.getD 14 undef :: xs.getD 15 undef :: xs.getD 16 undef :: xs.getD 17 undef :: xs.getD 18 undef :: xs.getD 19 undef :: xs.getD 20 undef :: xs.getD 21 undef :: xs.getD 22 undef :: xs.getD 23 undef :: xs.getD 24 undef :: xs.getD 25 undef :: xs.getD 26 undef :: xs.getD 27 undef :: xs.getD 28 undef :: xs.getD 29 undef :: xs.getD 30 undef :: xs.getD 31 undef :: xs.getD 32 undef :: xs.getD 33 undef :: xs.getD 34 undef :: xs.getD 35 undef :: xs.getD 36 undef :: xs.getD 37 undef :: xs.getD 38 undef :: xs.getD 39 undef :: xs.getD 40 undef :: xs.getD 41 undef :: xs.getD 42 undef ::  []) := by
  refine Array.ext (by simpa using h) (fun i h1 h2 => ?_)
  have hi : i = 0 ∨ i = 1 ∨ i = 2 ∨ i = 3 ∨ i = 4 ∨ i = 5 ∨ i = 6 ∨ i = 7 ∨ i = 8 ∨ i = 9 ∨ i = 10 ∨ i = 11 ∨ i = 12 ∨ i = 13 ∨ i = 14 ∨ i = 15 ∨ i = 16 ∨ i = 17 ∨ i = 18 ∨ i = 19 ∨ i = 20 ∨ i = 21 ∨ i = 22 ∨ i = 23 ∨ i = 24 ∨ i = 25 ∨ i = 26 ∨ i = 27 ∨ i = 28 ∨ i = 29 ∨ i = 30 ∨ i = 31 ∨ i = 32 ∨ i = 33 ∨ i = 34 ∨ i = 35 ∨ i = 36 ∨ i = 37 ∨ i = 38 ∨ i = 39 ∨ i = 40 ∨ i = 41 ∨ i = 42 := by omega
  rcases hi with rfl | rfl | rfl | rfl | rfl | rfl | rfl | rfl | rfl | rfl | rfl | rfl | rfl | rfl | rfl | rfl | rfl | rfl | rfl | rfl | rfl | rfl | rfl | rfl | rfl | rfl | rfl | rfl | rfl | rfl | rfl | rfl | rfl | rfl | rfl | rfl | rfl | rfl | rfl | rfl | rfl | rfl | rfl
  all_goals
    rw [← Option.some_inj, ← Array.getElem?_eq_getElem h1, ← Array.getElem?_eq_getElem h2]
    simp [Array.getD_eq_getD_getElem?, Array.getElem?_eq_getElem h1]

theorem arr_lit50 (xs : Array Value) (h : xs.size = 50) : xs = List.toArray (xs.getD 0 undef :: xs.getD 1 undef :: xs.getD 2 undef :: xs.getD 3 undef :: xs.getD 4 undef :: xs.getD 5 undef :: xs.getD 6 undef :: xs.getD 7 undef :: xs.getD 8 undef :: xs.getD 9 undef :: xs.getD 10 undef :: xs.getD 11 undef :: xs.getD 12 undef :: xs.getD 13 undef :: xs.getD 14 undef :: xs.getD 15 undef :: xs.getD 16 undef :: xs.getD 17 undef :: xs.getD 18 undef :: xs.getD 19 undef :: xs.getD 20 undef :: xs.getD 21 undef :: xs.getD 22 undef :: xs.getD 23 undef :: xs.getD 24 undef :: xs.getD 25 undef :: xs.getD 26 undef :: xs.getD 27 undef :: xs.getD 28 undef :: xs.getD 29 undef :: xs.getD 30 undef :: xs.getD 31 undef :: xs.getD 32 undef :: xs.getD 33 undef :: xs.getD 34 undef :: xs.getD 35 undef :: xs.getD 36 undef :: xs.getD 37 undef :: xs.getD 38 undef :: xs.getD 39 undef :: xs.getD 40 undef :: xs.getD 41 undef :: xs.getD 42 undef :: xs.getD 43 undef :: xs.getD 44 undef :: xs.getD 45 undef :: xs.getD 46 undef :: xs.getD 47 undef :: xs.getD 48 undef :: xs.getD 49 undef ::  []) := by
  refine Array.ext (by simpa using h) (fun i h1 h2 => ?_)
  have hi : i = 0 ∨ i = 1 ∨ i = 2 ∨ i = 3 ∨ i = 4 ∨ i = 5 ∨ i = 6 ∨ i = 7 ∨ i = 8 ∨ i = 9 ∨ i = 10 ∨ i = 11 ∨ i = 12 ∨ i = 13 ∨ i = 14 ∨ i = 15 ∨ i = 16 ∨ i = 17 ∨ i = 18 ∨ i = 19 ∨ i = 20 ∨ i = 21 ∨ i = 22 ∨ i = 23 ∨ i = 24 ∨ i = 25 ∨ i = 26 ∨ i = 27 ∨ i = 28 ∨ i = 29 ∨ i = 30 ∨ i = 31 ∨ i = 32 ∨ i = 33 ∨ i = 34 ∨ i = 35 ∨ i = 36 ∨ i = 37 ∨ i = 38 ∨ i = 39 ∨ i = 40 ∨ i = 41 ∨ i = 42 ∨ i = 43 ∨ i = 44 ∨ i = 45 ∨ i = 46 ∨ i = 47 ∨ i = 48 ∨ i = 49 := by omega
  rcases hi with rfl | rfl | rfl | rfl | rfl | rfl | rfl | rfl | rfl | rfl | rfl | rfl | rfl | rfl | rfl | rfl | rfl | rfl | rfl | rfl | rfl | rfl | rfl | rfl | rfl | rfl | rfl | rfl | rfl | rfl | rfl | rfl | rfl | rfl | rfl | rfl | rfl | rfl | rfl | rfl | rfl | rfl | rfl | rfl | rfl | rfl | rfl | rfl | rfl | rfl
  all_goals
    rw [← Option.some_inj, ← Array.getElem?_eq_getElem h1, ← Array.getElem?_eq_getElem h2]
    simp [Array.getD_eq_getD_getElem?, Array.getElem?_eq_getElem h1]

set_option maxHeartbeats 8000000 in
set_option maxRecDepth 100000 in
theorem refText_any (x0 x1 x2 x3 x4 x5 x6 : Int) (br : Bool) (w : World) (hx0 : -9223372036854775808 ≤ x0 ∧ x0 ≤ 9223372036854775807) (hx1 : -9223372036854775808 ≤ x1 ∧ x1 ≤ 9223372036854775807) (hx2 : -9223372036854775808 ≤ x2 ∧ x2 ≤ 9223372036854775807) (hx3 : -9223372036854775808 ≤ x3 ∧ x3 ≤ 9223372036854775807) (hx4 : -9223372036854775808 ≤ x4 ∧ x4 ≤ 9223372036854775807) (hx5 : -9223372036854775808 ≤ x5 ∧ x5 ≤ 9223372036854775807) (hx6 : -9223372036854775808 ≤ x6 ∧ x6 ≤ 9223372036854775807) :
    Calls Tryd.prog 14 #[.agg #[.int .i64 x0, .int .i64 x1, .int .i64 x2, .int .i64 x3, .int .i64 x4, .int .i64 x5, .int .i64 x6, .bool br]] w fun e w' => e = .returned (.string (textD ⟨(itoa x0).toArray⟩ ⟨(itoa x1).toArray⟩ ⟨(itoa x2).toArray⟩ ⟨(itoa x3).toArray⟩ ⟨(itoa x4).toArray⟩ ⟨(itoa x5).toArray⟩ ⟨(itoa x6).toArray⟩ br)) ∧ Below w.heap.size w w' := by
  have l0 := itoa_len x0 hx0.1 hx0.2
  have c0 := fun W => refDigits_any x0 hx0.1 hx0.2 W
  obtain ⟨D0, hD0⟩ : ∃ D : ByteArray, D = ⟨(itoa x0).toArray⟩ := ⟨_, rfl⟩
  rw [← hD0] at c0 ⊢
  have s0 : D0.size ≤ 21 := by rw [Lib.size_eq, hD0]; exact l0
  have C0 := Lib.hid c0
  clear hD0 l0 c0
  have l1 := itoa_len x1 hx1.1 hx1.2
  have c1 := fun W => refDigits_any x1 hx1.1 hx1.2 W
  obtain ⟨D1, hD1⟩ : ∃ D : ByteArray, D = ⟨(itoa x1).toArray⟩ := ⟨_, rfl⟩
  rw [← hD1] at c1 ⊢
  have s1 : D1.size ≤ 21 := by rw [Lib.size_eq, hD1]; exact l1
  have C1 := Lib.hid c1
  clear hD1 l1 c1
  have l2 := itoa_len x2 hx2.1 hx2.2
  have c2 := fun W => refDigits_any x2 hx2.1 hx2.2 W
  obtain ⟨D2, hD2⟩ : ∃ D : ByteArray, D = ⟨(itoa x2).toArray⟩ := ⟨_, rfl⟩
  rw [← hD2] at c2 ⊢
  have s2 : D2.size ≤ 21 := by rw [Lib.size_eq, hD2]; exact l2
  have C2 := Lib.hid c2
  clear hD2 l2 c2
  have l3 := itoa_len x3 hx3.1 hx3.2
  have c3 := fun W => refDigits_any x3 hx3.1 hx3.2 W
  obtain ⟨D3, hD3⟩ : ∃ D : ByteArray, D = ⟨(itoa x3).toArray⟩ := ⟨_, rfl⟩
  rw [← hD3] at c3 ⊢
  have s3 : D3.size ≤ 21 := by rw [Lib.size_eq, hD3]; exact l3
  have C3 := Lib.hid c3
  clear hD3 l3 c3
  have l4 := itoa_len x4 hx4.1 hx4.2
  have c4 := fun W => refDigits_any x4 hx4.1 hx4.2 W
  obtain ⟨D4, hD4⟩ : ∃ D : ByteArray, D = ⟨(itoa x4).toArray⟩ := ⟨_, rfl⟩
  rw [← hD4] at c4 ⊢
  have s4 : D4.size ≤ 21 := by rw [Lib.size_eq, hD4]; exact l4
  have C4 := Lib.hid c4
  clear hD4 l4 c4
  have l5 := itoa_len x5 hx5.1 hx5.2
  have c5 := fun W => refDigits_any x5 hx5.1 hx5.2 W
  obtain ⟨D5, hD5⟩ : ∃ D : ByteArray, D = ⟨(itoa x5).toArray⟩ := ⟨_, rfl⟩
  rw [← hD5] at c5 ⊢
  have s5 : D5.size ≤ 21 := by rw [Lib.size_eq, hD5]; exact l5
  have C5 := Lib.hid c5
  clear hD5 l5 c5
  have l6 := itoa_len x6 hx6.1 hx6.2
  have c6 := fun W => refDigits_any x6 hx6.1 hx6.2 W
  obtain ⟨D6, hD6⟩ : ∃ D : ByteArray, D = ⟨(itoa x6).toArray⟩ := ⟨_, rfl⟩
  rw [← hD6] at c6 ⊢
  have s6 : D6.size ≤ 21 := by rw [Lib.size_eq, hD6]; exact l6
  have C6 := Lib.hid c6
  clear hD6 l6 c6
  go_enter Tryd.func14, Tryd.ntmps14
  go_upto_region 1 with (fail)
  have hb0 := (Below.refl w.heap.size w).alloc (Nat.le_refl _) (.cells #[.int .i64 x0, .int .i64 x1, .int .i64 x2, .int .i64 x3, .int .i64 x4, .int .i64 x5, .int .i64 x6, .bool br] 39)
  have hblk := heap_alloc_new w (.cells #[.int .i64 x0, .int .i64 x1, .int .i64 x2, .int .i64 x3, .int .i64 x4, .int .i64 x5, .int .i64 x6, .bool br] 39)
  generalize w.alloc (.cells #[.int .i64 x0, .int .i64 x1, .int .i64 x2, .int .i64 x3, .int .i64 x4, .int .i64 x5, .int .i64 x6, .bool br] 39) = w0 at hb0 hblk ⊢
  go_cut [3] from 43 (fun v3 wx => v3 = .string (((((((((((((⟨#[114, 101, 102, 117, 115, 101, 100, 32]⟩ ++ D0) ++ ⟨#[32, 106, 111, 98, 115, 32]⟩) ++ D1) ++ ⟨#[32, 100, 111, 110, 101, 32]⟩) ++ D2) ++ ⟨#[32, 108, 97, 116, 101, 32]⟩) ++ D3) ++ ⟨#[32, 114, 101, 115, 112, 111, 110, 115, 101, 32]⟩) ++ D4) ++ ⟨#[32, 114, 101, 108, 111, 97, 100, 115, 32]⟩) ++ D5) ++ ⟨#[32, 116, 105, 109, 101, 115, 32]⟩) ++ D6) ∧ Below w.heap.size w wx ∧ wx.cell? ⟨w.heap.size, 7, none⟩ = some (.bool br))
  case first =>
    refine wp_region_facts (by kernel_rfl) (by kernel_rfl) (fun i v W => match i with
          | 0 => v = .pointer (some ⟨w.heap.size, 0, none⟩)
          | 1 => v = .int .i64 x0
          | 2 => v = .string D0
          | 3 => v = .string (⟨#[114, 101, 102, 117, 115, 101, 100, 32]⟩ ++ D0)
          | 4 => v = .string ((⟨#[114, 101, 102, 117, 115, 101, 100, 32]⟩ ++ D0) ++ ⟨#[32, 106, 111, 98, 115, 32]⟩)
          | 5 => v = .pointer (some ⟨w.heap.size, 1, none⟩)
          | 6 => v = .int .i64 x1
          | 7 => v = .string D1
          | 8 => v = .string (((⟨#[114, 101, 102, 117, 115, 101, 100, 32]⟩ ++ D0) ++ ⟨#[32, 106, 111, 98, 115, 32]⟩) ++ D1)
          | 9 => v = .string ((((⟨#[114, 101, 102, 117, 115, 101, 100, 32]⟩ ++ D0) ++ ⟨#[32, 106, 111, 98, 115, 32]⟩) ++ D1) ++ ⟨#[32, 100, 111, 110, 101, 32]⟩)
          | 10 => v = .pointer (some ⟨w.heap.size, 2, none⟩)
          | 11 => v = .int .i64 x2
          | 12 => v = .string D2
          | 13 => v = .string (((((⟨#[114, 101, 102, 117, 115, 101, 100, 32]⟩ ++ D0) ++ ⟨#[32, 106, 111, 98, 115, 32]⟩) ++ D1) ++ ⟨#[32, 100, 111, 110, 101, 32]⟩) ++ D2)
          | 14 => v = .string ((((((⟨#[114, 101, 102, 117, 115, 101, 100, 32]⟩ ++ D0) ++ ⟨#[32, 106, 111, 98, 115, 32]⟩) ++ D1) ++ ⟨#[32, 100, 111, 110, 101, 32]⟩) ++ D2) ++ ⟨#[32, 108, 97, 116, 101, 32]⟩)
          | 15 => v = .pointer (some ⟨w.heap.size, 3, none⟩)
          | 16 => v = .int .i64 x3
          | 17 => v = .string D3
          | 18 => v = .string (((((((⟨#[114, 101, 102, 117, 115, 101, 100, 32]⟩ ++ D0) ++ ⟨#[32, 106, 111, 98, 115, 32]⟩) ++ D1) ++ ⟨#[32, 100, 111, 110, 101, 32]⟩) ++ D2) ++ ⟨#[32, 108, 97, 116, 101, 32]⟩) ++ D3)
          | 19 => v = .string ((((((((⟨#[114, 101, 102, 117, 115, 101, 100, 32]⟩ ++ D0) ++ ⟨#[32, 106, 111, 98, 115, 32]⟩) ++ D1) ++ ⟨#[32, 100, 111, 110, 101, 32]⟩) ++ D2) ++ ⟨#[32, 108, 97, 116, 101, 32]⟩) ++ D3) ++ ⟨#[32, 114, 101, 115, 112, 111, 110, 115, 101, 32]⟩)
          | 20 => v = .pointer (some ⟨w.heap.size, 4, none⟩)
          | 21 => v = .int .i64 x4
          | 22 => v = .string D4
          | 23 => v = .string (((((((((⟨#[114, 101, 102, 117, 115, 101, 100, 32]⟩ ++ D0) ++ ⟨#[32, 106, 111, 98, 115, 32]⟩) ++ D1) ++ ⟨#[32, 100, 111, 110, 101, 32]⟩) ++ D2) ++ ⟨#[32, 108, 97, 116, 101, 32]⟩) ++ D3) ++ ⟨#[32, 114, 101, 115, 112, 111, 110, 115, 101, 32]⟩) ++ D4)
          | 24 => v = .string ((((((((((⟨#[114, 101, 102, 117, 115, 101, 100, 32]⟩ ++ D0) ++ ⟨#[32, 106, 111, 98, 115, 32]⟩) ++ D1) ++ ⟨#[32, 100, 111, 110, 101, 32]⟩) ++ D2) ++ ⟨#[32, 108, 97, 116, 101, 32]⟩) ++ D3) ++ ⟨#[32, 114, 101, 115, 112, 111, 110, 115, 101, 32]⟩) ++ D4) ++ ⟨#[32, 114, 101, 108, 111, 97, 100, 115, 32]⟩)
          | 25 => v = .pointer (some ⟨w.heap.size, 5, none⟩)
          | 26 => v = .int .i64 x5
          | 27 => v = .string D5
          | 28 => v = .string (((((((((((⟨#[114, 101, 102, 117, 115, 101, 100, 32]⟩ ++ D0) ++ ⟨#[32, 106, 111, 98, 115, 32]⟩) ++ D1) ++ ⟨#[32, 100, 111, 110, 101, 32]⟩) ++ D2) ++ ⟨#[32, 108, 97, 116, 101, 32]⟩) ++ D3) ++ ⟨#[32, 114, 101, 115, 112, 111, 110, 115, 101, 32]⟩) ++ D4) ++ ⟨#[32, 114, 101, 108, 111, 97, 100, 115, 32]⟩) ++ D5)
          | 29 => v = .string ((((((((((((⟨#[114, 101, 102, 117, 115, 101, 100, 32]⟩ ++ D0) ++ ⟨#[32, 106, 111, 98, 115, 32]⟩) ++ D1) ++ ⟨#[32, 100, 111, 110, 101, 32]⟩) ++ D2) ++ ⟨#[32, 108, 97, 116, 101, 32]⟩) ++ D3) ++ ⟨#[32, 114, 101, 115, 112, 111, 110, 115, 101, 32]⟩) ++ D4) ++ ⟨#[32, 114, 101, 108, 111, 97, 100, 115, 32]⟩) ++ D5) ++ ⟨#[32, 116, 105, 109, 101, 115, 32]⟩)
          | 30 => v = .pointer (some ⟨w.heap.size, 6, none⟩)
          | 31 => v = .int .i64 x6
          | 32 => v = .string D6
          | 33 => v = .string (((((((((((((⟨#[114, 101, 102, 117, 115, 101, 100, 32]⟩ ++ D0) ++ ⟨#[32, 106, 111, 98, 115, 32]⟩) ++ D1) ++ ⟨#[32, 100, 111, 110, 101, 32]⟩) ++ D2) ++ ⟨#[32, 108, 97, 116, 101, 32]⟩) ++ D3) ++ ⟨#[32, 114, 101, 115, 112, 111, 110, 115, 101, 32]⟩) ++ D4) ++ ⟨#[32, 114, 101, 108, 111, 97, 100, 115, 32]⟩) ++ D5) ++ ⟨#[32, 116, 105, 109, 101, 115, 32]⟩) ++ D6)
          | _ => v = .string (((((((((((((⟨#[114, 101, 102, 117, 115, 101, 100, 32]⟩ ++ D0) ++ ⟨#[32, 106, 111, 98, 115, 32]⟩) ++ D1) ++ ⟨#[32, 100, 111, 110, 101, 32]⟩) ++ D2) ++ ⟨#[32, 108, 97, 116, 101, 32]⟩) ++ D3) ++ ⟨#[32, 114, 101, 115, 112, 111, 110, 115, 101, 32]⟩) ++ D4) ++ ⟨#[32, 114, 101, 108, 111, 97, 100, 115, 32]⟩) ++ D5) ++ ⟨#[32, 116, 105, 109, 101, 115, 32]⟩) ++ D6)) (fun w w' => Below w.heap.size w w') ?_ (fun W => Below w.heap.size w W ∧ W.heap[w.heap.size]? = some (.cells #[.int .i64 x0, .int .i64 x1, .int .i64 x2, .int .i64 x3, .int .i64 x4, .int .i64 x5, .int .i64 x6, .bool br] 39 (0, 0))) ⟨hb0.drew, hblk⟩ ?_ ?_
    · intro i v W W' h hb
      revert h
      split <;> first | exact id
    · intro i o a W ho hsz hfr hdep hG
      have hi : i < 35 := (Array.getElem?_eq_some_iff.1 ho).1
      have hin : i = 0 ∨ i = 1 ∨ i = 2 ∨ i = 3 ∨ i = 4 ∨ i = 5 ∨ i = 6 ∨ i = 7 ∨ i = 8 ∨ i = 9 ∨ i = 10 ∨ i = 11 ∨ i = 12 ∨ i = 13 ∨ i = 14 ∨ i = 15 ∨ i = 16 ∨ i = 17 ∨ i = 18 ∨ i = 19 ∨ i = 20 ∨ i = 21 ∨ i = 22 ∨ i = 23 ∨ i = 24 ∨ i = 25 ∨ i = 26 ∨ i = 27 ∨ i = 28 ∨ i = 29 ∨ i = 30 ∨ i = 31 ∨ i = 32 ∨ i = 33 ∨ i = 34 := by omega
      rcases hin with rfl | rfl | rfl | rfl | rfl | rfl | rfl | rfl | rfl | rfl | rfl | rfl | rfl | rfl | rfl | rfl | rfl | rfl | rfl | rfl | rfl | rfl | rfl | rfl | rfl | rfl | rfl | rfl | rfl | rfl | rfl | rfl | rfl | rfl | rfl
      · cases ho
        have g : a.tmps.getD 1 undef = .pointer (some ⟨w.heap.size, 0, none⟩) := by rw [Array.getD_eq_getD_getElem?, hfr 1 (no_dst (by kernel_rfl))]; rfl
        clear hfr hdep hsz
        generalize hK : (fun (a' : Act) (w' : World) => _) = K
        go_simp
        rw [← hK]
        exact ⟨_, rfl, rfl, Below.refl _ _, hG⟩
      · cases ho
        obtain ⟨_, q0, e0⟩ := hdep ⟨0, .data⟩ (by simp) rfl _ _ rfl rfl
        have g0 : a.tmps.getD 4 undef = .pointer (some ⟨w.heap.size, 0, none⟩) := by rw [Array.getD_eq_getD_getElem?, q0, e0]; rfl
        rw [e0] at q0
        clear e0
        have hc := cell_of_row W w.heap.size 0 _ _ _ hG.2
        clear hfr hdep hsz
        generalize hK : (fun (a' : Act) (w' : World) => _) = K
        go_simp
        rw [← hK]
        exact ⟨_, rfl, rfl, Below.refl _ _, hG⟩
      · cases ho
        obtain ⟨_, q1, e1⟩ := hdep ⟨1, .data⟩ (by simp) rfl _ _ rfl rfl
        have g1 : a.tmps.getD 5 undef = .int .i64 x0 := by rw [Array.getD_eq_getD_getElem?, q1, e1]; rfl
        rw [e1] at q1
        clear e1
        clear hfr hdep hsz
        generalize hK : (fun (a' : Act) (w' : World) => _) = K
        go_simp
        refine (C0.out W).mono ?_
        rintro e W2 ⟨rfl, hb⟩
        show K _ _
        rw [← hK]
        exact ⟨_, rfl, rfl, hb, hG.1.trans (hb.mono hG.1.size), (hb.block w.heap.size (lt_of_block hG.2)).trans hG.2⟩
      · cases ho
        obtain ⟨_, q2, e2⟩ := hdep ⟨2, .data⟩ (by simp) rfl _ _ rfl rfl
        have g2 : a.tmps.getD 6 undef = .string D0 := by rw [Array.getD_eq_getD_getElem?, q2, e2]; rfl
        rw [e2] at q2
        clear e2
        clear hfr hdep hsz
        generalize hK : (fun (a' : Act) (w' : World) => _) = K
        go_simp
        rw [if_neg (by omega)]
        go_simp
        rw [← hK]
        exact ⟨_, rfl, rfl, Below.refl _ _, hG⟩
      · cases ho
        obtain ⟨_, q3, e3⟩ := hdep ⟨3, .data⟩ (by simp) rfl _ _ rfl rfl
        have g3 : a.tmps.getD 7 undef = .string (⟨#[114, 101, 102, 117, 115, 101, 100, 32]⟩ ++ D0) := by rw [Array.getD_eq_getD_getElem?, q3, e3]; rfl
        rw [e3] at q3
        clear e3
        clear hfr hdep hsz
        generalize hK : (fun (a' : Act) (w' : World) => _) = K
        go_simp
        rw [if_neg (by omega)]
        go_simp
        rw [← hK]
        exact ⟨_, rfl, rfl, Below.refl _ _, hG⟩
      · cases ho
        have g : a.tmps.getD 1 undef = .pointer (some ⟨w.heap.size, 0, none⟩) := by rw [Array.getD_eq_getD_getElem?, hfr 1 (no_dst (by kernel_rfl))]; rfl
        clear hfr hdep hsz
        generalize hK : (fun (a' : Act) (w' : World) => _) = K
        go_simp
        rw [← hK]
        exact ⟨_, rfl, rfl, Below.refl _ _, hG⟩
      · cases ho
        obtain ⟨_, q5, e5⟩ := hdep ⟨5, .data⟩ (by simp) rfl _ _ rfl rfl
        have g5 : a.tmps.getD 9 undef = .pointer (some ⟨w.heap.size, 1, none⟩) := by rw [Array.getD_eq_getD_getElem?, q5, e5]; rfl
        rw [e5] at q5
        clear e5
        have hc := cell_of_row W w.heap.size 1 _ _ _ hG.2
        clear hfr hdep hsz
        generalize hK : (fun (a' : Act) (w' : World) => _) = K
        go_simp
        rw [← hK]
        exact ⟨_, rfl, rfl, Below.refl _ _, hG⟩
      · cases ho
        obtain ⟨_, q6, e6⟩ := hdep ⟨6, .data⟩ (by simp) rfl _ _ rfl rfl
        have g6 : a.tmps.getD 10 undef = .int .i64 x1 := by rw [Array.getD_eq_getD_getElem?, q6, e6]; rfl
        rw [e6] at q6
        clear e6
        clear hfr hdep hsz
        generalize hK : (fun (a' : Act) (w' : World) => _) = K
        go_simp
        refine (C1.out W).mono ?_
        rintro e W2 ⟨rfl, hb⟩
        show K _ _
        rw [← hK]
        exact ⟨_, rfl, rfl, hb, hG.1.trans (hb.mono hG.1.size), (hb.block w.heap.size (lt_of_block hG.2)).trans hG.2⟩
      · cases ho
        obtain ⟨_, q4, e4⟩ := hdep ⟨4, .data⟩ (by simp) rfl _ _ rfl rfl
        have g4 : a.tmps.getD 8 undef = .string ((⟨#[114, 101, 102, 117, 115, 101, 100, 32]⟩ ++ D0) ++ ⟨#[32, 106, 111, 98, 115, 32]⟩) := by rw [Array.getD_eq_getD_getElem?, q4, e4]; rfl
        rw [e4] at q4
        clear e4
        obtain ⟨_, q7, e7⟩ := hdep ⟨7, .data⟩ (by simp) rfl _ _ rfl rfl
        have g7 : a.tmps.getD 11 undef = .string D1 := by rw [Array.getD_eq_getD_getElem?, q7, e7]; rfl
        rw [e7] at q7
        clear e7
        clear hfr hdep hsz
        generalize hK : (fun (a' : Act) (w' : World) => _) = K
        go_simp
        rw [if_neg (by omega)]
        go_simp
        rw [← hK]
        exact ⟨_, rfl, rfl, Below.refl _ _, hG⟩
      · cases ho
        obtain ⟨_, q8, e8⟩ := hdep ⟨8, .data⟩ (by simp) rfl _ _ rfl rfl
        have g8 : a.tmps.getD 12 undef = .string (((⟨#[114, 101, 102, 117, 115, 101, 100, 32]⟩ ++ D0) ++ ⟨#[32, 106, 111, 98, 115, 32]⟩) ++ D1) := by rw [Array.getD_eq_getD_getElem?, q8, e8]; rfl
        rw [e8] at q8
        clear e8
        clear hfr hdep hsz
        generalize hK : (fun (a' : Act) (w' : World) => _) = K
        go_simp
        rw [if_neg (by omega)]
        go_simp
        rw [← hK]
        exact ⟨_, rfl, rfl, Below.refl _ _, hG⟩
      · cases ho
        have g : a.tmps.getD 1 undef = .pointer (some ⟨w.heap.size, 0, none⟩) := by rw [Array.getD_eq_getD_getElem?, hfr 1 (no_dst (by kernel_rfl))]; rfl
        clear hfr hdep hsz
        generalize hK : (fun (a' : Act) (w' : World) => _) = K
        go_simp
        rw [← hK]
        exact ⟨_, rfl, rfl, Below.refl _ _, hG⟩
      · cases ho
        obtain ⟨_, q10, e10⟩ := hdep ⟨10, .data⟩ (by simp) rfl _ _ rfl rfl
        have g10 : a.tmps.getD 14 undef = .pointer (some ⟨w.heap.size, 2, none⟩) := by rw [Array.getD_eq_getD_getElem?, q10, e10]; rfl
        rw [e10] at q10
        clear e10
        have hc := cell_of_row W w.heap.size 2 _ _ _ hG.2
        clear hfr hdep hsz
        generalize hK : (fun (a' : Act) (w' : World) => _) = K
        go_simp
        rw [← hK]
        exact ⟨_, rfl, rfl, Below.refl _ _, hG⟩
      · cases ho
        obtain ⟨_, q11, e11⟩ := hdep ⟨11, .data⟩ (by simp) rfl _ _ rfl rfl
        have g11 : a.tmps.getD 15 undef = .int .i64 x2 := by rw [Array.getD_eq_getD_getElem?, q11, e11]; rfl
        rw [e11] at q11
        clear e11
        clear hfr hdep hsz
        generalize hK : (fun (a' : Act) (w' : World) => _) = K
        go_simp
        refine (C2.out W).mono ?_
        rintro e W2 ⟨rfl, hb⟩
        show K _ _
        rw [← hK]
        exact ⟨_, rfl, rfl, hb, hG.1.trans (hb.mono hG.1.size), (hb.block w.heap.size (lt_of_block hG.2)).trans hG.2⟩
      · cases ho
        obtain ⟨_, q9, e9⟩ := hdep ⟨9, .data⟩ (by simp) rfl _ _ rfl rfl
        have g9 : a.tmps.getD 13 undef = .string ((((⟨#[114, 101, 102, 117, 115, 101, 100, 32]⟩ ++ D0) ++ ⟨#[32, 106, 111, 98, 115, 32]⟩) ++ D1) ++ ⟨#[32, 100, 111, 110, 101, 32]⟩) := by rw [Array.getD_eq_getD_getElem?, q9, e9]; rfl
        rw [e9] at q9
        clear e9
        obtain ⟨_, q12, e12⟩ := hdep ⟨12, .data⟩ (by simp) rfl _ _ rfl rfl
        have g12 : a.tmps.getD 16 undef = .string D2 := by rw [Array.getD_eq_getD_getElem?, q12, e12]; rfl
        rw [e12] at q12
        clear e12
        clear hfr hdep hsz
        generalize hK : (fun (a' : Act) (w' : World) => _) = K
        go_simp
        rw [if_neg (by omega)]
        go_simp
        rw [← hK]
        exact ⟨_, rfl, rfl, Below.refl _ _, hG⟩
      · cases ho
        obtain ⟨_, q13, e13⟩ := hdep ⟨13, .data⟩ (by simp) rfl _ _ rfl rfl
        have g13 : a.tmps.getD 17 undef = .string (((((⟨#[114, 101, 102, 117, 115, 101, 100, 32]⟩ ++ D0) ++ ⟨#[32, 106, 111, 98, 115, 32]⟩) ++ D1) ++ ⟨#[32, 100, 111, 110, 101, 32]⟩) ++ D2) := by rw [Array.getD_eq_getD_getElem?, q13, e13]; rfl
        rw [e13] at q13
        clear e13
        clear hfr hdep hsz
        generalize hK : (fun (a' : Act) (w' : World) => _) = K
        go_simp
        rw [if_neg (by omega)]
        go_simp
        rw [← hK]
        exact ⟨_, rfl, rfl, Below.refl _ _, hG⟩
      · cases ho
        have g : a.tmps.getD 1 undef = .pointer (some ⟨w.heap.size, 0, none⟩) := by rw [Array.getD_eq_getD_getElem?, hfr 1 (no_dst (by kernel_rfl))]; rfl
        clear hfr hdep hsz
        generalize hK : (fun (a' : Act) (w' : World) => _) = K
        go_simp
        rw [← hK]
        exact ⟨_, rfl, rfl, Below.refl _ _, hG⟩
      · cases ho
        obtain ⟨_, q15, e15⟩ := hdep ⟨15, .data⟩ (by simp) rfl _ _ rfl rfl
        have g15 : a.tmps.getD 19 undef = .pointer (some ⟨w.heap.size, 3, none⟩) := by rw [Array.getD_eq_getD_getElem?, q15, e15]; rfl
        rw [e15] at q15
        clear e15
        have hc := cell_of_row W w.heap.size 3 _ _ _ hG.2
        clear hfr hdep hsz
        generalize hK : (fun (a' : Act) (w' : World) => _) = K
        go_simp
        rw [← hK]
        exact ⟨_, rfl, rfl, Below.refl _ _, hG⟩
      · cases ho
        obtain ⟨_, q16, e16⟩ := hdep ⟨16, .data⟩ (by simp) rfl _ _ rfl rfl
        have g16 : a.tmps.getD 20 undef = .int .i64 x3 := by rw [Array.getD_eq_getD_getElem?, q16, e16]; rfl
        rw [e16] at q16
        clear e16
        clear hfr hdep hsz
        generalize hK : (fun (a' : Act) (w' : World) => _) = K
        go_simp
        refine (C3.out W).mono ?_
        rintro e W2 ⟨rfl, hb⟩
        show K _ _
        rw [← hK]
        exact ⟨_, rfl, rfl, hb, hG.1.trans (hb.mono hG.1.size), (hb.block w.heap.size (lt_of_block hG.2)).trans hG.2⟩
      · cases ho
        obtain ⟨_, q14, e14⟩ := hdep ⟨14, .data⟩ (by simp) rfl _ _ rfl rfl
        have g14 : a.tmps.getD 18 undef = .string ((((((⟨#[114, 101, 102, 117, 115, 101, 100, 32]⟩ ++ D0) ++ ⟨#[32, 106, 111, 98, 115, 32]⟩) ++ D1) ++ ⟨#[32, 100, 111, 110, 101, 32]⟩) ++ D2) ++ ⟨#[32, 108, 97, 116, 101, 32]⟩) := by rw [Array.getD_eq_getD_getElem?, q14, e14]; rfl
        rw [e14] at q14
        clear e14
        obtain ⟨_, q17, e17⟩ := hdep ⟨17, .data⟩ (by simp) rfl _ _ rfl rfl
        have g17 : a.tmps.getD 21 undef = .string D3 := by rw [Array.getD_eq_getD_getElem?, q17, e17]; rfl
        rw [e17] at q17
        clear e17
        clear hfr hdep hsz
        generalize hK : (fun (a' : Act) (w' : World) => _) = K
        go_simp
        rw [if_neg (by omega)]
        go_simp
        rw [← hK]
        exact ⟨_, rfl, rfl, Below.refl _ _, hG⟩
      · cases ho
        obtain ⟨_, q18, e18⟩ := hdep ⟨18, .data⟩ (by simp) rfl _ _ rfl rfl
        have g18 : a.tmps.getD 22 undef = .string (((((((⟨#[114, 101, 102, 117, 115, 101, 100, 32]⟩ ++ D0) ++ ⟨#[32, 106, 111, 98, 115, 32]⟩) ++ D1) ++ ⟨#[32, 100, 111, 110, 101, 32]⟩) ++ D2) ++ ⟨#[32, 108, 97, 116, 101, 32]⟩) ++ D3) := by rw [Array.getD_eq_getD_getElem?, q18, e18]; rfl
        rw [e18] at q18
        clear e18
        clear hfr hdep hsz
        generalize hK : (fun (a' : Act) (w' : World) => _) = K
        go_simp
        rw [if_neg (by omega)]
        go_simp
        rw [← hK]
        exact ⟨_, rfl, rfl, Below.refl _ _, hG⟩
      · cases ho
        have g : a.tmps.getD 1 undef = .pointer (some ⟨w.heap.size, 0, none⟩) := by rw [Array.getD_eq_getD_getElem?, hfr 1 (no_dst (by kernel_rfl))]; rfl
        clear hfr hdep hsz
        generalize hK : (fun (a' : Act) (w' : World) => _) = K
        go_simp
        rw [← hK]
        exact ⟨_, rfl, rfl, Below.refl _ _, hG⟩
      · cases ho
        obtain ⟨_, q20, e20⟩ := hdep ⟨20, .data⟩ (by simp) rfl _ _ rfl rfl
        have g20 : a.tmps.getD 24 undef = .pointer (some ⟨w.heap.size, 4, none⟩) := by rw [Array.getD_eq_getD_getElem?, q20, e20]; rfl
        rw [e20] at q20
        clear e20
        have hc := cell_of_row W w.heap.size 4 _ _ _ hG.2
        clear hfr hdep hsz
        generalize hK : (fun (a' : Act) (w' : World) => _) = K
        go_simp
        rw [← hK]
        exact ⟨_, rfl, rfl, Below.refl _ _, hG⟩
      · cases ho
        obtain ⟨_, q21, e21⟩ := hdep ⟨21, .data⟩ (by simp) rfl _ _ rfl rfl
        have g21 : a.tmps.getD 25 undef = .int .i64 x4 := by rw [Array.getD_eq_getD_getElem?, q21, e21]; rfl
        rw [e21] at q21
        clear e21
        clear hfr hdep hsz
        generalize hK : (fun (a' : Act) (w' : World) => _) = K
        go_simp
        refine (C4.out W).mono ?_
        rintro e W2 ⟨rfl, hb⟩
        show K _ _
        rw [← hK]
        exact ⟨_, rfl, rfl, hb, hG.1.trans (hb.mono hG.1.size), (hb.block w.heap.size (lt_of_block hG.2)).trans hG.2⟩
      · cases ho
        obtain ⟨_, q19, e19⟩ := hdep ⟨19, .data⟩ (by simp) rfl _ _ rfl rfl
        have g19 : a.tmps.getD 23 undef = .string ((((((((⟨#[114, 101, 102, 117, 115, 101, 100, 32]⟩ ++ D0) ++ ⟨#[32, 106, 111, 98, 115, 32]⟩) ++ D1) ++ ⟨#[32, 100, 111, 110, 101, 32]⟩) ++ D2) ++ ⟨#[32, 108, 97, 116, 101, 32]⟩) ++ D3) ++ ⟨#[32, 114, 101, 115, 112, 111, 110, 115, 101, 32]⟩) := by rw [Array.getD_eq_getD_getElem?, q19, e19]; rfl
        rw [e19] at q19
        clear e19
        obtain ⟨_, q22, e22⟩ := hdep ⟨22, .data⟩ (by simp) rfl _ _ rfl rfl
        have g22 : a.tmps.getD 26 undef = .string D4 := by rw [Array.getD_eq_getD_getElem?, q22, e22]; rfl
        rw [e22] at q22
        clear e22
        clear hfr hdep hsz
        generalize hK : (fun (a' : Act) (w' : World) => _) = K
        go_simp
        rw [if_neg (by omega)]
        go_simp
        rw [← hK]
        exact ⟨_, rfl, rfl, Below.refl _ _, hG⟩
      · cases ho
        obtain ⟨_, q23, e23⟩ := hdep ⟨23, .data⟩ (by simp) rfl _ _ rfl rfl
        have g23 : a.tmps.getD 27 undef = .string (((((((((⟨#[114, 101, 102, 117, 115, 101, 100, 32]⟩ ++ D0) ++ ⟨#[32, 106, 111, 98, 115, 32]⟩) ++ D1) ++ ⟨#[32, 100, 111, 110, 101, 32]⟩) ++ D2) ++ ⟨#[32, 108, 97, 116, 101, 32]⟩) ++ D3) ++ ⟨#[32, 114, 101, 115, 112, 111, 110, 115, 101, 32]⟩) ++ D4) := by rw [Array.getD_eq_getD_getElem?, q23, e23]; rfl
        rw [e23] at q23
        clear e23
        clear hfr hdep hsz
        generalize hK : (fun (a' : Act) (w' : World) => _) = K
        go_simp
        rw [if_neg (by omega)]
        go_simp
        rw [← hK]
        exact ⟨_, rfl, rfl, Below.refl _ _, hG⟩
      · cases ho
        have g : a.tmps.getD 1 undef = .pointer (some ⟨w.heap.size, 0, none⟩) := by rw [Array.getD_eq_getD_getElem?, hfr 1 (no_dst (by kernel_rfl))]; rfl
        clear hfr hdep hsz
        generalize hK : (fun (a' : Act) (w' : World) => _) = K
        go_simp
        rw [← hK]
        exact ⟨_, rfl, rfl, Below.refl _ _, hG⟩
      · cases ho
        obtain ⟨_, q25, e25⟩ := hdep ⟨25, .data⟩ (by simp) rfl _ _ rfl rfl
        have g25 : a.tmps.getD 29 undef = .pointer (some ⟨w.heap.size, 5, none⟩) := by rw [Array.getD_eq_getD_getElem?, q25, e25]; rfl
        rw [e25] at q25
        clear e25
        have hc := cell_of_row W w.heap.size 5 _ _ _ hG.2
        clear hfr hdep hsz
        generalize hK : (fun (a' : Act) (w' : World) => _) = K
        go_simp
        rw [← hK]
        exact ⟨_, rfl, rfl, Below.refl _ _, hG⟩
      · cases ho
        obtain ⟨_, q26, e26⟩ := hdep ⟨26, .data⟩ (by simp) rfl _ _ rfl rfl
        have g26 : a.tmps.getD 30 undef = .int .i64 x5 := by rw [Array.getD_eq_getD_getElem?, q26, e26]; rfl
        rw [e26] at q26
        clear e26
        clear hfr hdep hsz
        generalize hK : (fun (a' : Act) (w' : World) => _) = K
        go_simp
        refine (C5.out W).mono ?_
        rintro e W2 ⟨rfl, hb⟩
        show K _ _
        rw [← hK]
        exact ⟨_, rfl, rfl, hb, hG.1.trans (hb.mono hG.1.size), (hb.block w.heap.size (lt_of_block hG.2)).trans hG.2⟩
      · cases ho
        obtain ⟨_, q24, e24⟩ := hdep ⟨24, .data⟩ (by simp) rfl _ _ rfl rfl
        have g24 : a.tmps.getD 28 undef = .string ((((((((((⟨#[114, 101, 102, 117, 115, 101, 100, 32]⟩ ++ D0) ++ ⟨#[32, 106, 111, 98, 115, 32]⟩) ++ D1) ++ ⟨#[32, 100, 111, 110, 101, 32]⟩) ++ D2) ++ ⟨#[32, 108, 97, 116, 101, 32]⟩) ++ D3) ++ ⟨#[32, 114, 101, 115, 112, 111, 110, 115, 101, 32]⟩) ++ D4) ++ ⟨#[32, 114, 101, 108, 111, 97, 100, 115, 32]⟩) := by rw [Array.getD_eq_getD_getElem?, q24, e24]; rfl
        rw [e24] at q24
        clear e24
        obtain ⟨_, q27, e27⟩ := hdep ⟨27, .data⟩ (by simp) rfl _ _ rfl rfl
        have g27 : a.tmps.getD 31 undef = .string D5 := by rw [Array.getD_eq_getD_getElem?, q27, e27]; rfl
        rw [e27] at q27
        clear e27
        clear hfr hdep hsz
        generalize hK : (fun (a' : Act) (w' : World) => _) = K
        go_simp
        rw [if_neg (by omega)]
        go_simp
        rw [← hK]
        exact ⟨_, rfl, rfl, Below.refl _ _, hG⟩
      · cases ho
        obtain ⟨_, q28, e28⟩ := hdep ⟨28, .data⟩ (by simp) rfl _ _ rfl rfl
        have g28 : a.tmps.getD 32 undef = .string (((((((((((⟨#[114, 101, 102, 117, 115, 101, 100, 32]⟩ ++ D0) ++ ⟨#[32, 106, 111, 98, 115, 32]⟩) ++ D1) ++ ⟨#[32, 100, 111, 110, 101, 32]⟩) ++ D2) ++ ⟨#[32, 108, 97, 116, 101, 32]⟩) ++ D3) ++ ⟨#[32, 114, 101, 115, 112, 111, 110, 115, 101, 32]⟩) ++ D4) ++ ⟨#[32, 114, 101, 108, 111, 97, 100, 115, 32]⟩) ++ D5) := by rw [Array.getD_eq_getD_getElem?, q28, e28]; rfl
        rw [e28] at q28
        clear e28
        clear hfr hdep hsz
        generalize hK : (fun (a' : Act) (w' : World) => _) = K
        go_simp
        rw [if_neg (by omega)]
        go_simp
        rw [← hK]
        exact ⟨_, rfl, rfl, Below.refl _ _, hG⟩
      · cases ho
        have g : a.tmps.getD 1 undef = .pointer (some ⟨w.heap.size, 0, none⟩) := by rw [Array.getD_eq_getD_getElem?, hfr 1 (no_dst (by kernel_rfl))]; rfl
        clear hfr hdep hsz
        generalize hK : (fun (a' : Act) (w' : World) => _) = K
        go_simp
        rw [← hK]
        exact ⟨_, rfl, rfl, Below.refl _ _, hG⟩
      · cases ho
        obtain ⟨_, q30, e30⟩ := hdep ⟨30, .data⟩ (by simp) rfl _ _ rfl rfl
        have g30 : a.tmps.getD 34 undef = .pointer (some ⟨w.heap.size, 6, none⟩) := by rw [Array.getD_eq_getD_getElem?, q30, e30]; rfl
        rw [e30] at q30
        clear e30
        have hc := cell_of_row W w.heap.size 6 _ _ _ hG.2
        clear hfr hdep hsz
        generalize hK : (fun (a' : Act) (w' : World) => _) = K
        go_simp
        rw [← hK]
        exact ⟨_, rfl, rfl, Below.refl _ _, hG⟩
      · cases ho
        obtain ⟨_, q31, e31⟩ := hdep ⟨31, .data⟩ (by simp) rfl _ _ rfl rfl
        have g31 : a.tmps.getD 35 undef = .int .i64 x6 := by rw [Array.getD_eq_getD_getElem?, q31, e31]; rfl
        rw [e31] at q31
        clear e31
        clear hfr hdep hsz
        generalize hK : (fun (a' : Act) (w' : World) => _) = K
        go_simp
        refine (C6.out W).mono ?_
        rintro e W2 ⟨rfl, hb⟩
        show K _ _
        rw [← hK]
        exact ⟨_, rfl, rfl, hb, hG.1.trans (hb.mono hG.1.size), (hb.block w.heap.size (lt_of_block hG.2)).trans hG.2⟩
      · cases ho
        obtain ⟨_, q29, e29⟩ := hdep ⟨29, .data⟩ (by simp) rfl _ _ rfl rfl
        have g29 : a.tmps.getD 33 undef = .string ((((((((((((⟨#[114, 101, 102, 117, 115, 101, 100, 32]⟩ ++ D0) ++ ⟨#[32, 106, 111, 98, 115, 32]⟩) ++ D1) ++ ⟨#[32, 100, 111, 110, 101, 32]⟩) ++ D2) ++ ⟨#[32, 108, 97, 116, 101, 32]⟩) ++ D3) ++ ⟨#[32, 114, 101, 115, 112, 111, 110, 115, 101, 32]⟩) ++ D4) ++ ⟨#[32, 114, 101, 108, 111, 97, 100, 115, 32]⟩) ++ D5) ++ ⟨#[32, 116, 105, 109, 101, 115, 32]⟩) := by rw [Array.getD_eq_getD_getElem?, q29, e29]; rfl
        rw [e29] at q29
        clear e29
        obtain ⟨_, q32, e32⟩ := hdep ⟨32, .data⟩ (by simp) rfl _ _ rfl rfl
        have g32 : a.tmps.getD 36 undef = .string D6 := by rw [Array.getD_eq_getD_getElem?, q32, e32]; rfl
        rw [e32] at q32
        clear e32
        clear hfr hdep hsz
        generalize hK : (fun (a' : Act) (w' : World) => _) = K
        go_simp
        rw [if_neg (by omega)]
        go_simp
        rw [← hK]
        exact ⟨_, rfl, rfl, Below.refl _ _, hG⟩
      · cases ho
        obtain ⟨_, q33, e33⟩ := hdep ⟨33, .data⟩ (by simp) rfl _ _ rfl rfl
        have g33 : a.tmps.getD 37 undef = .string (((((((((((((⟨#[114, 101, 102, 117, 115, 101, 100, 32]⟩ ++ D0) ++ ⟨#[32, 106, 111, 98, 115, 32]⟩) ++ D1) ++ ⟨#[32, 100, 111, 110, 101, 32]⟩) ++ D2) ++ ⟨#[32, 108, 97, 116, 101, 32]⟩) ++ D3) ++ ⟨#[32, 114, 101, 115, 112, 111, 110, 115, 101, 32]⟩) ++ D4) ++ ⟨#[32, 114, 101, 108, 111, 97, 100, 115, 32]⟩) ++ D5) ++ ⟨#[32, 116, 105, 109, 101, 115, 32]⟩) ++ D6) := by rw [Array.getD_eq_getD_getElem?, q33, e33]; rfl
        rw [e33] at q33
        clear e33
        clear hfr hdep hsz
        generalize hK : (fun (a' : Act) (w' : World) => _) = K
        go_simp
        rw [← hK]
        exact ⟨_, rfl, rfl, Below.refl _ _, hG⟩
    · intro a W hd hsz hfr hall hG
      obtain ⟨_, q3, e3⟩ := hall 34 _ 3 rfl rfl
      have f0 := hfr 0 (no_dst (by kernel_rfl))
      have f1 := hfr 1 (no_dst (by kernel_rfl))
      have f2 := hfr 2 (no_dst (by kernel_rfl))
      have f38 := hfr 38 (no_dst (by kernel_rfl))
      have f39 := hfr 39 (no_dst (by kernel_rfl))
      have f40 := hfr 40 (no_dst (by kernel_rfl))
      have f41 := hfr 41 (no_dst (by kernel_rfl))
      have f42 := hfr 42 (no_dst (by kernel_rfl))
      clear hfr hall
      have ha : a = { tmps := a.tmps, defers := [] } := by cases a; simp at hd; subst hd; rfl
      rw [ha, arr_lit43 a.tmps hsz]
      rw [show a.tmps.getD 0 undef = .agg #[.int .i64 x0, .int .i64 x1, .int .i64 x2, .int .i64 x3, .int .i64 x4, .int .i64 x5, .int .i64 x6, .bool br] from by rw [Array.getD_eq_getD_getElem?, f0]; rfl]
      rw [show a.tmps.getD 1 undef = .pointer (some ⟨w.heap.size, 0, none⟩) from by rw [Array.getD_eq_getD_getElem?, f1]; rfl]
      rw [show a.tmps.getD 2 undef = .string ⟨#[]⟩ from by rw [Array.getD_eq_getD_getElem?, f2]; rfl]
      rw [show a.tmps.getD 38 undef = undef from by rw [Array.getD_eq_getD_getElem?, f38]; rfl]
      rw [show a.tmps.getD 39 undef = undef from by rw [Array.getD_eq_getD_getElem?, f39]; rfl]
      rw [show a.tmps.getD 40 undef = undef from by rw [Array.getD_eq_getD_getElem?, f40]; rfl]
      rw [show a.tmps.getD 41 undef = undef from by rw [Array.getD_eq_getD_getElem?, f41]; rfl]
      rw [show a.tmps.getD 42 undef = undef from by rw [Array.getD_eq_getD_getElem?, f42]; rfl]
      rw [show a.tmps.getD 3 undef = .string (((((((((((((⟨#[114, 101, 102, 117, 115, 101, 100, 32]⟩ ++ D0) ++ ⟨#[32, 106, 111, 98, 115, 32]⟩) ++ D1) ++ ⟨#[32, 100, 111, 110, 101, 32]⟩) ++ D2) ++ ⟨#[32, 108, 97, 116, 101, 32]⟩) ++ D3) ++ ⟨#[32, 114, 101, 115, 112, 111, 110, 115, 101, 32]⟩) ++ D4) ++ ⟨#[32, 114, 101, 108, 111, 97, 100, 115, 32]⟩) ++ D5) ++ ⟨#[32, 116, 105, 109, 101, 115, 32]⟩) ++ D6) from by rw [Array.getD_eq_getD_getElem?, q3, e3]; rfl]
      clear ha hd hsz q3 e3 f0 f1 f2 f38 f39 f40 f41 f42
      go_wp2
      go_meet
      exact ⟨rfl, hG.1, cell_of_row W w.heap.size 7 _ _ _ hG.2⟩
  case rest =>
    obtain ⟨rfl, hb1, hc7⟩ := hcut
    cases br with
    | true =>
      go_wp2
      go_ret
      exact ⟨rfl, hb1⟩
    | false =>
      go_wp2
      go_ret
      exact ⟨rfl, hb1⟩

set_option maxHeartbeats 8000000 in
set_option maxRecDepth 100000 in
theorem text_any (x0 x1 x2 x3 x4 x5 x6 : Int) (br : Bool) (w : World) (htab : Lib.TabIs Tryd.prog w "internal/strconv.uint64pow10" .u64 Lib.pow10Tab) (hg : 0 < w.heap.size) (hx0 : -9223372036854775808 ≤ x0 ∧ x0 ≤ 9223372036854775807) (hx1 : -9223372036854775808 ≤ x1 ∧ x1 ≤ 9223372036854775807) (hx2 : -9223372036854775808 ≤ x2 ∧ x2 ≤ 9223372036854775807) (hx3 : -9223372036854775808 ≤ x3 ∧ x3 ≤ 9223372036854775807) (hx4 : -9223372036854775808 ≤ x4 ∧ x4 ≤ 9223372036854775807) (hx5 : -9223372036854775808 ≤ x5 ∧ x5 ≤ 9223372036854775807) (hx6 : -9223372036854775808 ≤ x6 ∧ x6 ≤ 9223372036854775807) :
    Calls Tryd.prog 13 #[.agg #[.int .i64 x0, .int .i64 x1, .int .i64 x2, .int .i64 x3, .int .i64 x4, .int .i64 x5, .int .i64 x6, .bool br]] w fun e w' => e = .returned (.string (textD ⟨(itoa x0).toArray⟩ ⟨(itoa x1).toArray⟩ ⟨(itoa x2).toArray⟩ ⟨(itoa x3).toArray⟩ ⟨(itoa x4).toArray⟩ ⟨(itoa x5).toArray⟩ ⟨(itoa x6).toArray⟩ br)) ∧ Below w.heap.size w w' := by
  have l0 := itoa_len x0 hx0.1 hx0.2
  have c0 : ∀ (W : World) (bk : Nat), Below w.heap.size w W → W.cell? ⟨bk, 0, none⟩ = some (.int .i64 x0) → Calls Tryd.prog 20 #[.slice (some ⟨bk, 0, none⟩) 1 1] W fun e w' => e = .returned (.string ⟨(itoa x0).toArray⟩) ∧ Below W.heap.size W w' := fun W bk hb hc => words_one x0 hx0 W bk hc (tab_below htab hb hg) (by have := hb.size; omega)
  obtain ⟨D0, hD0⟩ : ∃ D : ByteArray, D = ⟨(itoa x0).toArray⟩ := ⟨_, rfl⟩
  simp only [← hD0] at c0 ⊢
  have s0 : D0.size ≤ 21 := by rw [Lib.size_eq, hD0]; exact l0
  have C0 := Lib.hid c0
  clear hD0 l0 c0
  have l1 := itoa_len x1 hx1.1 hx1.2
  have c1 : ∀ (W : World) (bk : Nat), Below w.heap.size w W → W.cell? ⟨bk, 0, none⟩ = some (.int .i64 x1) → Calls Tryd.prog 20 #[.slice (some ⟨bk, 0, none⟩) 1 1] W fun e w' => e = .returned (.string ⟨(itoa x1).toArray⟩) ∧ Below W.heap.size W w' := fun W bk hb hc => words_one x1 hx1 W bk hc (tab_below htab hb hg) (by have := hb.size; omega)
  obtain ⟨D1, hD1⟩ : ∃ D : ByteArray, D = ⟨(itoa x1).toArray⟩ := ⟨_, rfl⟩
  simp only [← hD1] at c1 ⊢
  have s1 : D1.size ≤ 21 := by rw [Lib.size_eq, hD1]; exact l1
  have C1 := Lib.hid c1
  clear hD1 l1 c1
  have l2 := itoa_len x2 hx2.1 hx2.2
  have c2 : ∀ (W : World) (bk : Nat), Below w.heap.size w W → W.cell? ⟨bk, 0, none⟩ = some (.int .i64 x2) → Calls Tryd.prog 20 #[.slice (some ⟨bk, 0, none⟩) 1 1] W fun e w' => e = .returned (.string ⟨(itoa x2).toArray⟩) ∧ Below W.heap.size W w' := fun W bk hb hc => words_one x2 hx2 W bk hc (tab_below htab hb hg) (by have := hb.size; omega)
  obtain ⟨D2, hD2⟩ : ∃ D : ByteArray, D = ⟨(itoa x2).toArray⟩ := ⟨_, rfl⟩
  simp only [← hD2] at c2 ⊢
  have s2 : D2.size ≤ 21 := by rw [Lib.size_eq, hD2]; exact l2
  have C2 := Lib.hid c2
  clear hD2 l2 c2
  have l3 := itoa_len x3 hx3.1 hx3.2
  have c3 : ∀ (W : World) (bk : Nat), Below w.heap.size w W → W.cell? ⟨bk, 0, none⟩ = some (.int .i64 x3) → Calls Tryd.prog 20 #[.slice (some ⟨bk, 0, none⟩) 1 1] W fun e w' => e = .returned (.string ⟨(itoa x3).toArray⟩) ∧ Below W.heap.size W w' := fun W bk hb hc => words_one x3 hx3 W bk hc (tab_below htab hb hg) (by have := hb.size; omega)
  obtain ⟨D3, hD3⟩ : ∃ D : ByteArray, D = ⟨(itoa x3).toArray⟩ := ⟨_, rfl⟩
  simp only [← hD3] at c3 ⊢
  have s3 : D3.size ≤ 21 := by rw [Lib.size_eq, hD3]; exact l3
  have C3 := Lib.hid c3
  clear hD3 l3 c3
  have l4 := itoa_len x4 hx4.1 hx4.2
  have c4 : ∀ (W : World) (bk : Nat), Below w.heap.size w W → W.cell? ⟨bk, 0, none⟩ = some (.int .i64 x4) → Calls Tryd.prog 20 #[.slice (some ⟨bk, 0, none⟩) 1 1] W fun e w' => e = .returned (.string ⟨(itoa x4).toArray⟩) ∧ Below W.heap.size W w' := fun W bk hb hc => words_one x4 hx4 W bk hc (tab_below htab hb hg) (by have := hb.size; omega)
  obtain ⟨D4, hD4⟩ : ∃ D : ByteArray, D = ⟨(itoa x4).toArray⟩ := ⟨_, rfl⟩
  simp only [← hD4] at c4 ⊢
  have s4 : D4.size ≤ 21 := by rw [Lib.size_eq, hD4]; exact l4
  have C4 := Lib.hid c4
  clear hD4 l4 c4
  have l5 := itoa_len x5 hx5.1 hx5.2
  have c5 : ∀ (W : World) (bk : Nat), Below w.heap.size w W → W.cell? ⟨bk, 0, none⟩ = some (.int .i64 x5) → Calls Tryd.prog 20 #[.slice (some ⟨bk, 0, none⟩) 1 1] W fun e w' => e = .returned (.string ⟨(itoa x5).toArray⟩) ∧ Below W.heap.size W w' := fun W bk hb hc => words_one x5 hx5 W bk hc (tab_below htab hb hg) (by have := hb.size; omega)
  obtain ⟨D5, hD5⟩ : ∃ D : ByteArray, D = ⟨(itoa x5).toArray⟩ := ⟨_, rfl⟩
  simp only [← hD5] at c5 ⊢
  have s5 : D5.size ≤ 21 := by rw [Lib.size_eq, hD5]; exact l5
  have C5 := Lib.hid c5
  clear hD5 l5 c5
  have l6 := itoa_len x6 hx6.1 hx6.2
  have c6 : ∀ (W : World) (bk : Nat), Below w.heap.size w W → W.cell? ⟨bk, 0, none⟩ = some (.int .i64 x6) → Calls Tryd.prog 20 #[.slice (some ⟨bk, 0, none⟩) 1 1] W fun e w' => e = .returned (.string ⟨(itoa x6).toArray⟩) ∧ Below W.heap.size W w' := fun W bk hb hc => words_one x6 hx6 W bk hc (tab_below htab hb hg) (by have := hb.size; omega)
  obtain ⟨D6, hD6⟩ : ∃ D : ByteArray, D = ⟨(itoa x6).toArray⟩ := ⟨_, rfl⟩
  simp only [← hD6] at c6 ⊢
  have s6 : D6.size ≤ 21 := by rw [Lib.size_eq, hD6]; exact l6
  have C6 := Lib.hid c6
  clear hD6 l6 c6
  go_enter Tryd.func13, Tryd.ntmps13
  go_upto_region 1 with (fail)
  have hb0 := (Below.refl w.heap.size w).alloc (Nat.le_refl _) (.cells #[.int .i64 x0, .int .i64 x1, .int .i64 x2, .int .i64 x3, .int .i64 x4, .int .i64 x5, .int .i64 x6, .bool br] 39)
  have hblk := heap_alloc_new w (.cells #[.int .i64 x0, .int .i64 x1, .int .i64 x2, .int .i64 x3, .int .i64 x4, .int .i64 x5, .int .i64 x6, .bool br] 39)
  generalize w.alloc (.cells #[.int .i64 x0, .int .i64 x1, .int .i64 x2, .int .i64 x3, .int .i64 x4, .int .i64 x5, .int .i64 x6, .bool br] 39) = w0 at hb0 hblk ⊢
  go_cut [3] from 50 (fun v3 wx => v3 = .string (((((((((((((⟨#[114, 101, 102, 117, 115, 101, 100, 32]⟩ ++ D0) ++ ⟨#[32, 106, 111, 98, 115, 32]⟩) ++ D1) ++ ⟨#[32, 100, 111, 110, 101, 32]⟩) ++ D2) ++ ⟨#[32, 108, 97, 116, 101, 32]⟩) ++ D3) ++ ⟨#[32, 114, 101, 115, 112, 111, 110, 115, 101, 32]⟩) ++ D4) ++ ⟨#[32, 114, 101, 108, 111, 97, 100, 115, 32]⟩) ++ D5) ++ ⟨#[32, 116, 105, 109, 101, 115, 32]⟩) ++ D6) ∧ Below w.heap.size w wx ∧ wx.cell? ⟨w.heap.size, 7, none⟩ = some (.bool br))
  case first =>
    refine wp_region_facts (by kernel_rfl) (by kernel_rfl) (fun i v W => match i with
          | 0 => v = .pointer (some ⟨w.heap.size, 0, none⟩)
          | 1 => v = .int .i64 x0
          | 2 => ∃ bk, v = .slice (some ⟨bk, 0, none⟩) 1 1 ∧ W.cell? ⟨bk, 0, none⟩ = some (.int .i64 x0)
          | 3 => v = .string D0
          | 4 => v = .string (⟨#[114, 101, 102, 117, 115, 101, 100, 32]⟩ ++ D0)
          | 5 => v = .string ((⟨#[114, 101, 102, 117, 115, 101, 100, 32]⟩ ++ D0) ++ ⟨#[32, 106, 111, 98, 115, 32]⟩)
          | 6 => v = .pointer (some ⟨w.heap.size, 1, none⟩)
          | 7 => v = .int .i64 x1
          | 8 => ∃ bk, v = .slice (some ⟨bk, 0, none⟩) 1 1 ∧ W.cell? ⟨bk, 0, none⟩ = some (.int .i64 x1)
          | 9 => v = .string D1
          | 10 => v = .string (((⟨#[114, 101, 102, 117, 115, 101, 100, 32]⟩ ++ D0) ++ ⟨#[32, 106, 111, 98, 115, 32]⟩) ++ D1)
          | 11 => v = .string ((((⟨#[114, 101, 102, 117, 115, 101, 100, 32]⟩ ++ D0) ++ ⟨#[32, 106, 111, 98, 115, 32]⟩) ++ D1) ++ ⟨#[32, 100, 111, 110, 101, 32]⟩)
          | 12 => v = .pointer (some ⟨w.heap.size, 2, none⟩)
          | 13 => v = .int .i64 x2
          | 14 => ∃ bk, v = .slice (some ⟨bk, 0, none⟩) 1 1 ∧ W.cell? ⟨bk, 0, none⟩ = some (.int .i64 x2)
          | 15 => v = .string D2
          | 16 => v = .string (((((⟨#[114, 101, 102, 117, 115, 101, 100, 32]⟩ ++ D0) ++ ⟨#[32, 106, 111, 98, 115, 32]⟩) ++ D1) ++ ⟨#[32, 100, 111, 110, 101, 32]⟩) ++ D2)
          | 17 => v = .string ((((((⟨#[114, 101, 102, 117, 115, 101, 100, 32]⟩ ++ D0) ++ ⟨#[32, 106, 111, 98, 115, 32]⟩) ++ D1) ++ ⟨#[32, 100, 111, 110, 101, 32]⟩) ++ D2) ++ ⟨#[32, 108, 97, 116, 101, 32]⟩)
          | 18 => v = .pointer (some ⟨w.heap.size, 3, none⟩)
          | 19 => v = .int .i64 x3
          | 20 => ∃ bk, v = .slice (some ⟨bk, 0, none⟩) 1 1 ∧ W.cell? ⟨bk, 0, none⟩ = some (.int .i64 x3)
          | 21 => v = .string D3
          | 22 => v = .string (((((((⟨#[114, 101, 102, 117, 115, 101, 100, 32]⟩ ++ D0) ++ ⟨#[32, 106, 111, 98, 115, 32]⟩) ++ D1) ++ ⟨#[32, 100, 111, 110, 101, 32]⟩) ++ D2) ++ ⟨#[32, 108, 97, 116, 101, 32]⟩) ++ D3)
          | 23 => v = .string ((((((((⟨#[114, 101, 102, 117, 115, 101, 100, 32]⟩ ++ D0) ++ ⟨#[32, 106, 111, 98, 115, 32]⟩) ++ D1) ++ ⟨#[32, 100, 111, 110, 101, 32]⟩) ++ D2) ++ ⟨#[32, 108, 97, 116, 101, 32]⟩) ++ D3) ++ ⟨#[32, 114, 101, 115, 112, 111, 110, 115, 101, 32]⟩)
          | 24 => v = .pointer (some ⟨w.heap.size, 4, none⟩)
          | 25 => v = .int .i64 x4
          | 26 => ∃ bk, v = .slice (some ⟨bk, 0, none⟩) 1 1 ∧ W.cell? ⟨bk, 0, none⟩ = some (.int .i64 x4)
          | 27 => v = .string D4
          | 28 => v = .string (((((((((⟨#[114, 101, 102, 117, 115, 101, 100, 32]⟩ ++ D0) ++ ⟨#[32, 106, 111, 98, 115, 32]⟩) ++ D1) ++ ⟨#[32, 100, 111, 110, 101, 32]⟩) ++ D2) ++ ⟨#[32, 108, 97, 116, 101, 32]⟩) ++ D3) ++ ⟨#[32, 114, 101, 115, 112, 111, 110, 115, 101, 32]⟩) ++ D4)
          | 29 => v = .string ((((((((((⟨#[114, 101, 102, 117, 115, 101, 100, 32]⟩ ++ D0) ++ ⟨#[32, 106, 111, 98, 115, 32]⟩) ++ D1) ++ ⟨#[32, 100, 111, 110, 101, 32]⟩) ++ D2) ++ ⟨#[32, 108, 97, 116, 101, 32]⟩) ++ D3) ++ ⟨#[32, 114, 101, 115, 112, 111, 110, 115, 101, 32]⟩) ++ D4) ++ ⟨#[32, 114, 101, 108, 111, 97, 100, 115, 32]⟩)
          | 30 => v = .pointer (some ⟨w.heap.size, 5, none⟩)
          | 31 => v = .int .i64 x5
          | 32 => ∃ bk, v = .slice (some ⟨bk, 0, none⟩) 1 1 ∧ W.cell? ⟨bk, 0, none⟩ = some (.int .i64 x5)
          | 33 => v = .string D5
          | 34 => v = .string (((((((((((⟨#[114, 101, 102, 117, 115, 101, 100, 32]⟩ ++ D0) ++ ⟨#[32, 106, 111, 98, 115, 32]⟩) ++ D1) ++ ⟨#[32, 100, 111, 110, 101, 32]⟩) ++ D2) ++ ⟨#[32, 108, 97, 116, 101, 32]⟩) ++ D3) ++ ⟨#[32, 114, 101, 115, 112, 111, 110, 115, 101, 32]⟩) ++ D4) ++ ⟨#[32, 114, 101, 108, 111, 97, 100, 115, 32]⟩) ++ D5)
          | 35 => v = .string ((((((((((((⟨#[114, 101, 102, 117, 115, 101, 100, 32]⟩ ++ D0) ++ ⟨#[32, 106, 111, 98, 115, 32]⟩) ++ D1) ++ ⟨#[32, 100, 111, 110, 101, 32]⟩) ++ D2) ++ ⟨#[32, 108, 97, 116, 101, 32]⟩) ++ D3) ++ ⟨#[32, 114, 101, 115, 112, 111, 110, 115, 101, 32]⟩) ++ D4) ++ ⟨#[32, 114, 101, 108, 111, 97, 100, 115, 32]⟩) ++ D5) ++ ⟨#[32, 116, 105, 109, 101, 115, 32]⟩)
          | 36 => v = .pointer (some ⟨w.heap.size, 6, none⟩)
          | 37 => v = .int .i64 x6
          | 38 => ∃ bk, v = .slice (some ⟨bk, 0, none⟩) 1 1 ∧ W.cell? ⟨bk, 0, none⟩ = some (.int .i64 x6)
          | 39 => v = .string D6
          | 40 => v = .string (((((((((((((⟨#[114, 101, 102, 117, 115, 101, 100, 32]⟩ ++ D0) ++ ⟨#[32, 106, 111, 98, 115, 32]⟩) ++ D1) ++ ⟨#[32, 100, 111, 110, 101, 32]⟩) ++ D2) ++ ⟨#[32, 108, 97, 116, 101, 32]⟩) ++ D3) ++ ⟨#[32, 114, 101, 115, 112, 111, 110, 115, 101, 32]⟩) ++ D4) ++ ⟨#[32, 114, 101, 108, 111, 97, 100, 115, 32]⟩) ++ D5) ++ ⟨#[32, 116, 105, 109, 101, 115, 32]⟩) ++ D6)
          | _ => v = .string (((((((((((((⟨#[114, 101, 102, 117, 115, 101, 100, 32]⟩ ++ D0) ++ ⟨#[32, 106, 111, 98, 115, 32]⟩) ++ D1) ++ ⟨#[32, 100, 111, 110, 101, 32]⟩) ++ D2) ++ ⟨#[32, 108, 97, 116, 101, 32]⟩) ++ D3) ++ ⟨#[32, 114, 101, 115, 112, 111, 110, 115, 101, 32]⟩) ++ D4) ++ ⟨#[32, 114, 101, 108, 111, 97, 100, 115, 32]⟩) ++ D5) ++ ⟨#[32, 116, 105, 109, 101, 115, 32]⟩) ++ D6)) (fun w w' => Below w.heap.size w w') ?_ (fun W => Below w.heap.size w W ∧ W.heap[w.heap.size]? = some (.cells #[.int .i64 x0, .int .i64 x1, .int .i64 x2, .int .i64 x3, .int .i64 x4, .int .i64 x5, .int .i64 x6, .bool br] 39 (0, 0))) ⟨hb0.drew, hblk⟩ ?_ ?_
    · intro i v W W' h hb
      have key : ∀ (x : Int), (∃ bk, v = .slice (some ⟨bk, 0, none⟩) 1 1 ∧ W.cell? ⟨bk, 0, none⟩ = some (.int .i64 x)) → ∃ bk, v = .slice (some ⟨bk, 0, none⟩) 1 1 ∧ W'.cell? ⟨bk, 0, none⟩ = some (.int .i64 x) := fun x ⟨bk, e, hc⟩ => ⟨bk, e, (hb.cell (cell_lt hc)).trans hc⟩
      revert h
      split <;> first | exact id | exact key _
    · intro i o a W ho hsz hfr hdep hG
      have hi : i < 42 := (Array.getElem?_eq_some_iff.1 ho).1
      have hin : i = 0 ∨ i = 1 ∨ i = 2 ∨ i = 3 ∨ i = 4 ∨ i = 5 ∨ i = 6 ∨ i = 7 ∨ i = 8 ∨ i = 9 ∨ i = 10 ∨ i = 11 ∨ i = 12 ∨ i = 13 ∨ i = 14 ∨ i = 15 ∨ i = 16 ∨ i = 17 ∨ i = 18 ∨ i = 19 ∨ i = 20 ∨ i = 21 ∨ i = 22 ∨ i = 23 ∨ i = 24 ∨ i = 25 ∨ i = 26 ∨ i = 27 ∨ i = 28 ∨ i = 29 ∨ i = 30 ∨ i = 31 ∨ i = 32 ∨ i = 33 ∨ i = 34 ∨ i = 35 ∨ i = 36 ∨ i = 37 ∨ i = 38 ∨ i = 39 ∨ i = 40 ∨ i = 41 := by omega
      rcases hin with rfl | rfl | rfl | rfl | rfl | rfl | rfl | rfl | rfl | rfl | rfl | rfl | rfl | rfl | rfl | rfl | rfl | rfl | rfl | rfl | rfl | rfl | rfl | rfl | rfl | rfl | rfl | rfl | rfl | rfl | rfl | rfl | rfl | rfl | rfl | rfl | rfl | rfl | rfl | rfl | rfl | rfl
      · cases ho
        have g : a.tmps.getD 1 undef = .pointer (some ⟨w.heap.size, 0, none⟩) := by rw [Array.getD_eq_getD_getElem?, hfr 1 (no_dst (by kernel_rfl))]; rfl
        clear hfr hdep hsz
        generalize hK : (fun (a' : Act) (w' : World) => _) = K
        go_simp
        rw [← hK]
        exact ⟨_, rfl, rfl, Below.refl _ _, hG⟩
      · cases ho
        obtain ⟨_, q0, e0⟩ := hdep ⟨0, .data⟩ (by simp) rfl _ _ rfl rfl
        have g0 : a.tmps.getD 4 undef = .pointer (some ⟨w.heap.size, 0, none⟩) := by rw [Array.getD_eq_getD_getElem?, q0, e0]; rfl
        rw [e0] at q0
        clear e0
        have hc := cell_of_row W w.heap.size 0 _ _ _ hG.2
        clear hfr hdep hsz
        generalize hK : (fun (a' : Act) (w' : World) => _) = K
        go_simp
        rw [← hK]
        exact ⟨_, rfl, rfl, Below.refl _ _, hG⟩
      · cases ho
        obtain ⟨_, q1, e1⟩ := hdep ⟨1, .data⟩ (by simp) rfl _ _ rfl rfl
        have g1 : a.tmps.getD 5 undef = .int .i64 x0 := by rw [Array.getD_eq_getD_getElem?, q1, e1]; rfl
        rw [e1] at q1
        clear e1
        clear hfr hdep hsz
        generalize hK : (fun (a' : Act) (w' : World) => _) = K
        go_simp
        rw [← hK]
        exact ⟨_, rfl, ⟨_, rfl, (Boxed.new W 2 _).cell⟩, (Below.refl _ W).alloc (Nat.le_refl _) _, hG.1.alloc hG.1.size _, (Below.heap_alloc W _ w.heap.size (lt_of_block hG.2)).trans hG.2⟩
      · cases ho
        obtain ⟨_, q2, bk, rfl, hbk⟩ := hdep ⟨2, .data⟩ (by simp) rfl _ _ rfl rfl
        have g2 : a.tmps.getD 6 undef = .slice (some ⟨bk, 0, none⟩) 1 1 := by rw [Array.getD_eq_getD_getElem?, q2]; rfl
        clear hfr hdep hsz
        generalize hK : (fun (a' : Act) (w' : World) => _) = K
        go_simp
        refine (C0.out W bk hG.1 hbk).mono ?_
        rintro e W2 ⟨rfl, hb⟩
        show K _ _
        rw [← hK]
        exact ⟨_, rfl, rfl, hb, hG.1.trans (hb.mono hG.1.size), (hb.block w.heap.size (lt_of_block hG.2)).trans hG.2⟩
      · cases ho
        obtain ⟨_, q3, e3⟩ := hdep ⟨3, .data⟩ (by simp) rfl _ _ rfl rfl
        have g3 : a.tmps.getD 7 undef = .string D0 := by rw [Array.getD_eq_getD_getElem?, q3, e3]; rfl
        rw [e3] at q3
        clear e3
        clear hfr hdep hsz
        generalize hK : (fun (a' : Act) (w' : World) => _) = K
        go_simp
        rw [if_neg (by omega)]
        go_simp
        rw [← hK]
        exact ⟨_, rfl, rfl, Below.refl _ _, hG⟩
      · cases ho
        obtain ⟨_, q4, e4⟩ := hdep ⟨4, .data⟩ (by simp) rfl _ _ rfl rfl
        have g4 : a.tmps.getD 8 undef = .string (⟨#[114, 101, 102, 117, 115, 101, 100, 32]⟩ ++ D0) := by rw [Array.getD_eq_getD_getElem?, q4, e4]; rfl
        rw [e4] at q4
        clear e4
        clear hfr hdep hsz
        generalize hK : (fun (a' : Act) (w' : World) => _) = K
        go_simp
        rw [if_neg (by omega)]
        go_simp
        rw [← hK]
        exact ⟨_, rfl, rfl, Below.refl _ _, hG⟩
      · cases ho
        have g : a.tmps.getD 1 undef = .pointer (some ⟨w.heap.size, 0, none⟩) := by rw [Array.getD_eq_getD_getElem?, hfr 1 (no_dst (by kernel_rfl))]; rfl
        clear hfr hdep hsz
        generalize hK : (fun (a' : Act) (w' : World) => _) = K
        go_simp
        rw [← hK]
        exact ⟨_, rfl, rfl, Below.refl _ _, hG⟩
      · cases ho
        obtain ⟨_, q6, e6⟩ := hdep ⟨6, .data⟩ (by simp) rfl _ _ rfl rfl
        have g6 : a.tmps.getD 10 undef = .pointer (some ⟨w.heap.size, 1, none⟩) := by rw [Array.getD_eq_getD_getElem?, q6, e6]; rfl
        rw [e6] at q6
        clear e6
        have hc := cell_of_row W w.heap.size 1 _ _ _ hG.2
        clear hfr hdep hsz
        generalize hK : (fun (a' : Act) (w' : World) => _) = K
        go_simp
        rw [← hK]
        exact ⟨_, rfl, rfl, Below.refl _ _, hG⟩
      · cases ho
        obtain ⟨_, q7, e7⟩ := hdep ⟨7, .data⟩ (by simp) rfl _ _ rfl rfl
        have g7 : a.tmps.getD 11 undef = .int .i64 x1 := by rw [Array.getD_eq_getD_getElem?, q7, e7]; rfl
        rw [e7] at q7
        clear e7
        clear hfr hdep hsz
        generalize hK : (fun (a' : Act) (w' : World) => _) = K
        go_simp
        rw [← hK]
        exact ⟨_, rfl, ⟨_, rfl, (Boxed.new W 2 _).cell⟩, (Below.refl _ W).alloc (Nat.le_refl _) _, hG.1.alloc hG.1.size _, (Below.heap_alloc W _ w.heap.size (lt_of_block hG.2)).trans hG.2⟩
      · cases ho
        obtain ⟨_, q8, bk, rfl, hbk⟩ := hdep ⟨8, .data⟩ (by simp) rfl _ _ rfl rfl
        have g8 : a.tmps.getD 12 undef = .slice (some ⟨bk, 0, none⟩) 1 1 := by rw [Array.getD_eq_getD_getElem?, q8]; rfl
        clear hfr hdep hsz
        generalize hK : (fun (a' : Act) (w' : World) => _) = K
        go_simp
        refine (C1.out W bk hG.1 hbk).mono ?_
        rintro e W2 ⟨rfl, hb⟩
        show K _ _
        rw [← hK]
        exact ⟨_, rfl, rfl, hb, hG.1.trans (hb.mono hG.1.size), (hb.block w.heap.size (lt_of_block hG.2)).trans hG.2⟩
      · cases ho
        obtain ⟨_, q5, e5⟩ := hdep ⟨5, .data⟩ (by simp) rfl _ _ rfl rfl
        have g5 : a.tmps.getD 9 undef = .string ((⟨#[114, 101, 102, 117, 115, 101, 100, 32]⟩ ++ D0) ++ ⟨#[32, 106, 111, 98, 115, 32]⟩) := by rw [Array.getD_eq_getD_getElem?, q5, e5]; rfl
        rw [e5] at q5
        clear e5
        obtain ⟨_, q9, e9⟩ := hdep ⟨9, .data⟩ (by simp) rfl _ _ rfl rfl
        have g9 : a.tmps.getD 13 undef = .string D1 := by rw [Array.getD_eq_getD_getElem?, q9, e9]; rfl
        rw [e9] at q9
        clear e9
        clear hfr hdep hsz
        generalize hK : (fun (a' : Act) (w' : World) => _) = K
        go_simp
        rw [if_neg (by omega)]
        go_simp
        rw [← hK]
        exact ⟨_, rfl, rfl, Below.refl _ _, hG⟩
      · cases ho
        obtain ⟨_, q10, e10⟩ := hdep ⟨10, .data⟩ (by simp) rfl _ _ rfl rfl
        have g10 : a.tmps.getD 14 undef = .string (((⟨#[114, 101, 102, 117, 115, 101, 100, 32]⟩ ++ D0) ++ ⟨#[32, 106, 111, 98, 115, 32]⟩) ++ D1) := by rw [Array.getD_eq_getD_getElem?, q10, e10]; rfl
        rw [e10] at q10
        clear e10
        clear hfr hdep hsz
        generalize hK : (fun (a' : Act) (w' : World) => _) = K
        go_simp
        rw [if_neg (by omega)]
        go_simp
        rw [← hK]
        exact ⟨_, rfl, rfl, Below.refl _ _, hG⟩
      · cases ho
        have g : a.tmps.getD 1 undef = .pointer (some ⟨w.heap.size, 0, none⟩) := by rw [Array.getD_eq_getD_getElem?, hfr 1 (no_dst (by kernel_rfl))]; rfl
        clear hfr hdep hsz
        generalize hK : (fun (a' : Act) (w' : World) => _) = K
        go_simp
        rw [← hK]
        exact ⟨_, rfl, rfl, Below.refl _ _, hG⟩
      · cases ho
        obtain ⟨_, q12, e12⟩ := hdep ⟨12, .data⟩ (by simp) rfl _ _ rfl rfl
        have g12 : a.tmps.getD 16 undef = .pointer (some ⟨w.heap.size, 2, none⟩) := by rw [Array.getD_eq_getD_getElem?, q12, e12]; rfl
        rw [e12] at q12
        clear e12
        have hc := cell_of_row W w.heap.size 2 _ _ _ hG.2
        clear hfr hdep hsz
        generalize hK : (fun (a' : Act) (w' : World) => _) = K
        go_simp
        rw [← hK]
        exact ⟨_, rfl, rfl, Below.refl _ _, hG⟩
      · cases ho
        obtain ⟨_, q13, e13⟩ := hdep ⟨13, .data⟩ (by simp) rfl _ _ rfl rfl
        have g13 : a.tmps.getD 17 undef = .int .i64 x2 := by rw [Array.getD_eq_getD_getElem?, q13, e13]; rfl
        rw [e13] at q13
        clear e13
        clear hfr hdep hsz
        generalize hK : (fun (a' : Act) (w' : World) => _) = K
        go_simp
        rw [← hK]
        exact ⟨_, rfl, ⟨_, rfl, (Boxed.new W 2 _).cell⟩, (Below.refl _ W).alloc (Nat.le_refl _) _, hG.1.alloc hG.1.size _, (Below.heap_alloc W _ w.heap.size (lt_of_block hG.2)).trans hG.2⟩
      · cases ho
        obtain ⟨_, q14, bk, rfl, hbk⟩ := hdep ⟨14, .data⟩ (by simp) rfl _ _ rfl rfl
        have g14 : a.tmps.getD 18 undef = .slice (some ⟨bk, 0, none⟩) 1 1 := by rw [Array.getD_eq_getD_getElem?, q14]; rfl
        clear hfr hdep hsz
        generalize hK : (fun (a' : Act) (w' : World) => _) = K
        go_simp
        refine (C2.out W bk hG.1 hbk).mono ?_
        rintro e W2 ⟨rfl, hb⟩
        show K _ _
        rw [← hK]
        exact ⟨_, rfl, rfl, hb, hG.1.trans (hb.mono hG.1.size), (hb.block w.heap.size (lt_of_block hG.2)).trans hG.2⟩
      · cases ho
        obtain ⟨_, q11, e11⟩ := hdep ⟨11, .data⟩ (by simp) rfl _ _ rfl rfl
        have g11 : a.tmps.getD 15 undef = .string ((((⟨#[114, 101, 102, 117, 115, 101, 100, 32]⟩ ++ D0) ++ ⟨#[32, 106, 111, 98, 115, 32]⟩) ++ D1) ++ ⟨#[32, 100, 111, 110, 101, 32]⟩) := by rw [Array.getD_eq_getD_getElem?, q11, e11]; rfl
        rw [e11] at q11
        clear e11
        obtain ⟨_, q15, e15⟩ := hdep ⟨15, .data⟩ (by simp) rfl _ _ rfl rfl
        have g15 : a.tmps.getD 19 undef = .string D2 := by rw [Array.getD_eq_getD_getElem?, q15, e15]; rfl
        rw [e15] at q15
        clear e15
        clear hfr hdep hsz
        generalize hK : (fun (a' : Act) (w' : World) => _) = K
        go_simp
        rw [if_neg (by omega)]
        go_simp
        rw [← hK]
        exact ⟨_, rfl, rfl, Below.refl _ _, hG⟩
      · cases ho
        obtain ⟨_, q16, e16⟩ := hdep ⟨16, .data⟩ (by simp) rfl _ _ rfl rfl
        have g16 : a.tmps.getD 20 undef = .string (((((⟨#[114, 101, 102, 117, 115, 101, 100, 32]⟩ ++ D0) ++ ⟨#[32, 106, 111, 98, 115, 32]⟩) ++ D1) ++ ⟨#[32, 100, 111, 110, 101, 32]⟩) ++ D2) := by rw [Array.getD_eq_getD_getElem?, q16, e16]; rfl
        rw [e16] at q16
        clear e16
        clear hfr hdep hsz
        generalize hK : (fun (a' : Act) (w' : World) => _) = K
        go_simp
        rw [if_neg (by omega)]
        go_simp
        rw [← hK]
        exact ⟨_, rfl, rfl, Below.refl _ _, hG⟩
      · cases ho
        have g : a.tmps.getD 1 undef = .pointer (some ⟨w.heap.size, 0, none⟩) := by rw [Array.getD_eq_getD_getElem?, hfr 1 (no_dst (by kernel_rfl))]; rfl
        clear hfr hdep hsz
        generalize hK : (fun (a' : Act) (w' : World) => _) = K
        go_simp
        rw [← hK]
        exact ⟨_, rfl, rfl, Below.refl _ _, hG⟩
      · cases ho
        obtain ⟨_, q18, e18⟩ := hdep ⟨18, .data⟩ (by simp) rfl _ _ rfl rfl
        have g18 : a.tmps.getD 22 undef = .pointer (some ⟨w.heap.size, 3, none⟩) := by rw [Array.getD_eq_getD_getElem?, q18, e18]; rfl
        rw [e18] at q18
        clear e18
        have hc := cell_of_row W w.heap.size 3 _ _ _ hG.2
        clear hfr hdep hsz
        generalize hK : (fun (a' : Act) (w' : World) => _) = K
        go_simp
        rw [← hK]
        exact ⟨_, rfl, rfl, Below.refl _ _, hG⟩
      · cases ho
        obtain ⟨_, q19, e19⟩ := hdep ⟨19, .data⟩ (by simp) rfl _ _ rfl rfl
        have g19 : a.tmps.getD 23 undef = .int .i64 x3 := by rw [Array.getD_eq_getD_getElem?, q19, e19]; rfl
        rw [e19] at q19
        clear e19
        clear hfr hdep hsz
        generalize hK : (fun (a' : Act) (w' : World) => _) = K
        go_simp
        rw [← hK]
        exact ⟨_, rfl, ⟨_, rfl, (Boxed.new W 2 _).cell⟩, (Below.refl _ W).alloc (Nat.le_refl _) _, hG.1.alloc hG.1.size _, (Below.heap_alloc W _ w.heap.size (lt_of_block hG.2)).trans hG.2⟩
      · cases ho
        obtain ⟨_, q20, bk, rfl, hbk⟩ := hdep ⟨20, .data⟩ (by simp) rfl _ _ rfl rfl
        have g20 : a.tmps.getD 24 undef = .slice (some ⟨bk, 0, none⟩) 1 1 := by rw [Array.getD_eq_getD_getElem?, q20]; rfl
        clear hfr hdep hsz
        generalize hK : (fun (a' : Act) (w' : World) => _) = K
        go_simp
        refine (C3.out W bk hG.1 hbk).mono ?_
        rintro e W2 ⟨rfl, hb⟩
        show K _ _
        rw [← hK]
        exact ⟨_, rfl, rfl, hb, hG.1.trans (hb.mono hG.1.size), (hb.block w.heap.size (lt_of_block hG.2)).trans hG.2⟩
      · cases ho
        obtain ⟨_, q17, e17⟩ := hdep ⟨17, .data⟩ (by simp) rfl _ _ rfl rfl
        have g17 : a.tmps.getD 21 undef = .string ((((((⟨#[114, 101, 102, 117, 115, 101, 100, 32]⟩ ++ D0) ++ ⟨#[32, 106, 111, 98, 115, 32]⟩) ++ D1) ++ ⟨#[32, 100, 111, 110, 101, 32]⟩) ++ D2) ++ ⟨#[32, 108, 97, 116, 101, 32]⟩) := by rw [Array.getD_eq_getD_getElem?, q17, e17]; rfl
        rw [e17] at q17
        clear e17
        obtain ⟨_, q21, e21⟩ := hdep ⟨21, .data⟩ (by simp) rfl _ _ rfl rfl
        have g21 : a.tmps.getD 25 undef = .string D3 := by rw [Array.getD_eq_getD_getElem?, q21, e21]; rfl
        rw [e21] at q21
        clear e21
        clear hfr hdep hsz
        generalize hK : (fun (a' : Act) (w' : World) => _) = K
        go_simp
        rw [if_neg (by omega)]
        go_simp
        rw [← hK]
        exact ⟨_, rfl, rfl, Below.refl _ _, hG⟩
      · cases ho
        obtain ⟨_, q22, e22⟩ := hdep ⟨22, .data⟩ (by simp) rfl _ _ rfl rfl
        have g22 : a.tmps.getD 26 undef = .string (((((((⟨#[114, 101, 102, 117, 115, 101, 100, 32]⟩ ++ D0) ++ ⟨#[32, 106, 111, 98, 115, 32]⟩) ++ D1) ++ ⟨#[32, 100, 111, 110, 101, 32]⟩) ++ D2) ++ ⟨#[32, 108, 97, 116, 101, 32]⟩) ++ D3) := by rw [Array.getD_eq_getD_getElem?, q22, e22]; rfl
        rw [e22] at q22
        clear e22
        clear hfr hdep hsz
        generalize hK : (fun (a' : Act) (w' : World) => _) = K
        go_simp
        rw [if_neg (by omega)]
        go_simp
        rw [← hK]
        exact ⟨_, rfl, rfl, Below.refl _ _, hG⟩
      · cases ho
        have g : a.tmps.getD 1 undef = .pointer (some ⟨w.heap.size, 0, none⟩) := by rw [Array.getD_eq_getD_getElem?, hfr 1 (no_dst (by kernel_rfl))]; rfl
        clear hfr hdep hsz
        generalize hK : (fun (a' : Act) (w' : World) => _) = K
        go_simp
        rw [← hK]
        exact ⟨_, rfl, rfl, Below.refl _ _, hG⟩
      · cases ho
        obtain ⟨_, q24, e24⟩ := hdep ⟨24, .data⟩ (by simp) rfl _ _ rfl rfl
        have g24 : a.tmps.getD 28 undef = .pointer (some ⟨w.heap.size, 4, none⟩) := by rw [Array.getD_eq_getD_getElem?, q24, e24]; rfl
        rw [e24] at q24
        clear e24
        have hc := cell_of_row W w.heap.size 4 _ _ _ hG.2
        clear hfr hdep hsz
        generalize hK : (fun (a' : Act) (w' : World) => _) = K
        go_simp
        rw [← hK]
        exact ⟨_, rfl, rfl, Below.refl _ _, hG⟩
      · cases ho
        obtain ⟨_, q25, e25⟩ := hdep ⟨25, .data⟩ (by simp) rfl _ _ rfl rfl
        have g25 : a.tmps.getD 29 undef = .int .i64 x4 := by rw [Array.getD_eq_getD_getElem?, q25, e25]; rfl
        rw [e25] at q25
        clear e25
        clear hfr hdep hsz
        generalize hK : (fun (a' : Act) (w' : World) => _) = K
        go_simp
        rw [← hK]
        exact ⟨_, rfl, ⟨_, rfl, (Boxed.new W 2 _).cell⟩, (Below.refl _ W).alloc (Nat.le_refl _) _, hG.1.alloc hG.1.size _, (Below.heap_alloc W _ w.heap.size (lt_of_block hG.2)).trans hG.2⟩
      · cases ho
        obtain ⟨_, q26, bk, rfl, hbk⟩ := hdep ⟨26, .data⟩ (by simp) rfl _ _ rfl rfl
        have g26 : a.tmps.getD 30 undef = .slice (some ⟨bk, 0, none⟩) 1 1 := by rw [Array.getD_eq_getD_getElem?, q26]; rfl
        clear hfr hdep hsz
        generalize hK : (fun (a' : Act) (w' : World) => _) = K
        go_simp
        refine (C4.out W bk hG.1 hbk).mono ?_
        rintro e W2 ⟨rfl, hb⟩
        show K _ _
        rw [← hK]
        exact ⟨_, rfl, rfl, hb, hG.1.trans (hb.mono hG.1.size), (hb.block w.heap.size (lt_of_block hG.2)).trans hG.2⟩
      · cases ho
        obtain ⟨_, q23, e23⟩ := hdep ⟨23, .data⟩ (by simp) rfl _ _ rfl rfl
        have g23 : a.tmps.getD 27 undef = .string ((((((((⟨#[114, 101, 102, 117, 115, 101, 100, 32]⟩ ++ D0) ++ ⟨#[32, 106, 111, 98, 115, 32]⟩) ++ D1) ++ ⟨#[32, 100, 111, 110, 101, 32]⟩) ++ D2) ++ ⟨#[32, 108, 97, 116, 101, 32]⟩) ++ D3) ++ ⟨#[32, 114, 101, 115, 112, 111, 110, 115, 101, 32]⟩) := by rw [Array.getD_eq_getD_getElem?, q23, e23]; rfl
        rw [e23] at q23
        clear e23
        obtain ⟨_, q27, e27⟩ := hdep ⟨27, .data⟩ (by simp) rfl _ _ rfl rfl
        have g27 : a.tmps.getD 31 undef = .string D4 := by rw [Array.getD_eq_getD_getElem?, q27, e27]; rfl
        rw [e27] at q27
        clear e27
        clear hfr hdep hsz
        generalize hK : (fun (a' : Act) (w' : World) => _) = K
        go_simp
        rw [if_neg (by omega)]
        go_simp
        rw [← hK]
        exact ⟨_, rfl, rfl, Below.refl _ _, hG⟩
      · cases ho
        obtain ⟨_, q28, e28⟩ := hdep ⟨28, .data⟩ (by simp) rfl _ _ rfl rfl
        have g28 : a.tmps.getD 32 undef = .string (((((((((⟨#[114, 101, 102, 117, 115, 101, 100, 32]⟩ ++ D0) ++ ⟨#[32, 106, 111, 98, 115, 32]⟩) ++ D1) ++ ⟨#[32, 100, 111, 110, 101, 32]⟩) ++ D2) ++ ⟨#[32, 108, 97, 116, 101, 32]⟩) ++ D3) ++ ⟨#[32, 114, 101, 115, 112, 111, 110, 115, 101, 32]⟩) ++ D4) := by rw [Array.getD_eq_getD_getElem?, q28, e28]; rfl
        rw [e28] at q28
        clear e28
        clear hfr hdep hsz
        generalize hK : (fun (a' : Act) (w' : World) => _) = K
        go_simp
        rw [if_neg (by omega)]
        go_simp
        rw [← hK]
        exact ⟨_, rfl, rfl, Below.refl _ _, hG⟩
      · cases ho
        have g : a.tmps.getD 1 undef = .pointer (some ⟨w.heap.size, 0, none⟩) := by rw [Array.getD_eq_getD_getElem?, hfr 1 (no_dst (by kernel_rfl))]; rfl
        clear hfr hdep hsz
        generalize hK : (fun (a' : Act) (w' : World) => _) = K
        go_simp
        rw [← hK]
        exact ⟨_, rfl, rfl, Below.refl _ _, hG⟩
      · cases ho
        obtain ⟨_, q30, e30⟩ := hdep ⟨30, .data⟩ (by simp) rfl _ _ rfl rfl
        have g30 : a.tmps.getD 34 undef = .pointer (some ⟨w.heap.size, 5, none⟩) := by rw [Array.getD_eq_getD_getElem?, q30, e30]; rfl
        rw [e30] at q30
        clear e30
        have hc := cell_of_row W w.heap.size 5 _ _ _ hG.2
        clear hfr hdep hsz
        generalize hK : (fun (a' : Act) (w' : World) => _) = K
        go_simp
        rw [← hK]
        exact ⟨_, rfl, rfl, Below.refl _ _, hG⟩
      · cases ho
        obtain ⟨_, q31, e31⟩ := hdep ⟨31, .data⟩ (by simp) rfl _ _ rfl rfl
        have g31 : a.tmps.getD 35 undef = .int .i64 x5 := by rw [Array.getD_eq_getD_getElem?, q31, e31]; rfl
        rw [e31] at q31
        clear e31
        clear hfr hdep hsz
        generalize hK : (fun (a' : Act) (w' : World) => _) = K
        go_simp
        rw [← hK]
        exact ⟨_, rfl, ⟨_, rfl, (Boxed.new W 2 _).cell⟩, (Below.refl _ W).alloc (Nat.le_refl _) _, hG.1.alloc hG.1.size _, (Below.heap_alloc W _ w.heap.size (lt_of_block hG.2)).trans hG.2⟩
      · cases ho
        obtain ⟨_, q32, bk, rfl, hbk⟩ := hdep ⟨32, .data⟩ (by simp) rfl _ _ rfl rfl
        have g32 : a.tmps.getD 36 undef = .slice (some ⟨bk, 0, none⟩) 1 1 := by rw [Array.getD_eq_getD_getElem?, q32]; rfl
        clear hfr hdep hsz
        generalize hK : (fun (a' : Act) (w' : World) => _) = K
        go_simp
        refine (C5.out W bk hG.1 hbk).mono ?_
        rintro e W2 ⟨rfl, hb⟩
        show K _ _
        rw [← hK]
        exact ⟨_, rfl, rfl, hb, hG.1.trans (hb.mono hG.1.size), (hb.block w.heap.size (lt_of_block hG.2)).trans hG.2⟩
      · cases ho
        obtain ⟨_, q29, e29⟩ := hdep ⟨29, .data⟩ (by simp) rfl _ _ rfl rfl
        have g29 : a.tmps.getD 33 undef = .string ((((((((((⟨#[114, 101, 102, 117, 115, 101, 100, 32]⟩ ++ D0) ++ ⟨#[32, 106, 111, 98, 115, 32]⟩) ++ D1) ++ ⟨#[32, 100, 111, 110, 101, 32]⟩) ++ D2) ++ ⟨#[32, 108, 97, 116, 101, 32]⟩) ++ D3) ++ ⟨#[32, 114, 101, 115, 112, 111, 110, 115, 101, 32]⟩) ++ D4) ++ ⟨#[32, 114, 101, 108, 111, 97, 100, 115, 32]⟩) := by rw [Array.getD_eq_getD_getElem?, q29, e29]; rfl
        rw [e29] at q29
        clear e29
        obtain ⟨_, q33, e33⟩ := hdep ⟨33, .data⟩ (by simp) rfl _ _ rfl rfl
        have g33 : a.tmps.getD 37 undef = .string D5 := by rw [Array.getD_eq_getD_getElem?, q33, e33]; rfl
        rw [e33] at q33
        clear e33
        clear hfr hdep hsz
        generalize hK : (fun (a' : Act) (w' : World) => _) = K
        go_simp
        rw [if_neg (by omega)]
        go_simp
        rw [← hK]
        exact ⟨_, rfl, rfl, Below.refl _ _, hG⟩
      · cases ho
        obtain ⟨_, q34, e34⟩ := hdep ⟨34, .data⟩ (by simp) rfl _ _ rfl rfl
        have g34 : a.tmps.getD 38 undef = .string (((((((((((⟨#[114, 101, 102, 117, 115, 101, 100, 32]⟩ ++ D0) ++ ⟨#[32, 106, 111, 98, 115, 32]⟩) ++ D1) ++ ⟨#[32, 100, 111, 110, 101, 32]⟩) ++ D2) ++ ⟨#[32, 108, 97, 116, 101, 32]⟩) ++ D3) ++ ⟨#[32, 114, 101, 115, 112, 111, 110, 115, 101, 32]⟩) ++ D4) ++ ⟨#[32, 114, 101, 108, 111, 97, 100, 115, 32]⟩) ++ D5) := by rw [Array.getD_eq_getD_getElem?, q34, e34]; rfl
        rw [e34] at q34
        clear e34
        clear hfr hdep hsz
        generalize hK : (fun (a' : Act) (w' : World) => _) = K
        go_simp
        rw [if_neg (by omega)]
        go_simp
        rw [← hK]
        exact ⟨_, rfl, rfl, Below.refl _ _, hG⟩
      · cases ho
        have g : a.tmps.getD 1 undef = .pointer (some ⟨w.heap.size, 0, none⟩) := by rw [Array.getD_eq_getD_getElem?, hfr 1 (no_dst (by kernel_rfl))]; rfl
        clear hfr hdep hsz
        generalize hK : (fun (a' : Act) (w' : World) => _) = K
        go_simp
        rw [← hK]
        exact ⟨_, rfl, rfl, Below.refl _ _, hG⟩
      · cases ho
        obtain ⟨_, q36, e36⟩ := hdep ⟨36, .data⟩ (by simp) rfl _ _ rfl rfl
        have g36 : a.tmps.getD 40 undef = .pointer (some ⟨w.heap.size, 6, none⟩) := by rw [Array.getD_eq_getD_getElem?, q36, e36]; rfl
        rw [e36] at q36
        clear e36
        have hc := cell_of_row W w.heap.size 6 _ _ _ hG.2
        clear hfr hdep hsz
        generalize hK : (fun (a' : Act) (w' : World) => _) = K
        go_simp
        rw [← hK]
        exact ⟨_, rfl, rfl, Below.refl _ _, hG⟩
      · cases ho
        obtain ⟨_, q37, e37⟩ := hdep ⟨37, .data⟩ (by simp) rfl _ _ rfl rfl
        have g37 : a.tmps.getD 41 undef = .int .i64 x6 := by rw [Array.getD_eq_getD_getElem?, q37, e37]; rfl
        rw [e37] at q37
        clear e37
        clear hfr hdep hsz
        generalize hK : (fun (a' : Act) (w' : World) => _) = K
        go_simp
        rw [← hK]
        exact ⟨_, rfl, ⟨_, rfl, (Boxed.new W 2 _).cell⟩, (Below.refl _ W).alloc (Nat.le_refl _) _, hG.1.alloc hG.1.size _, (Below.heap_alloc W _ w.heap.size (lt_of_block hG.2)).trans hG.2⟩
      · cases ho
        obtain ⟨_, q38, bk, rfl, hbk⟩ := hdep ⟨38, .data⟩ (by simp) rfl _ _ rfl rfl
        have g38 : a.tmps.getD 42 undef = .slice (some ⟨bk, 0, none⟩) 1 1 := by rw [Array.getD_eq_getD_getElem?, q38]; rfl
        clear hfr hdep hsz
        generalize hK : (fun (a' : Act) (w' : World) => _) = K
        go_simp
        refine (C6.out W bk hG.1 hbk).mono ?_
        rintro e W2 ⟨rfl, hb⟩
        show K _ _
        rw [← hK]
        exact ⟨_, rfl, rfl, hb, hG.1.trans (hb.mono hG.1.size), (hb.block w.heap.size (lt_of_block hG.2)).trans hG.2⟩
      · cases ho
        obtain ⟨_, q35, e35⟩ := hdep ⟨35, .data⟩ (by simp) rfl _ _ rfl rfl
        have g35 : a.tmps.getD 39 undef = .string ((((((((((((⟨#[114, 101, 102, 117, 115, 101, 100, 32]⟩ ++ D0) ++ ⟨#[32, 106, 111, 98, 115, 32]⟩) ++ D1) ++ ⟨#[32, 100, 111, 110, 101, 32]⟩) ++ D2) ++ ⟨#[32, 108, 97, 116, 101, 32]⟩) ++ D3) ++ ⟨#[32, 114, 101, 115, 112, 111, 110, 115, 101, 32]⟩) ++ D4) ++ ⟨#[32, 114, 101, 108, 111, 97, 100, 115, 32]⟩) ++ D5) ++ ⟨#[32, 116, 105, 109, 101, 115, 32]⟩) := by rw [Array.getD_eq_getD_getElem?, q35, e35]; rfl
        rw [e35] at q35
        clear e35
        obtain ⟨_, q39, e39⟩ := hdep ⟨39, .data⟩ (by simp) rfl _ _ rfl rfl
        have g39 : a.tmps.getD 43 undef = .string D6 := by rw [Array.getD_eq_getD_getElem?, q39, e39]; rfl
        rw [e39] at q39
        clear e39
        clear hfr hdep hsz
        generalize hK : (fun (a' : Act) (w' : World) => _) = K
        go_simp
        rw [if_neg (by omega)]
        go_simp
        rw [← hK]
        exact ⟨_, rfl, rfl, Below.refl _ _, hG⟩
      · cases ho
        obtain ⟨_, q40, e40⟩ := hdep ⟨40, .data⟩ (by simp) rfl _ _ rfl rfl
        have g40 : a.tmps.getD 44 undef = .string (((((((((((((⟨#[114, 101, 102, 117, 115, 101, 100, 32]⟩ ++ D0) ++ ⟨#[32, 106, 111, 98, 115, 32]⟩) ++ D1) ++ ⟨#[32, 100, 111, 110, 101, 32]⟩) ++ D2) ++ ⟨#[32, 108, 97, 116, 101, 32]⟩) ++ D3) ++ ⟨#[32, 114, 101, 115, 112, 111, 110, 115, 101, 32]⟩) ++ D4) ++ ⟨#[32, 114, 101, 108, 111, 97, 100, 115, 32]⟩) ++ D5) ++ ⟨#[32, 116, 105, 109, 101, 115, 32]⟩) ++ D6) := by rw [Array.getD_eq_getD_getElem?, q40, e40]; rfl
        rw [e40] at q40
        clear e40
        clear hfr hdep hsz
        generalize hK : (fun (a' : Act) (w' : World) => _) = K
        go_simp
        rw [← hK]
        exact ⟨_, rfl, rfl, Below.refl _ _, hG⟩
    · intro a W hd hsz hfr hall hG
      obtain ⟨_, q3, e3⟩ := hall 41 _ 3 rfl rfl
      have f0 := hfr 0 (no_dst (by kernel_rfl))
      have f1 := hfr 1 (no_dst (by kernel_rfl))
      have f2 := hfr 2 (no_dst (by kernel_rfl))
      have f45 := hfr 45 (no_dst (by kernel_rfl))
      have f46 := hfr 46 (no_dst (by kernel_rfl))
      have f47 := hfr 47 (no_dst (by kernel_rfl))
      have f48 := hfr 48 (no_dst (by kernel_rfl))
      have f49 := hfr 49 (no_dst (by kernel_rfl))
      clear hfr hall
      have ha : a = { tmps := a.tmps, defers := [] } := by cases a; simp at hd; subst hd; rfl
      rw [ha, arr_lit50 a.tmps hsz]
      rw [show a.tmps.getD 0 undef = .agg #[.int .i64 x0, .int .i64 x1, .int .i64 x2, .int .i64 x3, .int .i64 x4, .int .i64 x5, .int .i64 x6, .bool br] from by rw [Array.getD_eq_getD_getElem?, f0]; rfl]
      rw [show a.tmps.getD 1 undef = .pointer (some ⟨w.heap.size, 0, none⟩) from by rw [Array.getD_eq_getD_getElem?, f1]; rfl]
      rw [show a.tmps.getD 2 undef = .string ⟨#[]⟩ from by rw [Array.getD_eq_getD_getElem?, f2]; rfl]
      rw [show a.tmps.getD 45 undef = undef from by rw [Array.getD_eq_getD_getElem?, f45]; rfl]
      rw [show a.tmps.getD 46 undef = undef from by rw [Array.getD_eq_getD_getElem?, f46]; rfl]
      rw [show a.tmps.getD 47 undef = undef from by rw [Array.getD_eq_getD_getElem?, f47]; rfl]
      rw [show a.tmps.getD 48 undef = undef from by rw [Array.getD_eq_getD_getElem?, f48]; rfl]
      rw [show a.tmps.getD 49 undef = undef from by rw [Array.getD_eq_getD_getElem?, f49]; rfl]
      rw [show a.tmps.getD 3 undef = .string (((((((((((((⟨#[114, 101, 102, 117, 115, 101, 100, 32]⟩ ++ D0) ++ ⟨#[32, 106, 111, 98, 115, 32]⟩) ++ D1) ++ ⟨#[32, 100, 111, 110, 101, 32]⟩) ++ D2) ++ ⟨#[32, 108, 97, 116, 101, 32]⟩) ++ D3) ++ ⟨#[32, 114, 101, 115, 112, 111, 110, 115, 101, 32]⟩) ++ D4) ++ ⟨#[32, 114, 101, 108, 111, 97, 100, 115, 32]⟩) ++ D5) ++ ⟨#[32, 116, 105, 109, 101, 115, 32]⟩) ++ D6) from by rw [Array.getD_eq_getD_getElem?, q3, e3]; rfl]
      clear ha hd hsz q3 e3 f0 f1 f2 f45 f46 f47 f48 f49
      go_wp2
      go_meet
      exact ⟨rfl, hG.1, cell_of_row W w.heap.size 7 _ _ _ hG.2⟩
  case rest =>
    obtain ⟨rfl, hb1, hc7⟩ := hcut
    cases br with
    | true =>
      go_wp2
      go_ret
      exact ⟨rfl, hb1⟩
    | false =>
      go_wp2
      go_ret
      exact ⟨rfl, hb1⟩

end Go.Proofs.YtnejkfccdnadcaaDoor
