/- The document's Digits. -/
import Derived.Test.YtnejkfccdnadcaaDoorLexCv
namespace Go.Proofs.YtnejkfccdnadcaaDoor
open Go.RowKit Go.Shelf Go.Lib

theorem dec_len (u : Nat) (h : u < 18446744073709551616) : (decDigits u).length ≤ 20 := by
  rw [decDigits_length]
  exact nDig_le 19 u (by omega)

set_option maxHeartbeats 2000000 in
set_option maxRecDepth 100000 in
theorem up_any : ∀ (u : Nat) (_ : u < 18446744073709551616) (w : World),
    Calls Tryd.prog 37 #[.int .u64 u] w fun e w' => e = .returned (.string ⟨(decDigits u).toArray⟩) ∧ Below w.heap.size w w' := by
  intro u
  induction u using Nat.strongRecOn with
  | ind u ih =>
    intro hu w
    by_cases h10 : u < 10
    · have hw1 : IntKind.u64.wrap (48 + (u : Int)) = ((48 + u : Nat) : Int) := by rw [IntKind.wrap_u64]; omega
      obtain ⟨y, hy⟩ : ∃ y, y = 48 + u := ⟨_, rfl⟩
      have hw2 : IntKind.u64.wrap (48 + (u : Int)) = (y : Int) := by rw [hw1, hy]
      have hw3 : IntKind.u8.wrap (y : Int) = (y : Int) := by rw [IntKind.wrap_u8]; omega
      have hcv := conv_y (W := w.alloc (.cells #[.int .u8 (y : Int)] 5)) (b := w.heap.size) (y := y) (by omega) (Boxed.new w 5 (.int .u8 (y : Int))).cell
      have hd : Lib.decDigits u = [UInt8.ofNat y] := by rw [decDigits_one h10, hy]
      have HD := Lib.hid hd
      clear hd hw1 hy
      go_enter Tryd.func37, Tryd.ntmps37
      go_wp2
      go_ret
      exact ⟨by rw [HD.out]; rfl, (Below.refl _ w).alloc (Nat.le_refl _) _⟩
    · have hih := Lib.hid (fun W => ih (u / 10) (by omega) (by omega) W)
      obtain ⟨v, hv⟩ : ∃ v, u / 10 = v := ⟨_, rfl⟩
      obtain ⟨d, hd⟩ : ∃ d, u % 10 = d := ⟨_, rfl⟩
      obtain ⟨y, hy⟩ : ∃ y, y = 48 + d := ⟨_, rfl⟩
      rw [hv] at hih
      have hq : IntKind.u64.wrap ((u : Int) / 10) = (v : Int) := by
        rw [IntKind.wrap_u64]
        omega
      have hm : ((u : Int)).tmod 10 = (d : Int) := by
        rw [Int.tmod_eq_emod_of_nonneg (by omega)]
        omega
      have hw2 : IntKind.u64.wrap (48 + (d : Int)) = (y : Int) := by rw [IntKind.wrap_u64]; omega
      have hw3 : IntKind.u8.wrap (y : Int) = (y : Int) := by rw [IntKind.wrap_u8]; omega
      have hy256 : y < 256 := by omega
      have HE : Hid (decDigits u = decDigits v ++ [UInt8.ofNat y]) := Lib.hid (by rw [decDigits, dif_neg h10, hv, hd, hy])
      have hlen := dec_len v (by omega)
      have hilen : (9223372036854775807 < (decDigits v).length + 1) = False := by rw [eq_iff_iff, iff_false]; omega
      have hcv0 : ∀ W : World, (convert 61 9 (.slice (some ⟨W.heap.size, 0, none⟩) 1 1)).run Tryd.prog (W.alloc (.cells #[.int .u8 (y : Int)] 5)) = .ok (.string ⟨#[UInt8.ofNat y]⟩) (W.alloc (.cells #[.int .u8 (y : Int)] 5)) := fun W => conv_y hy256 (Boxed.new W 5 _).cell
      have hcv1 : ∀ W : World, (convert 61 9 (.slice (some ⟨W.heap.size, 0, none⟩) 1 1)).run Tryd.prog (W.alloc (.cells #[.int .u8 (y : Int)] 5)).drew = .ok (.string ⟨#[UInt8.ofNat y]⟩) (W.alloc (.cells #[.int .u8 (y : Int)] 5)).drew := fun W => conv_y (W := (W.alloc (.cells #[.int .u8 (y : Int)] 5)).drew) hy256 (Boxed.new W 5 (.int .u8 (y : Int))).cell
      clear ih hv hd hy
      go_enter Tryd.func37, Tryd.ntmps37
      go_upto_region 3 with (fail)
      go_cut [2] from 20 (fun v2 wx => v2 = .string ⟨(decDigits u).toArray⟩ ∧ Below w.heap.size w wx)
      case first =>
        go_region_law (go_simp; go_at_call 37; refine (hih.out _).mono ?_; rintro e w6 ⟨rfl, hb6⟩; (first | (have hb6' := ch2 hb6) | (have hb6' := ch1 hb6)); (first | (have hcv6 := conv_y hy256 ((hb6.cell (p := ⟨w.heap.size, 0, none⟩) (by simp)).trans (Boxed.new w 5 (.int .u8 (y : Int))).cell)) | skip))
        all_goals go_wp2
        all_goals go_meet
        all_goals refine ⟨by rw [HE.out]; exact congrArg Value.string (by apply ByteArray.ext; apply Array.toList_inj.1; simp), ?_⟩
        · exact hb6'.alloc hb6'.size _
        all_goals exact hb6'
      case rest =>
        obtain ⟨rfl, hb8⟩ := hcut
        go_wp2
        go_ret
        exact ⟨rfl, hb8⟩

set_option maxHeartbeats 1000000 in
theorem refDigits_any (n : Int) (h0 : -9223372036854775808 ≤ n) (h1 : n ≤ 9223372036854775807) (w : World) :
    Calls Tryd.prog 26 #[.int .i64 n] w fun e w' => e = .returned (.string ⟨(Lib.itoa n).toArray⟩) ∧ Below w.heap.size w w' := by
  by_cases hn : n < 0
  · have hw1 : IntKind.u64.wrap n = n + 18446744073709551616 := by rw [IntKind.wrap_u64]; omega
    have hw2 : IntKind.u64.wrap (-(n + 18446744073709551616)) = (n.natAbs : Int) := by rw [IntKind.wrap_u64]; omega
    have HU := Lib.hid (fun W => up_any n.natAbs (by omega) W)
    have HE : Hid (itoa n = 45 :: decDigits n.natAbs) := Lib.hid (by unfold itoa; rw [if_pos hn])
    have hlen := dec_len n.natAbs (by omega)
    generalize n.natAbs = u at *
    go_enter Tryd.func26, Tryd.ntmps26
    go_wp2_with (go_at_call 37; refine (HU.out _).mono ?_; rintro e w1 ⟨rfl, hb1⟩)
    go_ret
    exact ⟨by rw [HE.out]; rfl, hb1⟩
  · have hw1 : IntKind.u64.wrap n = (n.toNat : Int) := by rw [IntKind.wrap_u64]; omega
    have HU := Lib.hid (fun W => up_any n.toNat (by omega) W)
    have HE : Hid (itoa n = decDigits n.toNat) := Lib.hid (by unfold itoa; rw [if_neg hn])
    generalize n.toNat = u at *
    go_enter Tryd.func26, Tryd.ntmps26
    go_wp2_with (go_at_call 37; refine (HU.out _).mono ?_; rintro e w1 ⟨rfl, hb1⟩)
    go_ret
    exact ⟨by rw [HE.out]; rfl, hb1⟩

end Go.Proofs.YtnejkfccdnadcaaDoor
