/- The leaves of arith: CeilDiv, Mul, Add, at unsigned words. -/
import Derived.Test.YtcmldhanidkdjaaWords
import Derived.Test.YtcmldhanidkdjaaShelf
namespace Go.Proofs.Ytcmldhanidkdjaa
open Go.RowKit Go.Shelf

/-- What CeilDiv tells, over numbers that are not below 0. -/
def cdiv (a b : Int) : Int := if a % b = 0 then a / b else a / b + 1

set_option maxHeartbeats 400000 in
theorem ceilDiv_any (a b : Int) (w : World) (ha : 0 ≤ a) (ha' : a ≤ 9223372036854775807) (hb : 1 ≤ b) (hb' : b ≤ 9223372036854775807) :
    Calls Try.prog 15 #[.int .u64 a, .int .u64 b] w fun e w' => e = .returned (.tuple #[.int .u64 (cdiv a b), .bool true]) ∧ w = w' := by
  have hq : a / b ≤ a := Int.ediv_le_self _ ha
  have hq0 : 0 ≤ a / b := Int.ediv_nonneg ha (by omega)
  by_cases hm : a % b = 0
  · go_enter Try.func15, Try.ntmps15
    go_wp2
    go_ret2
    exact ⟨by simp [cdiv, hm], rfl⟩
  · go_enter Try.func15, Try.ntmps15
    go_wp2
    go_ret2
    exact ⟨by simp [cdiv, hm], rfl⟩

set_option maxHeartbeats 400000 in
theorem mul_any (a b : Int) (w : World) (ha : 0 ≤ a) (hb : 0 ≤ b) (ha' : a ≤ 9223372036854775807) (hb' : b ≤ 9223372036854775807) (hab : a * b ≤ 9223372036854775807) :
    Calls Try.prog 16 #[.int .u64 a, .int .u64 b] w fun e w' => e = .returned (.tuple #[.int .u64 (a * b), .bool true]) ∧ w = w' := by
  obtain ⟨m, rfl⟩ := Int.eq_ofNat_of_zero_le ha
  obtain ⟨n, rfl⟩ := Int.eq_ofNat_of_zero_le hb
  have hmn : m * n ≤ 9223372036854775807 := by have h := hab; rw [← Int.natCast_mul] at h; omega
  have h1 : (((m * n / 18446744073709551616 : Nat) : Int)) = 0 := by omega
  have h2 : (((m * n % 18446744073709551616 : Nat) : Int)) = (m : Int) * n := by rw [Nat.mod_eq_of_lt (by omega), Int.natCast_mul]
  have h := Try.bits_Mul64 m n (by omega) (by omega) w
  rw [h1, h2] at h
  have H := Lib.hid h
  clear h h1 h2
  go_enter Try.func16, Try.ntmps16
  go_wp2_with (go_at_call 20; refine H.out.mono ?_; rintro e w' ⟨rfl, rfl⟩)
  go_ret2
  exact ⟨rfl, rfl⟩

theorem add64_0 (x y : Int) (hx : 0 ≤ x) (hy : 0 ≤ y) (w : World) : (callFunc 21 #[.int .u64 x, .int .u64 y, .int .u64 0]).run Try.prog w =
    .ok (.value (.tuple #[.int .u64 ((x + y) % 18446744073709551616), .int .u64 ((x + y) / 18446744073709551616)])) w := by
  obtain ⟨x, rfl⟩ := Int.eq_ofNat_of_zero_le hx
  obtain ⟨y, rfl⟩ := Int.eq_ofNat_of_zero_le hy
  refine (Any7.bits_Add64 Try.lays25 x y 0 (by omega) w).trans ?_
  congr 5 <;> omega

theorem add64_in (x y : Int) (hx : 0 ≤ x) (hy : 0 ≤ y) (hxy : x + y ≤ 9223372036854775807) (w : World) : (callFunc 21 #[.int .u64 x, .int .u64 y, .int .u64 0]).run Try.prog w =
    .ok (.value (.tuple #[.int .u64 (x + y), .int .u64 0])) w := by
  rw [add64_0 x y hx hy, Int.emod_eq_of_lt (by omega) (by omega), Int.ediv_eq_zero_of_lt (by omega) (by omega)]

set_option maxHeartbeats 400000 in
theorem add_any (a b : Int) (w : World) (ha : 0 ≤ a) (hb : 0 ≤ b) (hab : a + b ≤ 9223372036854775807) :
    Calls Try.prog 17 #[.int .u64 a, .int .u64 b] w fun e w' => e = .returned (.tuple #[.int .u64 (a + b), .bool true]) ∧ w = w' := by
  go_enter Try.func17, Try.ntmps17
  go_wp2_with (simp only [add64_in a b ha hb hab])
  go_ret2
  exact ⟨rfl, rfl⟩

end Go.Proofs.Ytcmldhanidkdjaa
