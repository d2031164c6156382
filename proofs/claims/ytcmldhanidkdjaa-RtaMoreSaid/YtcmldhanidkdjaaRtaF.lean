/- The law's own awake. -/
import Derived.Test.YtcmldhanidkdjaaRtaE
namespace Go.Proofs.Ytcmldhanidkdjaa
open Go.RowKit Go.Shelf

theorem BusyIs.same {L : List De} {held most n n' : Int} {ok ok' : Bool} (h : BusyIs L held most n ok) (h' : BusyIs L held most n' ok') : n = n' ∧ ok = ok' := by
  rcases h with ⟨rfl, a1, a2, a3, a4⟩ | ⟨rfl, rfl, a4⟩ <;> rcases h' with ⟨rfl, b1, b2, b3, b4⟩ | ⟨rfl, rfl, b4⟩
  · refine ⟨?_, rfl⟩
    rcases Int.lt_trichotomy n n' with hlt | heq | hgt
    · have := b4 n a1 hlt; omega
    · exact heq
    · have := a4 n' b1 hgt; omega
  · have := b4 n a1 (by omega); omega
  · have := a4 n' b1 (by omega); omega
  · exact ⟨rfl, rfl⟩

theorem wsum_small {L : List De} {X : Int} (hX : 0 ≤ X) (h : AllSmall L) : wsum X L ≤ L.length * (24 * X) := by
  induction L with
  | nil => simp [wsum]
  | cons x r ih =>
    have h1 := ih fun y hy => h y (List.mem_cons_of_mem _ hy)
    obtain ⟨v0, v1, v2, v3, v4, v5⟩ := h x (List.mem_cons_self ..)
    have q0 : 0 ≤ cdiv X x.t := cdiv_nonneg hX (by omega)
    have q1 : cdiv X x.t ≤ X := cdiv_le hX (by omega)
    have h2 : x.c * cdiv X x.t ≤ 24 * X := Int.le_trans (Int.mul_le_mul_of_nonneg_right (by omega : x.c ≤ 24) q0) (Int.mul_le_mul_of_nonneg_left q1 (by decide))
    have e : ((r.length + 1 : Nat) : Int) * (24 * X) = r.length * (24 * X) + 24 * X := by rw [Int.natCast_add, Int.add_mul]; omega
    simp only [wsum, List.length_cons]
    rw [e]; omega

theorem wsum_few {L : List De} {X : Int} (hX : 0 ≤ X) (h : AllSmall L) (hn : L.length ≤ 12) : wsum X L ≤ 288 * X := by
  have h1 := wsum_small hX h
  have h2 : (L.length : Int) * (24 * X) ≤ 12 * (24 * X) := Int.mul_le_mul_of_nonneg_right (by omega) (by omega)
  omega

theorem AllSmall.oks {L : List De} (h : AllSmall L) : ∀ x ∈ L, x.Ok := fun x hx => (h x hx).ok

def exL : List De := [⟨1, 4, 4⟩, ⟨2, 6, 6⟩]

theorem exL_small : AllSmall exL := by
  intro x hx
  simp [exL] at hx
  rcases hx with rfl | rfl <;> exact ⟨by decide, by decide, by decide, by decide, by decide, by decide⟩

theorem ex_one : BusyIs exL 0 9 3 true :=
  .inl ⟨rfl, by decide, by decide, by decide, fun y h1 h2 => by
    have : y = 1 ∨ y = 2 := by omega
    rcases this with rfl | rfl <;> decide⟩

theorem ex_two : BusyIs exL 2 9 6 true :=
  .inl ⟨rfl, by decide, by decide, by decide, fun y h1 h2 => by
    have : y = 1 ∨ y = 2 ∨ y = 3 ∨ y = 4 ∨ y = 5 := by omega
    rcases this with rfl | rfl | rfl | rfl | rfl <;> decide⟩

set_option maxHeartbeats 400000 in
theorem awake_any (w : World) : Calls Try.prog 7 #[] w fun e w' => e = .returned (.bool true) ∧ Below w.heap.size w w' := by
  have hr : DRow (w.alloc (.cells #[.int .i64 1, .int .i64 4, .int .i64 4, .int .i64 2, .int .i64 6, .int .i64 6] 29)) (w.heap.size + 1) (some ⟨w.heap.size, 0, none⟩) exL := by
    intro _
    refine ⟨w.heap.size, 0, rfl, by omega, fun i hi => ?_⟩
    match i, hi with
    | 0, _ => exact ⟨by rw [World.cell?_alloc_new]; rfl, by rw [World.cell?_alloc_new]; rfl, by rw [World.cell?_alloc_new]; rfl⟩
    | 1, _ => exact ⟨by rw [World.cell?_alloc_new]; rfl, by rw [World.cell?_alloc_new]; rfl, by rw [World.cell?_alloc_new]; rfl⟩
  have hb : Hid (∀ held W, 0 ≤ held → held ≤ 5 → Below (w.heap.size + 1) (w.alloc (.cells #[.int .i64 1, .int .i64 4, .int .i64 4, .int .i64 2, .int .i64 6, .int .i64 6] 29)) W →
      Calls Try.prog 9 #[.slice (some ⟨w.heap.size, 0, none⟩) 2 2, .int .i64 held, .int .i64 9] W (BusyPost exL held 9 W)) :=
    Lib.hid fun held W h1 h2 h => busy_any _ 2 exL held 9 W exL_small.oks (by decide) ((hr.below h (Nat.le_refl _)).more (by have := h.size; simpa using this)) h1 (by omega) (by decide) (by decide) (by decide)
  clear hr
  go_enter Try.func7, Try.ntmps7
  go_wp2_with fail
  refine (hb.out 0 _ (by decide) (by decide) (Below.refl _ _)).mono ?_
  rintro e w1 ⟨n, ok, rfl, h1, hb1⟩
  obtain ⟨rfl, rfl⟩ := h1.same ex_one
  have hb1' := hb1.mono (B' := w.heap.size + 1) (by simp)
  go_wp2_with fail
  refine (hb.out 2 _ (by decide) (by decide) hb1').mono ?_
  rintro e w2 ⟨n, ok, rfl, h2, hb2⟩
  obtain ⟨rfl, rfl⟩ := h2.same ex_two
  go_wp2
  go_ret
  exact ⟨rfl, (((Below.refl _ _).alloc (Nat.le_refl _) _).trans (hb1'.mono (by omega))).trans (hb2.mono (by have := hb1'.size; simp at this; omega))⟩

end Go.Proofs.Ytcmldhanidkdjaa
