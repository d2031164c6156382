/- RtaMore: the walk. -/
import Derived.Test.YtcmldhanidkdjaaRtaPartsW
import Derived.Deep.RegionLaw
namespace Go.Proofs.Ytcmldhanidkdjaa
open Go.RowKit Go.Shelf

theorem three_cell {w w' : World} {b B : Nat} {x y z : Value} {t : TypeId} (h : w.heap[b]? = some (.cells #[x, y, z] t (0, 0))) (hb : Below B w w') (hB : b < B) :
    w'.cell? ⟨b, 0, none⟩ = some x ∧ w'.cell? ⟨b, 1, none⟩ = some y ∧ w'.cell? ⟨b, 2, none⟩ = some z := by
  refine ⟨?_, ?_, ?_⟩ <;> simp [World.cell?, hb.block b hB, h]

/-- With more held, or more work, a busy time is not shorter. -/
theorem BusyIs.later {L M : List De} {a b most x y : Int} {i : Bool} (hab : a ≤ b) (hsub : ∀ X, 1 ≤ X → wsum X L ≤ wsum X M) (h : BusyIs L a most x i) (h' : BusyIs M b most y true) : i = true ∧ x ≤ y := by
  rcases h' with ⟨_, a1, a2, a3, _⟩ | ⟨e, _⟩
  · have hs := hsub y a1
    rcases h with ⟨e, b1, b2, b3, hu⟩ | ⟨_, _, hu⟩
    · refine ⟨e, ?_⟩
      rcases Int.lt_or_le y x with h1 | h1
      · have := hu y a1 h1; omega
      · exact h1
    · have := hu y a1 (by omega); omega
  · cases e

/-- With more time it is the same. -/
theorem BusyIs.longer {L : List De} {a most most' x w : Int} {n : Bool} (hm : most ≤ most') (h : BusyIs L a most x true) (h' : BusyIs L a most' w n) : n = true ∧ w = x := by
  rcases h with ⟨_, a1, a2, a3, hu⟩ | ⟨e, _⟩
  · rcases h' with ⟨e, b1, b2, b3, hv⟩ | ⟨_, _, hv⟩
    · refine ⟨e, ?_⟩
      rcases Int.lt_trichotomy w x with h1 | h1 | h1
      · have := hu w b1 h1; omega
      · exact h1
      · have := hv x a1 h1; omega
    · have := hv x a1 (by omega); omega
  · cases e

/-- Whose work is never less. -/
def Sub (L N : List De) : Prop := ∀ X, 1 ≤ X → wsum X L ≤ wsum X N

theorem Has.new0 (w : World) (o : Obj) : Has (w.alloc o) w.heap.size o := Has.new w _ o rfl
theorem Has.new1 (w : World) (u o : Obj) : Has ((w.alloc u).alloc o) (w.heap.size + 1) o := Has.new _ _ o (by simp)
theorem hasY_of {W W' : World} {x y : Nat} {o : Obj} (hy : Has W y o) (hg : W.grownBy W' (Value.ownBlock (.slice (some ⟨x, 0, none⟩) 0 0))) (hne : x ≠ y) : Has W' y o :=
  hy.grown hg (by intro e; injection e with e; exact hne e.symm)

theorem below_alloc' {w w' : World} (h : Below w.heap.size w w') (o : Obj) : Below w.heap.size w (w'.alloc o) := h.alloc h.size o

theorem drow_grown_empty {W W' : World} {B x : Nat} {A : Option Addr} {L : List De} {e : TypeId} (h : DRow W B A L) (hx : Has W x (.cells #[] e)) (hg : W.grownBy W' (some x)) : DRow W' W'.heap.size A L := by
  intro hl
  obtain ⟨b, off, rfl, hb, hc⟩ := h hl
  have h0 := (hc 0 hl).1
  have hlt := World.block_lt_of_cell? W _ h0
  have hne : b ≠ x := by
    rintro rfl
    unfold Has at hx
    simp [World.cell?, hx] at h0
  have hk : ∀ o, W'.cell? ⟨b, o, none⟩ = W.cell? ⟨b, o, none⟩ := fun o => World.cell?_of_block (a := ⟨b, o, none⟩) (hg.block b hlt (by intro e; injection e with e; exact hne e))
  refine ⟨b, off, rfl, Nat.lt_of_lt_of_le hlt hg.size, fun i hi => ?_⟩
  obtain ⟨c0, c1, c2⟩ := hc i hi
  exact ⟨(hk _).trans c0, (hk _).trans c1, (hk _).trans c2⟩

theorem sub_append {L M : List De} (hM : AllSmall M) : Sub L (L ++ M) := fun X hX => by
  have := wsum_nonneg (X := X) (by omega) hM.oks
  rw [wsum_append]; omega

theorem one_row {w : World} {b : Nat} {x y z : Int} {t : TypeId} (h : w.heap[b]? = some (.cells #[.int .i64 x, .int .i64 y, .int .i64 z] t (0, 0))) :
    TRow w w.heap.size (some ⟨b, 0, none⟩) 1 (fun _ j => if j = 0 then x else if j = 1 then y else z) := by
  intro _
  refine ⟨b, 0, rfl, lt_of_block h, fun i hi => ?_⟩
  obtain rfl : i = 0 := by omega
  refine ⟨?_, ?_, ?_⟩ <;> simp [World.cell?, h]

set_option maxRecDepth 100000 in
set_option maxHeartbeats 2000000 in
theorem more_walk (w : World) (A : Option Addr) (n cap : Nat) (f : Nat → Nat → Int) (hr : TRow w w.heap.size A n f) (hn : n ≤ 9223372036854775807)
    (o : Nat → Int) (_wo : (Lit.int .i64 (o 0)).wf = true ∧ (Lit.int .i64 (o 1)).wf = true ∧ (Lit.int .i64 (o 2)).wf = true)
    (q : Nat → Int) (_wq : (Lit.int .i64 (q 0)).wf = true ∧ (Lit.int .i64 (q 1)).wf = true) :
    Calls Try.prog 4 #[.slice A n cap, .agg #[.int .i64 (o 0), .int .i64 (o 1), .int .i64 (o 2)], .agg #[.int .i64 (q 0), .int .i64 (q 1)]] w fun e w' => e = .returned (.bool true) ∧ Below w.heap.size w w' := by
  have hmade : Hid (∀ W, Below w.heap.size w W → Calls Try.prog 8 #[.slice A n cap] W (MadePost W)) := Lib.hid fun W hb => made_any A n cap f W ((hr.below hb (Nat.le_refl _)).more hb.size) hn
  obtain ⟨i0, hi, hz0, hz1, hz2⟩ := info_parts dem_info
  generalize q 0 = x0 at *
  generalize q 1 = x1 at *
  generalize o 0 = o0 at *
  generalize o 1 = o1 at *
  generalize o 2 = o2 at *
  clear hr _wq _wo
  have hboxA : Hid (((w.alloc (.cells #[.int .i64 o0, .int .i64 o1, .int .i64 o2] 31)).alloc (.cells #[.int .i64 x0, .int .i64 x1] 32)).heap[w.heap.size]? = some (.cells #[.int .i64 o0, .int .i64 o1, .int .i64 o2] 31 (0, 0))) :=
    Lib.hid ((Below.heap_alloc _ _ _ (by simp)).trans (heap_alloc_new w _))
  have hboxB : Hid (((w.alloc (.cells #[.int .i64 o0, .int .i64 o1, .int .i64 o2] 31)).alloc (.cells #[.int .i64 x0, .int .i64 x1] 32)).heap[w.heap.size + 1]? = some (.cells #[.int .i64 x0, .int .i64 x1] 32 (0, 0))) :=
    Lib.hid (by have := heap_alloc_new (w.alloc (.cells #[.int .i64 o0, .int .i64 o1, .int .i64 o2] 31)) (.cells #[.int .i64 x0, .int .i64 x1] 32); simpa using this)
  go_enter Try.func4, Try.ntmps4
  go_wp2_with fail
  refine (awake_any _).mono ?_
  rintro e w1 ⟨rfl, hb1⟩
  go_wp2_with fail
  have hB1 : Below w.heap.size w w1 := (((Below.refl _ _).alloc (Nat.le_refl _) _).alloc (by simp) _).trans (hb1.mono (by simp; omega))
  refine (hmade.out _ hB1).mono ?_
  rintro e w2 ⟨L, A2, cap2, rfl, ⟨hcap, hnil⟩, hl6, hsm, hrow, hb2⟩
  have hB2 : Below w.heap.size w w2 := hB1.trans (hb2.mono hB1.size)
  have hs1 := hb1.size
  have hs2 := hb2.size
  simp at hs1
  have hbA : Hid (w2.heap[w.heap.size]? = some (.cells #[.int .i64 o0, .int .i64 o1, .int .i64 o2] 31 (0, 0))) := Lib.hid (by
    rw [hb2.block _ (by omega), hb1.block _ (by simp; omega)]; exact hboxA.out)
  have hbB : Hid (w2.heap[w.heap.size + 1]? = some (.cells #[.int .i64 x0, .int .i64 x1] 32 (0, 0))) := Lib.hid (by
    rw [hb2.block _ (by omega), hb1.block _ (by simp)]; exact hboxB.out)
  clear hmade hboxA hboxB hb1 hb2 hB1 hs1 hs2
  obtain ⟨m, hm⟩ : ∃ m, m = L.length := ⟨_, rfl⟩
  have HL := Lib.hid hm
  rw [← hm] at hl6 hcap ⊢
  clear hm
  go_upto_if 24 with fail
  go_cut [8] (fun s wx => w2 = wx ∧ ∃ L1, Trim w2 w2.heap.size 5 s L1)
  case first =>
    by_cases h3 : 5 < m
    · go_wp2
      go_meet
      exact ⟨rfl, _, Trim.cutoff (by rw [← HL.out]; exact h3) (by rw [← HL.out]; exact hcap) hnil hsm hrow⟩
    · go_wp2
      go_meet
      exact ⟨rfl, L, A2, cap2, by rw [← HL.out], by rw [← HL.out]; exact hcap, hnil, by rw [← HL.out]; omega, hsm, hrow⟩
  case rest =>
  obtain ⟨rfl, L1, A4, c4, rfl, hc4, hn4, hl4, hs4, hr4⟩ := hcut
  clear hsm hrow HL hl6 hcap hnil
  have hq0 : bits .and .i64 x0 31 = x0 % 32 := and31 x0
  have hq1 : bits .and .i64 x1 31 = x1 % 32 := and31 x1
  have hx0 := two_cell0 hbB.out (Below.refl (w.heap.size + 2) _) (by omega)
  have hx1 := two_cell1 hbB.out (Below.refl (w.heap.size + 2) _) (by omega)
  go_wp2_with fail
  obtain ⟨a, ha⟩ : ∃ a, x0 % 32 = a := ⟨_, rfl⟩
  have a0 : 0 ≤ a := by omega
  have a1 : a ≤ 31 := by omega
  obtain ⟨b, hb⟩ : ∃ b, a + x1 % 32 = b := ⟨_, rfl⟩
  have b0 : a ≤ b := by omega
  have b1 : b ≤ 62 := by omega
  rw [ha, hb]
  clear ha hb hq0 hq1 hx0 hx1 hbB
  have e1 := wsum_few (X := 200) (by omega) hs4 (by omega)
  have e2 := wsum_few (X := 400) (by omega) hs4 (by omega)
  have HO := Lib.hid hs4.oks
  refine (busy_any A4 c4 L1 a 200 _ HO.out (by omega) hr4 a0 (by omega) (by omega) (by omega) (by omega)).mono ?_
  rintro e w3 ⟨x, i, rfl, hbx, hb3⟩
  have hr5 := (hr4.below hb3 (Nat.le_refl _)).more hb3.size
  have hB3 := hB2.trans (hb3.mono hB2.size)
  have hA3 : Hid (w3.heap[w.heap.size]? = some (.cells #[.int .i64 o0, .int .i64 o1, .int .i64 o2] 31 (0, 0))) := Lib.hid (by
    rw [hb3.block _ (lt_of_block hbA.out)]; exact hbA.out)
  clear hb3 hr4 hB2 hbA
  go_wp2_with fail
  refine (busy_any A4 c4 L1 b 200 _ HO.out (by omega) hr5 (by omega) (by omega) (by omega) (by omega) (by omega)).mono ?_
  rintro e w4 ⟨y, j, rfl, hby, hb4⟩
  have hr6 := (hr5.below hb4 (Nat.le_refl _)).more hb4.size
  have hB4 := hB3.trans (hb4.mono hB3.size)
  have hA4 : Hid (w4.heap[w.heap.size]? = some (.cells #[.int .i64 o0, .int .i64 o1, .int .i64 o2] 31 (0, 0))) := Lib.hid (by
    rw [hb4.block _ (lt_of_block hA3.out)]; exact hA3.out)
  clear hb4 hr5 hB3 hA3
  have HX := Lib.hid hbx
  have HY := Lib.hid hby
  clear hbx hby
  have hlt4 := lt_of_block hA4.out
  have hA0 : w4.cell? ⟨w.heap.size, 0, none⟩ = some (.int .i64 o0) ∧ w4.cell? ⟨w.heap.size, 1, none⟩ = some (.int .i64 o1) ∧ w4.cell? ⟨w.heap.size, 2, none⟩ = some (.int .i64 o2) := three_cell hA4.out (Below.refl (w.heap.size + 1) _) (by omega)
  obtain ⟨hA0, hA1, hA2⟩ := hA0
  have HR := Lib.hid hr6
  clear hr6
  go_upto_region 9 with fail
  go_cut [15, 16] (fun s15 s16 wx => ∃ z k N, s15 = .int .i64 z ∧ s16 = .bool k ∧ BusyIs N a 200 z k ∧ Sub L1 N ∧ Below w.heap.size w wx ∧ DRow wx wx.heap.size A4 L1)
  case first =>
    go_region_law (first
      | (refine step_append_src (by rfl) (.tmp 48) (.tmp 49) 24 (by rfl) w4.heap.size 29 i0 _ 3 24 Try.underlying24 hi hz0 hz1 hz2 rfl (by decide) _ 0 [] (by rfl) (own_empty (by first | assumption | exact Has.drew (Has.new0 _ _) | exact Has.drew (Has.new1 _ _ _) | exact Has.drew (Has.alloc (Has.new0 _ _) _) | exact Has.new0 _ _ | exact Has.alloc (by assumption) _) (by omega)) A4 L1.length c4 (L1.flatMap De.cells) (by rfl) (cells_len L1) (drow_src (HR.out.below (by first | assumption | exact (below_alloc' (Below.refl _ _) _).drew | exact (below_alloc' (below_alloc' (Below.refl _ _) _) _).drew | exact below_alloc' (by assumption) _ | exact (Below.refl _ _).drew) (Nat.le_refl _)) hc4 hn4) (cells_one L1) (by unfold maxLen; omega) (by omega) (Below.size (by first | assumption | exact (below_alloc' (Below.refl _ _) _).drew | exact (below_alloc' (below_alloc' (Below.refl _ _) _) _).drew | exact below_alloc' (by assumption) _ | exact (Below.refl _ _).drew)) ?_; intro v6 w6 hown6 hg6; have hb6 : Below w4.heap.size w4 w6 := Below.grown (by first | assumption | exact (below_alloc' (Below.refl _ _) _).drew | exact (below_alloc' (below_alloc' (Below.refl _ _) _) _).drew | exact below_alloc' (by assumption) _ | exact (Below.refl _ _).drew) hg6 (Below.size (by first | assumption | exact (below_alloc' (Below.refl _ _) _).drew | exact (below_alloc' (below_alloc' (Below.refl _ _) _) _).drew | exact below_alloc' (by assumption) _ | exact (Below.refl _ _).drew)) (by intro g hg; simp [Value.ownBlock] at hg; omega); obtain ⟨hA3, hA4', hA5⟩ := three_cell hA4.out hb6 hlt4; have hlt6 := Nat.lt_of_lt_of_le hlt4 hb6.size; (first | (have hY6 : Has w6 w4.heap.size (.cells #[.int .i64 o0, .int .i64 o1, .int .i64 o2] 31) := hasY_of (by first | assumption | exact Has.drew (Has.new0 _ _) | exact Has.drew (Has.new1 _ _ _) | exact Has.drew (Has.alloc (Has.new0 _ _) _) | exact Has.new0 _ _ | exact Has.alloc (by assumption) _) hg6 (by first | exact Nat.succ_ne_self _ | exact (Nat.succ_ne_self _).symm)) | (have hY6 : Has w6 (w4.heap.size + 1) (.cells #[.int .i64 o0, .int .i64 o1, .int .i64 o2] 31) := hasY_of (by first | assumption | exact Has.drew (Has.new0 _ _) | exact Has.drew (Has.new1 _ _ _) | exact Has.drew (Has.alloc (Has.new0 _ _) _) | exact Has.new0 _ _ | exact Has.alloc (by assumption) _) hg6 (by first | exact Nat.succ_ne_self _ | exact (Nat.succ_ne_self _).symm)) | skip); (first | (have hd9 := drow_grown_empty hd7 (by first | assumption | exact Has.drew (Has.new0 _ _) | exact Has.drew (Has.new1 _ _ _) | exact Has.drew (Has.alloc (Has.new0 _ _) _) | exact Has.new0 _ _ | exact Has.alloc (by assumption) _) hg6) | skip))
      | (refine step_append_src (by rfl) (.tmp 50) (.tmp 53) 24 (by rfl) w4.heap.size 29 i0 _ 3 24 Try.underlying24 hi hz0 hz1 hz2 rfl (by decide) v6 (0 + L1.length) ([] ++ L1.flatMap De.cells) (by rfl) (by first | exact hown7 | exact hown6) A7 L2.length c7 (L2.flatMap De.cells) (by rfl) (cells_len L2) (by first | exact drow_src hd9 hc7 hn7 | exact drow_src hd7 hc7 hn7) (cells_one L2) (by unfold maxLen; omega) (by omega) (Below.size (by first | assumption | exact (below_alloc' (Below.refl _ _) _).drew | exact (below_alloc' (below_alloc' (Below.refl _ _) _) _).drew | exact below_alloc' (by assumption) _ | exact (Below.refl _ _).drew)) ?_; intro v8 w8 hown8 hg8; have hb8 : Below w4.heap.size w4 w8 := Below.grown (by first | assumption | exact (below_alloc' (Below.refl _ _) _).drew | exact (below_alloc' (below_alloc' (Below.refl _ _) _) _).drew | exact below_alloc' (by assumption) _ | exact (Below.refl _ _).drew) hg8 (Below.size (by first | assumption | exact (below_alloc' (Below.refl _ _) _).drew | exact (below_alloc' (below_alloc' (Below.refl _ _) _) _).drew | exact below_alloc' (by assumption) _ | exact (Below.refl _ _).drew)) (by intro g hg; exact (World.ownsRow.lt (by first | exact hown7 | exact hown6) g hg).1); obtain ⟨N, hN⟩ : ∃ N, N = L1 ++ L2 := ⟨_, rfl⟩; have hNl : N.length ≤ 11 := (by rw [hN]; simp; omega); have hNs : AllSmall N := (by rw [hN]; exact hs4.append hs2); have hNb : Sub L1 N := (by rw [hN]; exact sub_append hs2); obtain ⟨A8, c8, rfl, hc8, hn8, hd8⟩ := drow_own (L := N) (by rw [hN]; simpa [List.flatMap_append] using hown8); have HN := Lib.hid hN; clear hN)
      | (go_simp; go_at_call 8; refine (made_any (some ⟨_, 0, none⟩) 1 1 _ _ (one_row (x := o0) (y := o1) (z := o2) (t := 31) (by first | assumption | exact Has.drew (Has.new0 _ _) | exact Has.drew (Has.new1 _ _ _) | exact Has.drew (Has.alloc (Has.new0 _ _) _) | exact Has.new0 _ _ | exact Has.alloc (by assumption) _)) (by omega)).mono ?_; rintro e w5 ⟨L2, A7, c7, rfl, ⟨hc7, hn7⟩, hl2, hs2, hd7, hbM⟩; have hb5 : Below w4.heap.size w4 w5 := Below.trans (by first | assumption | exact (below_alloc' (Below.refl _ _) _).drew | exact (below_alloc' (below_alloc' (Below.refl _ _) _) _).drew | exact below_alloc' (by assumption) _ | exact (Below.refl _ _).drew) (hbM.mono (Below.size (by first | assumption | exact (below_alloc' (Below.refl _ _) _).drew | exact (below_alloc' (below_alloc' (Below.refl _ _) _) _).drew | exact below_alloc' (by assumption) _ | exact (Below.refl _ _).drew))); (first | (have hX5 : Has w5 w4.heap.size (.cells #[] 29) := Has.below (by first | assumption | exact Has.drew (Has.new0 _ _) | exact Has.drew (Has.new1 _ _ _) | exact Has.drew (Has.alloc (Has.new0 _ _) _) | exact Has.new0 _ _ | exact Has.alloc (by assumption) _) hbM (Has.lt (by first | assumption | exact Has.drew (Has.new0 _ _) | exact Has.drew (Has.new1 _ _ _) | exact Has.drew (Has.alloc (Has.new0 _ _) _) | exact Has.new0 _ _ | exact Has.alloc (by assumption) _))) | (have hX5 : Has w5 (w4.heap.size + 1) (.cells #[] 29) := Has.below (by first | assumption | exact Has.drew (Has.new0 _ _) | exact Has.drew (Has.new1 _ _ _) | exact Has.drew (Has.alloc (Has.new0 _ _) _) | exact Has.new0 _ _ | exact Has.alloc (by assumption) _) hbM (Has.lt (by first | assumption | exact Has.drew (Has.new0 _ _) | exact Has.drew (Has.new1 _ _ _) | exact Has.drew (Has.alloc (Has.new0 _ _) _) | exact Has.new0 _ _ | exact Has.alloc (by assumption) _))) | skip); (first | (have hown7 := ownsRow_below (hown6.alloc _) hbM (Nat.le_refl _)) | (have hown7 := ownsRow_below hown6 hbM (Nat.le_refl _)) | skip))
      | (go_simp; go_at_call 9; refine (busy_any A8 c8 N a 200 _ hNs.oks (by omega) hd8 a0 (by omega) (by omega) (by omega) (by have := wsum_few (X := 200) (by omega) hNs (by omega); omega)).mono ?_; rintro e w9 ⟨z, k, rfl, hz, hb9⟩))
    all_goals (go_wp2_with fail)
    all_goals go_meet
    all_goals exact ⟨z, k, N, rfl, rfl, hz, hNb, hB4.trans ((hb8.trans (hb9.mono hb8.size)).mono hB4.size), ((HR.out.below hb8 (Nat.le_refl _)).below hb9 hb8.size).more (Nat.le_trans hb8.size hb9.size)⟩
  case rest =>
  obtain ⟨z, k, N, rfl, rfl, hz, hsub, hBc, hdc⟩ := hcut
  have hj : j = true → i = true ∧ x ≤ y := fun e => by subst e; exact BusyIs.later b0 (fun X _ => Int.le_refl _) HX.out HY.out
  have hk : k = true → i = true ∧ x ≤ z := fun e => by subst e; exact BusyIs.later (Int.le_refl _) hsub HX.out hz
  have HJ := Lib.hid hj
  have HK := Lib.hid hk
  clear hj hk hz hsub HY hA0 hA1 hA2 hA4 hlt4 HR hi hz0 hz1 hz2
  go_wp2_with fail
  refine (busy_any A4 c4 L1 a 400 _ HO.out (by omega) hdc a0 (by omega) (by omega) (by omega) (by omega)).mono ?_
  rintro e w10 ⟨v, nn, rfl, hv, hb10⟩
  have hn2 : i = true → nn = true ∧ v = x := fun e => by subst e; exact BusyIs.longer (by decide) HX.out hv
  have HN2 := Lib.hid hn2
  have hB10 := hBc.trans (hb10.mono hBc.size)
  clear hn2 hv hb10 hdc hBc HX
  cases i with
  | false =>
    obtain rfl : j = false := by cases j with | false => rfl | true => exact absurd (HJ.out rfl).1 (by decide)
    obtain rfl : k = false := by cases k with | false => rfl | true => exact absurd (HK.out rfl).1 (by decide)
    go_wp2
    go_ret
    exact ⟨rfl, hB10⟩
  | true =>
    obtain ⟨rfl, rfl⟩ := HN2.out rfl
    cases j with
    | false =>
      cases k with
      | false =>
        go_wp2
        go_ret
        exact ⟨rfl, hB10⟩
      | true =>
        have h2 := (HK.out rfl).2
        go_wp2
        go_ret
        exact ⟨rfl, hB10⟩
    | true =>
      have h1 := (HJ.out rfl).2
      cases k with
      | false =>
        go_wp2
        go_ret
        exact ⟨rfl, hB10⟩
      | true =>
        have h2 := (HK.out rfl).2
        go_wp2
        go_ret
        exact ⟨rfl, hB10⟩

end Go.Proofs.Ytcmldhanidkdjaa
