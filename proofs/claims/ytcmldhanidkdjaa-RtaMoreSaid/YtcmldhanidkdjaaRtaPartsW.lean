/- RtaParts: the walk. -/
import Derived.Test.YtcmldhanidkdjaaRtaF
import Derived.Test.YtcmldhanidkdjaaAppend
import Derived.Deep.DeepCutAuto
namespace Go.Proofs.Ytcmldhanidkdjaa
open Go.RowKit Go.Shelf

theorem DRow.take {w : World} {B : Nat} {A : Option Addr} {L : List De} (h : DRow w B A L) (k : Nat) : DRow w B A (L.take k) := by
  intro hl
  have hl' : 0 < L.length := by rw [List.length_take] at hl; omega
  obtain ⟨b, off, e, hlt, hc⟩ := h hl'
  refine ⟨b, off, e, hlt, fun i hi => ?_⟩
  have hi' : i < L.length := by simp at hi; omega
  simp only [List.getElem_take]
  exact hc i hi'

theorem AllSmall.take {L : List De} (h : AllSmall L) (k : Nat) : AllSmall (L.take k) := fun x hx => h x (List.mem_of_mem_take hx)

theorem AllSmall.append {L M : List De} (h : AllSmall L) (g : AllSmall M) : AllSmall (L ++ M) := fun x hx => by
  rcases List.mem_append.1 hx with hx | hx
  · exact h x hx
  · exact g x hx

theorem cells_one (L : List De) : ∀ u ∈ L.flatMap De.cells, u.oneCell' = true := by
  intro u hu
  simp only [List.mem_flatMap] at hu
  obtain ⟨x, _, hx⟩ := hu
  simp [De.cells] at hx
  rcases hx with rfl | rfl | rfl <;> rfl

theorem drow_src {w : World} {B : Nat} {A : Option Addr} {L : List De} {c : Nat} (h : DRow w B A L) (hc : L.length ≤ c) (hn : A = none → c = 0) :
    (A = none ∧ L.length = 0 ∧ c = 0) ∨ ∃ ad, A = some ad ∧ ∀ j u, (L.flatMap De.cells)[j]? = some u → w.cell? (ad.add j) = some u := by
  rcases A with _ | ad
  · have := hn rfl
    exact .inl ⟨rfl, by omega, this⟩
  · refine .inr ⟨ad, rfl, fun j u hj => ?_⟩
    have hlt : j < L.length * 3 := by
      rw [← cells_len]
      exact (List.getElem?_eq_some_iff.1 hj).1
    have hi : j / 3 < L.length := by omega
    obtain ⟨b, off, e, _, hcell⟩ := h (by omega)
    injection e with e
    subst e
    have ha : (⟨b, off, none⟩ : Addr).add j = ⟨b, off + j, none⟩ := by unfold Addr.add; split <;> simp_all
    rw [ha]
    obtain ⟨a0, a1, a2⟩ := cells_at L (j / 3) hi
    obtain ⟨b0, b1, b2⟩ := hcell (j / 3) hi
    have hr : j = j / 3 * 3 ∨ j = j / 3 * 3 + 1 ∨ j = j / 3 * 3 + 2 := by omega
    rcases hr with hr | hr | hr
    · rw [← hr] at a0 b0; rw [hj] at a0; injection a0 with a0; rw [b0, a0]
    · rw [← hr] at a1; rw [hj] at a1; injection a1 with a1; rw [Nat.add_assoc, ← hr] at b1; rw [b1, a1]
    · rw [← hr] at a2; rw [hj] at a2; injection a2 with a2; rw [Nat.add_assoc, ← hr] at b2; rw [b2, a2]

theorem BusyIs.part {L M : List De} {held most n n' : Int} {ok' : Bool} (hsub : ∀ X, 1 ≤ X → wsum X L ≤ wsum X M) (h : BusyIs M held most n true) (h' : BusyIs L held most n' ok') : ok' = true := by
  rcases h with ⟨_, a1, a2, a3, _⟩ | ⟨e, _⟩
  · rcases h' with ⟨e, _⟩ | ⟨_, _, hu⟩
    · exact e
    · have := hu n a1 (by omega)
      have := hsub n a1
      omega
  · cases e

theorem two_cell0 {w w' : World} {b B : Nat} {x y : Value} {t : TypeId} (h : w.heap[b]? = some (.cells #[x, y] t (0, 0))) (hb : Below B w w') (hB : b < B) : w'.cell? ⟨b, 0, none⟩ = some x := by
  simp [World.cell?, hb.block b hB, h]
theorem two_cell1 {w w' : World} {b B : Nat} {x y : Value} {t : TypeId} (h : w.heap[b]? = some (.cells #[x, y] t (0, 0))) (hb : Below B w w') (hB : b < B) : w'.cell? ⟨b, 1, none⟩ = some y := by
  simp [World.cell?, hb.block b hB, h]

/-- The three rows of the law. -/
def Three (W : World) (A B C : Option Addr) (L M N : List De) : Prop := DRow W W.heap.size A L ∧ DRow W W.heap.size B M ∧ DRow W W.heap.size C N
theorem Three.step {W W' : World} {A B C : Option Addr} {L M N : List De} (h : Three W A B C L M N) (hb : Below W.heap.size W W') : Three W' A B C L M N :=
  ⟨(h.1.below hb (Nat.le_refl _)).more hb.size, (h.2.1.below hb (Nat.le_refl _)).more hb.size, (h.2.2.below hb (Nat.le_refl _)).more hb.size⟩

/-- What a trimmed row is: at most k of the demands. -/
def Trim (w : World) (B k : Nat) (v : Value) (L : List De) : Prop :=
  ∃ A c, v = .slice A L.length c ∧ L.length ≤ c ∧ (A = none → c = 0) ∧ L.length ≤ k ∧ AllSmall L ∧ DRow w B A L

theorem Trim.cutoff {w : World} {B k c : Nat} {A : Option Addr} {L : List De} (hk : k < L.length) (hc : L.length ≤ c) (hn : A = none → c = 0) (hs : AllSmall L) (hr : DRow w B A L) :
    Trim w B k (.slice A k c) (L.take k) := by
  have e : (L.take k).length = k := by rw [List.length_take]; omega
  exact ⟨A, c, by rw [e], by rw [e]; omega, hn, by rw [e]; exact Nat.le_refl _, hs.take k, hr.take k⟩

set_option maxRecDepth 100000 in
set_option maxHeartbeats 2000000 in
theorem parts_walk (w : World) (A : Option Addr) (n cap : Nat) (f : Nat → Nat → Int) (hr : TRow w w.heap.size A n f) (hn : n ≤ 9223372036854775807)
    (A' : Option Addr) (n' cap' : Nat) (f' : Nat → Nat → Int) (hr' : TRow w w.heap.size A' n' f') (hn' : n' ≤ 9223372036854775807)
    (q : Nat → Int) (_wq : (Lit.int .i64 (q 0)).wf = true ∧ (Lit.int .i64 (q 1)).wf = true) :
    Calls Try.prog 5 #[.slice A n cap, .slice A' n' cap', .agg #[.int .i64 (q 0), .int .i64 (q 1)]] w fun e w' => e = .returned (.bool true) ∧ Below w.heap.size w w' := by
  have hmade : Hid (∀ W, Below w.heap.size w W → Calls Try.prog 8 #[.slice A n cap] W (MadePost W)) := Lib.hid fun W hb => made_any A n cap f W ((hr.below hb (Nat.le_refl _)).more hb.size) hn
  have hmade' : Hid (∀ W, Below w.heap.size w W → Calls Try.prog 8 #[.slice A' n' cap'] W (MadePost W)) := Lib.hid fun W hb => made_any A' n' cap' f' W ((hr'.below hb (Nat.le_refl _)).more hb.size) hn'
  obtain ⟨i0, hi, hz0, hz1, hz2⟩ := info_parts dem_info
  generalize q 0 = x0 at *
  generalize q 1 = x1 at *
  clear hr hr' _wq
  have hbox : Hid ((w.alloc (.cells #[.int .i64 x0, .int .i64 x1] 32)).heap[w.heap.size]? = some (.cells #[.int .i64 x0, .int .i64 x1] 32 (0, 0))) := Lib.hid (heap_alloc_new w _)
  go_enter Try.func5, Try.ntmps5
  go_wp2_with fail
  refine (awake_any _).mono ?_
  rintro e w1 ⟨rfl, hb1⟩
  go_wp2_with fail
  have hB1 : Below w.heap.size w w1 := ((Below.refl _ _).alloc (Nat.le_refl _) _).trans (hb1.mono (by simp))
  refine (hmade.out _ hB1).mono ?_
  rintro e w2 ⟨L, A2, cap2, rfl, ⟨hcap, hnil⟩, hl6, hsm, hrow, hb2⟩
  go_wp2_with fail
  have hB2 : Below w.heap.size w w2 := hB1.trans (hb2.mono hB1.size)
  refine (hmade'.out _ hB2).mono ?_
  rintro e w3 ⟨M, A3, cap3, rfl, ⟨hcap', hnil'⟩, hm6, hsm', hrow', hb3⟩
  have hB3 : Below w.heap.size w w3 := hB2.trans (hb3.mono hB2.size)
  have hrow3 : DRow w3 w3.heap.size A2 L := (hrow.below hb3 (Nat.le_refl _)).more hb3.size
  have hbx : Hid (w3.heap[w.heap.size]? = some (.cells #[.int .i64 x0, .int .i64 x1] 32 (0, 0))) := Lib.hid (by
    have h1 := hb1.size; have h2 := hb2.size
    simp at h1
    rw [hb3.block _ (by omega), hb2.block _ (by omega), hb1.block _ (by simp)]
    exact hbox.out)
  clear hmade hmade' hbox hb1 hb2 hb3 hB1 hB2 hrow
  obtain ⟨m, hm⟩ : ∃ m, m = L.length := ⟨_, rfl⟩
  obtain ⟨m', hm'⟩ : ∃ m', m' = M.length := ⟨_, rfl⟩
  have HL := Lib.hid hm
  have HM := Lib.hid hm'
  rw [← hm] at hl6 hcap ⊢
  rw [← hm'] at hm6 hcap' ⊢
  clear hm hm'
  go_upto_if 26 with fail
  go_cut [8] (fun s wx => w3 = wx ∧ ∃ L1, Trim w3 w3.heap.size 3 s L1)
  case first =>
    by_cases h3 : 3 < m
    · go_wp2
      go_meet
      exact ⟨rfl, _, Trim.cutoff (by rw [← HL.out]; exact h3) (by rw [← HL.out]; exact hcap) hnil hsm hrow3⟩
    · go_wp2
      go_meet
      exact ⟨rfl, L, A2, cap2, by rw [← HL.out], by rw [← HL.out]; exact hcap, hnil, by rw [← HL.out]; omega, hsm, hrow3⟩
  case rest =>
  obtain ⟨rfl, L1, A4, c4, rfl, hc4, hn4, hl4, hs4, hr4⟩ := hcut
  go_upto_if 31 with fail
  go_cut [9] (fun s wx => w3 = wx ∧ ∃ L1, Trim w3 w3.heap.size 3 s L1)
  case first =>
    by_cases h3 : 3 < m'
    · go_wp2
      go_meet
      exact ⟨rfl, _, Trim.cutoff (by rw [← HM.out]; exact h3) (by rw [← HM.out]; exact hcap') hnil' hsm' hrow'⟩
    · go_wp2
      go_meet
      exact ⟨rfl, M, A3, cap3, by rw [← HM.out], by rw [← HM.out]; exact hcap', hnil', by rw [← HM.out]; omega, hsm', hrow'⟩
  case rest =>
  obtain ⟨rfl, M1, A5, c5, rfl, hc5, hn5, hl5, hs5, hr5⟩ := hcut
  clear hsm hrow3 hsm' hrow' HL HM hl6 hm6 hcap hcap' hnil hnil'
  obtain ⟨N, hN⟩ : ∃ N, N = L1 ++ M1 := ⟨_, rfl⟩
  have HN := Lib.hid hN
  have hll : N.length ≤ 6 := by rw [hN]; simp; omega
  have hsl : AllSmall N := by rw [hN]; exact hs4.append hs5
  clear hN
  have hq0 : bits .and .i64 x0 127 = x0 % 128 := and127 x0
  have hq1 : bits .and .i64 x1 15 = x1 % 16 := and15 x1
  have hszw : w.heap.size < w3.heap.size := lt_of_block hbx.out
  have hown0 := World.ownsRow_made (e := 29) (size := 3) w3 #[] 0 (Nat.le_refl w3.heap.size) (by unfold maxLen; omega) rfl
  have hb0 : Below w3.heap.size w3 (w3.alloc (.cells #[] 29)) := (Below.refl _ _).alloc (Nat.le_refl _) _
  have src4 := drow_src (hr4.below hb0 (Nat.le_refl _)) hc4 hn4
  go_wp2_with (first
    | (at_builtin; refine wpList_append_src rfl (.tmp 34) (.tmp 35) 24 rfl w3.heap.size 29 i0 _ 3 24 Try.underlying24 hi hz0 hz1 hz2 rfl (by decide) _ _ _ rfl hown0 A4 L1.length c4 (L1.flatMap De.cells) rfl (cells_len L1) src4 (cells_one L1) (by unfold maxLen; omega) (by omega) hb0.size ?_; intro v4 w4 hown4 hg4; have hB4 : Below w3.heap.size w3 w4 := hb0.grown hg4 hb0.size (fun g hg => (hown0.lt g hg).1); have src5 := drow_src (hr5.below hB4 (Nat.le_refl _)) hc5 hn5)
    | (at_builtin; refine wpList_append_src rfl (.tmp 36) (.tmp 37) 24 rfl w3.heap.size 29 i0 _ 3 24 Try.underlying24 hi hz0 hz1 hz2 rfl (by decide) _ _ _ rfl hown4 A5 M1.length c5 (M1.flatMap De.cells) rfl (cells_len M1) src5 (cells_one M1) (by unfold maxLen; omega) (by omega) hB4.size ?_; intro v5 w5 hown5 hg5; have hB5 : Below w3.heap.size w3 w5 := hB4.grown hg5 hB4.size (fun g hg => (hown4.lt g hg).1); obtain ⟨A6, c6, rfl, hc6, hn6, hr6⟩ := drow_own (L := N) (by rw [HN.out]; simpa [List.flatMap_append] using hown5); have hx0 := two_cell0 hbx.out hB5 hszw; have hx1 := two_cell1 hbx.out hB5 hszw))
  obtain ⟨T, hT⟩ : ∃ T, 1 + x0 % 128 = T := ⟨_, rfl⟩
  have t0 : 1 ≤ T := by omega
  have t1 : T ≤ 128 := by omega
  obtain ⟨H, hH⟩ : ∃ H, x1 % 16 = H := ⟨_, rfl⟩
  have g0 : 0 ≤ H := by omega
  have g1 : H ≤ 15 := by omega
  rw [hT, hH]
  have K5 : Three w5 A4 A5 A6 L1 M1 N := ⟨(hr4.below hB5 (Nat.le_refl _)).more hB5.size, (hr5.below hB5 (Nat.le_refl _)).more hB5.size, hr6⟩
  have hB35 : Below w.heap.size w w5 := hB3.trans (hB5.mono (by omega))
  have e1 := wsum_few (X := T) (by omega) hs4 (by omega)
  have e2 := wsum_few (X := T) (by omega) hs5 (by omega)
  have e3 := wsum_few (X := T) (by omega) hsl (by omega)
  have e4 := wsum_nonneg (X := T) (by omega) hs4.oks
  have e5 := wsum_nonneg (X := T) (by omega) hs5.oks
  have hE : (wsum T N == wsum T L1 + wsum T M1) = true := by rw [HN.out, wsum_append]; simp
  have HO := Lib.hid (And.intro hs4.oks (And.intro hs5.oks hsl.oks))
  clear hT hH hq0 hq1 hbx hown0 hb0 src4 src5 hown4 hg4 hown5 hg5 hx0 hr4 hr5 hr6 hc4 hc5 hc6 hn4 hn5 hn6 hB3 hB4 hB5 hszw hi hz0 hz1 hz2 hn hn'
  refine (work_any A4 c4 L1 T _ HO.out.1 (by omega) K5.1 t0 (by omega) (by omega)).mono ?_
  rintro e w6 ⟨rfl, b6⟩
  have K6 := K5.step b6
  have B6 := hB35.trans (b6.mono hB35.size)
  clear K5 b6 hB35
  go_wp2_with fail
  refine (work_any A5 c5 M1 T _ HO.out.2.1 (by omega) K6.2.1 t0 (by omega) (by omega)).mono ?_
  rintro e w7 ⟨rfl, b7⟩
  have K7 := K6.step b7
  have B7 := B6.trans (b7.mono B6.size)
  clear K6 b7 B6
  go_wp2_with fail
  refine (work_any A6 c6 N T _ HO.out.2.2 (by omega) K7.2.2 t0 (by omega) (by omega)).mono ?_
  rintro e w8 ⟨rfl, b8⟩
  have K8 := K7.step b8
  have B8 := B7.trans (b8.mono B7.size)
  clear K7 b8 B7
  have sub1 : ∀ X, 1 ≤ X → wsum X L1 ≤ wsum X N := fun X hX => by
    have := wsum_nonneg (X := X) (by omega) HO.out.2.1
    rw [HN.out, wsum_append]; omega
  have sub2 : ∀ X, 1 ≤ X → wsum X M1 ≤ wsum X N := fun X hX => by
    have := wsum_nonneg (X := X) (by omega) HO.out.1
    rw [HN.out, wsum_append]; omega
  have S1 := Lib.hid sub1
  have S2 := Lib.hid sub2
  clear sub1 sub2
  go_wp2_with fail
  refine (fits_any A6 c6 N H T _ HO.out.2.2 (by omega) K8.2.2 g0 (by omega) t0 (by omega) (by omega)).mono ?_
  rintro e w9 ⟨nz, okz, rfl, hz, b9⟩
  have K9 := K8.step b9
  have B9 := B8.trans (b9.mono B8.size)
  have HZ := Lib.hid hz
  clear K8 b9 B8 hz
  cases okz with
  | false =>
    go_wp2
    go_ret
    exact ⟨rfl, B9⟩
  | true =>
    go_wp2_with fail
    refine (fits_any A4 c4 L1 H T _ HO.out.1 (by omega) K9.1 g0 (by omega) t0 (by omega) (by omega)).mono ?_
    rintro e w10 ⟨nx, okx, rfl, hx, b10⟩
    obtain rfl := BusyIs.part S1.out HZ.out hx
    have K10 := K9.step b10
    have B10 := B9.trans (b10.mono B9.size)
    clear K9 b10 B9 hx
    go_wp2_with fail
    refine (fits_any A5 c5 M1 H T _ HO.out.2.1 (by omega) K10.2.1 g0 (by omega) t0 (by omega) (by omega)).mono ?_
    rintro e w11 ⟨ny, oky, rfl, hy, b11⟩
    obtain rfl := BusyIs.part S2.out HZ.out hy
    have B11 := B10.trans (b11.mono B10.size)
    clear K10 b11 B10 hy
    go_wp2
    go_ret
    exact ⟨rfl, B11⟩

end Go.Proofs.Ytcmldhanidkdjaa
