/- Texts of this claim, one behind the other: PRunBack5, PRunBack6, PRunBack, Evs, QRunBackPMade, QRunBackPScript, RunP, PureRunBack, Laid, LaidTab. -/
import Derived.Test.YtnejkfccdnadcaaDoorZRunBack2
import Derived.Test.YtnejkfccdnadcaaDoorZRunBack3
import Derived.Laws.BitsLemmas
import Derived.Laws.Bits64
import Derived.Test.YtnejkfccdnadcaaDoorZRunBack1
import Derived.Test.YtnejkfccdnadcaaDoorRows
import Derived.Test.YtnejkfccdnadcaaDoorCards
import Derived.Test.YtnejkfccdnadcaaDoorTie
import Derived.ProofKit
import Derived.LaidMore
import Derived.Lay
import Derived.LaidLaws
import Derived.LaidHandle
import Derived.HandedShaped
import Derived.SevenTiedAt
import Derived.Lib.LaidU8
import Derived.Lib.LaidTab

section
namespace Go.Proofs.YtnejkfccdnadcaaDoor.PRunBack
open Go.RowKit Go.Proofs.YtnejkfccdnadcaaDoorW.PrintWords Go.Proofs.YtnejkfccdnadcaaDoorW.PrintLast Go.Proofs.YtnejkfccdnadcaaDoorW.PrintMore
attribute [local go_sem] max2_int min2_int max_two min_two max_three min_three max_four min_four   -- for this text's walks alone
set_option linter.unusedVariables false
set_option linter.unusedSimpArgs false
noncomputable section

def ostinatoref05_System_Made.l0 : Nat → Int → Int → Int → List (S57) → Int → Int → List (S85) → Option (Int × Int × (List (S85)))
  | 0, _, _, _, _, _, _, _ => none
  | k + 1, x4, x155000, x155001, x155002, x158000, x158001, x158002 => if x4 < (x155002.length : Int) then (if x4 < 6 then (if 0 ≤ x4 then ((ostinatoref05_Num_task.f k ((rd_T57 x155002 x4).f0) ((rd_T57 x155002 x4).f1) ((rd_T57 x155002 x4).f2) ((rd_T57 x155002 x4).f3) ((rd_T57 x155002 x4).f4) ((rd_T57 x155002 x4).f5) x4 x158000).bind fun bt159 => (if x158002.length < 1599289640401 then (ostinatoref05_System_Made.l0 k (wrap64 (x4 + 1)) x155000 x155001 x155002 x158000 x158001 (x158002 ++ [(⟨bt159.1, bt159.2.1, bt159.2.2.1, bt159.2.2.2.1, bt159.2.2.2.2.1, bt159.2.2.2.2.2.1, bt159.2.2.2.2.2.2⟩ : S85)])) else (none))) else (none)) else (if (x158002.length : Int) = 0 then (some (x158000, x158001, (([(⟨1, 1, 4, 4, 10, ([] : List Int), ([] : List Int)⟩ : S85)] : List (S85))))) else (some (x158000, x158001, x158002)))) else (if (x158002.length : Int) = 0 then (some (x158000, x158001, (([(⟨1, 1, 4, 4, 10, ([] : List Int), ([] : List Int)⟩ : S85)] : List (S85))))) else (some (x158000, x158001, x158002)))
def ostinatoref05_System_Made.f (k : Nat) (a0_0 : Int) (a0_1 : Int) (l0_2 : List (S57)) : Option (Int × Int × (List (S85))) := (ostinatoref05_rest.f a0_0 8).bind fun t156 => (ostinatoref05_System_Made.l0 k 0 a0_0 a0_1 l0_2 (wrap64 (1 + t156)) (Go.bits .and .i64 a0_1 3) ([] : List (S85)))
def ostinatoref05_System_Made.T1 : Bool × List (List Nat × List Nat) := (true, [([], []), ([0], [0]), ([1], [1]), ([2], [2]), ([], []), ([4], [4]), ([5], [5]), ([3, 6], [3, 6]), ([], []), ([8, 7, 2, 0, 1, 2, 3, 4, 5, 6, 7, 8], [7, 8])])
def ostinatoref05_System_Made.B1 : List Nat := [0, 1, 3, 7, 0, 16, 48, 127, 0, 511]
theorem ostinatoref05_System_Made.tab1 : rtab .any (opsOf Tryd.f16 1) = ostinatoref05_System_Made.T1 := by kernel_rfl
theorem ostinatoref05_System_Made.bits1 : waitsOk ostinatoref05_System_Made.T1.2 ostinatoref05_System_Made.B1 = true := by kernel_rfl
def ostinatoref05_System_Made.T5 : Bool × List (List Nat × List Nat) := (true, [([], []), ([0], [0]), ([], []), ([2], [2]), ([], []), ([3, 4], [3, 4]), ([5], [5]), ([], []), ([], []), ([8], [8]), ([6, 7, 9], [6, 7, 9]), ([10], [10]), ([1, 11, 10], [1, 11]), ([0, 1, 2, 3, 4, 5, 6, 7, 8, 9, 10, 11, 12], []), ([13, 12, 12, 0, 1, 2, 3, 4, 5, 6, 7, 8, 9, 10, 11, 12], [12, 13])])
def ostinatoref05_System_Made.B5 : List Nat := [0, 1, 0, 4, 0, 28, 60, 0, 0, 256, 1020, 2044, 4095, 8191, 16383]
theorem ostinatoref05_System_Made.tab5 : rtab .any (opsOf Tryd.f16 5) = ostinatoref05_System_Made.T5 := by kernel_rfl
theorem ostinatoref05_System_Made.bits5 : waitsOk ostinatoref05_System_Made.T5.2 ostinatoref05_System_Made.B5 = true := by kernel_rfl
set_option maxHeartbeats 8000000 in
set_option maxRecDepth 100000 in
theorem ostinatoref05_System_Made.calls (k : Nat) (a0_0 : Int) (a0_1 : Int) (A0_2 : Option Addr) (c0_2 : Nat) (l0_2 : List (S57)) (r1 : Int) (r2 : Int) (r3 : List (S85)) (w : World) (hr0_2 : Kd.C k57 w A0_2 l0_2.length l0_2) (hc0_2 : l0_2.length ≤ c0_2) (h : ostinatoref05_System_Made.f k a0_0 a0_1 l0_2 = some (r1, r2, r3)) :
    Calls Tryd.prog 16 #[.agg #[.int .i64 a0_0, .int .i64 a0_1, .slice A0_2 l0_2.length c0_2]] w fun e w' => ∃ v2_ : Value, e = .returned (.agg #[.int .i64 r1, .int .i64 r2, v2_]) ∧ Kd.S k85 85 w' w.heap.size (fun _ => True) v2_ r3 ∧ Below w.heap.size w w' := by
  have hu55 := Tryd.underlying55
  have hu31 := Tryd.underlying31
  have hu57 := Tryd.underlying57
  have hu85 := Tryd.underlying85
  have HR0_2 := Aside0.mk hr0_2
  have HC0_2 := Aside0.mk hc0_2
  clear hr0_2 hc0_2
  have HB := Aside0.mk (Below.refl w.heap.size w)
  have H : ((ostinatoref05_rest.f a0_0 8).bind fun t156 => (ostinatoref05_System_Made.l0 k 0 a0_0 a0_1 l0_2 (wrap64 (1 + t156)) (Go.bits .and .i64 a0_1 3) ([] : List (S85)))) = some (r1, r2, r3) := h
  clear h
  replace H := Option.bind_eq_some_iff.mp H
  obtain ⟨t156, A20, H⟩ := H
  replace H : (ostinatoref05_System_Made.l0 k 0 a0_0 a0_1 l0_2 (wrap64 (1 + t156)) (Go.bits .and .i64 a0_1 3) ([] : List (S85))) = some (r1, r2, r3) := H
  have A2 := Aside0.mk A20
  clear A20
  have H' := Aside0.mk H
  clear H
  go_enter Tryd.func16, Tryd.ntmps16
  try go_wp2_with (first | ((with_reducible refine gate_dst (N := 1) rfl ?_); refine box_event ?hg (N := 1) ?hd (cs := #[.int .i64 a0_0, .int .i64 a0_1, .slice A0_2 l0_2.length c0_2]) (t := 55) ?hr ?_; (case hd => rfl); (case hg => rfl); (case hr => first | (go_simp; done) | (go_simp; rfl)); intro gb154 hg w3 hbox hb; have n0_ := Aside0.mk (below_step (by repeat (first | (with_reducible first | exact HB.out | apply below_alloc | apply pw_below_drewN | apply below_drew1) | exact HB.out)) hb); have n1_ := Aside0.mk (hbox); have n2_ := Aside0.mk ((by rw [hg]; exact (below_size (by repeat (first | (with_reducible first | exact HB.out | apply below_alloc | apply pw_below_drewN | apply below_drew1) | exact HB.out))) : w.heap.size ≤ gb154)); have n3_ := Aside0.mk ((by rw [hg]; exact (below_size (by repeat (first | (with_reducible first | exact HB.out | apply below_alloc | apply pw_below_drewN | apply below_drew1) | exact HB.out))) : w.heap.size ≤ gb154)); clear HB; have HB := n0_; have BK154 := n1_; have GW154 := n2_; have GE154 := n3_; clear n0_ n1_ n2_ n3_; clear hb hbox hg) | ((with_reducible refine gate_dst (N := 2) rfl ?_); refine box_event ?hg (N := 2) ?hd (cs := #[.int .i64 0, .int .i64 0, .slice none 0 0]) (t := 31) ?hr ?_; (case hd => rfl); (case hg => rfl); (case hr => first | (go_simp; done) | (go_simp; rfl)); intro gb155 hg w4 hbox hb; have n0_ := Aside0.mk (blk_below (g := gb154) (o := .cells #[.int .i64 a0_0, .int .i64 a0_1, .slice A0_2 l0_2.length c0_2] 55 (0, 0)) (by (with_reducible repeat (first | refine blk_drewN ?_ _ | refine blk_drew ?_ | refine blk_alloc ?_ _)); exact BK154.out) hb); have n1_ := Aside0.mk (below_step (by repeat (first | (with_reducible first | exact HB.out | apply below_alloc | apply pw_below_drewN | apply below_drew1 | refine below_set ?_ GE154.out) | exact HB.out)) hb); have n2_ := Aside0.mk (hbox); have n3_ := Aside0.mk ((by rw [hg]; exact (below_size (by repeat (first | (with_reducible first | exact HB.out | apply below_alloc | apply pw_below_drewN | apply below_drew1 | refine below_set ?_ GE154.out) | exact HB.out))) : w.heap.size ≤ gb155)); have n4_ := Aside0.mk ((by rw [hg]; exact (below_size (by repeat (first | (with_reducible first | exact HB.out | apply below_alloc | apply pw_below_drewN | apply below_drew1 | refine below_set ?_ GE154.out) | exact HB.out))) : w.heap.size ≤ gb155)); have n5_ := Aside0.mk ((by rw [hg]; exact Nat.ne_of_lt (blk_lt (g := gb154) (o := .cells #[.int .i64 a0_0, .int .i64 a0_1, .slice A0_2 l0_2.length c0_2] 55 (0, 0)) (by (with_reducible repeat (first | refine blk_drewN ?_ _ | refine blk_drew ?_ | refine blk_alloc ?_ _)); exact BK154.out)) : gb154 ≠ gb155)); have n6_ := Aside0.mk ((by rw [hg]; exact Nat.ne_of_gt (blk_lt (g := gb154) (o := .cells #[.int .i64 a0_0, .int .i64 a0_1, .slice A0_2 l0_2.length c0_2] 55 (0, 0)) (by (with_reducible repeat (first | refine blk_drewN ?_ _ | refine blk_drew ?_ | refine blk_alloc ?_ _)); exact BK154.out)) : gb155 ≠ gb154)); clear BK154; clear HB; have BK154 := n0_; have HB := n1_; have BK155 := n2_; have GW155 := n3_; have GE155 := n4_; have NB154_155 := n5_; have NB155_154 := n6_; clear n0_ n1_ n2_ n3_ n4_ n5_ n6_; clear hb hbox hg))
  have n0_ := Aside0.mk (blk_drew BK154.out)
  have n1_ := Aside0.mk (blk_drew BK155.out)
  have n2_ := Aside0.mk (below_drew1 HB.out)
  clear BK154
  clear BK155
  clear HB
  have BK154 := n0_
  have BK155 := n1_
  have HB := n2_
  clear n0_ n1_ n2_
  refine start_ (n := 10) (S := fun w' => w'.cell? ⟨gb154, 0, none⟩ = some (.int .i64 a0_0) ∧ w'.cell? ⟨gb154, 1, none⟩ = some (.int .i64 a0_1) ∧ w'.cell? ⟨gb154, 2, none⟩ = some (.slice A0_2 l0_2.length c0_2)) (ds := []) #[false, false, false, false, false, false, false, false, false, false] (by kernel_rfl) rfl rfl ⟨(blk_cell BK154.out 0).trans rfl, (blk_cell BK154.out 1).trans rfl, (blk_cell BK154.out 2).trans rfl⟩ (fun hHeld => ?_); refine with_tabW ostinatoref05_System_Made.tab1 ostinatoref05_System_Made.bits1 (fun HT_ HW_ => ?_)
  generalize w4.drew = w5 at BK154 BK155 HB hHeld ⊢
  refine pure_ (i := 0) (N := some 5) (v := ?_) (a' := ?_) #[true, false, false, false, false, false, false, false, false, false] rfl rfl (any_of HT_.out (by kernel_rfl)) (fun _ _ _ h => h) (Or.inl ⟨by rfl, ?_⟩) ?_ ?_
  rotate_left
  · intro w'
    go_simp
    with_reducible rfl
  rotate_left
  · simp only [Act.put, List.setIfInBounds_toArray, List.set_cons_zero, List.set_cons_succ, i64_w, i32_w]
    rfl
  refine pure_ (i := 4) (N := some 9) (v := ?_) (a' := ?_) #[true, false, false, false, true, false, false, false, false, false] rfl rfl (any_of HT_.out (by kernel_rfl)) (fun _ _ _ h => h) (Or.inl ⟨by rfl, ?_⟩) ?_ ?_
  rotate_left
  · intro w'
    go_simp
    with_reducible rfl
  rotate_left
  · simp only [Act.put, List.setIfInBounds_toArray, List.set_cons_zero, List.set_cons_succ, i64_w, i32_w]
    rfl
  refine take_ (i := 1) (N := some 6) (v := ?_) (a' := ?_) #[true, true, false, false, true, false, false, false, false, false] rfl rfl (take_ofW HT_.out HW_.out (by kernel_rfl)) (fun _ _ _ h => h) (Or.inl ⟨by rfl, ?_⟩) hHeld ?_ ?_
  rotate_left
  · rintro w' ⟨s0, s1, s2⟩
    go_simp
    with_reducible rfl
  rotate_left
  · simp only [Act.put, List.setIfInBounds_toArray, List.set_cons_zero, List.set_cons_succ, i64_w, i32_w]
    rfl
  refine take_ (i := 5) (N := some 10) (v := ?_) (a' := ?_) #[true, true, false, false, true, true, false, false, false, false] rfl rfl (take_ofW HT_.out HW_.out (by kernel_rfl)) (fun _ _ _ h => h) (Or.inl ⟨by rfl, ?_⟩) hHeld ?_ ?_
  rotate_left
  · rintro w' ⟨s0, s1, s2⟩
    go_simp
    with_reducible rfl
  rotate_left
  · simp only [Act.put, List.setIfInBounds_toArray, List.set_cons_zero, List.set_cons_succ, i64_w, i32_w]
    rfl
  refine pure_ (i := 6) (N := some 11) (v := ?_) (a' := ?_) #[true, true, false, false, true, true, true, false, false, false] rfl rfl (any_of HT_.out (by kernel_rfl)) (fun _ _ _ h => h) (Or.inl ⟨by rfl, ?_⟩) ?_ ?_
  rotate_left
  · intro w'
    go_simp
    with_reducible rfl
  rotate_left
  · simp only [Act.put, List.setIfInBounds_toArray, List.set_cons_zero, List.set_cons_succ, i64_w, i32_w]
    rfl
  refine join_ (σ := Nat) 1 #[true, true, true, true, true, true, true, true, true, false] (fun s_ => [(7, .int .i64 t156), (3, .pointer (some ⟨s_, 0, none⟩)), (8, .int .i64 (wrap64 (1 + t156))), (12, .agg #[.int .i64 (wrap64 (1 + t156)), .int .i64 (Go.bits .and .i64 a0_1 3), .slice none 0 0])]) (fun s_ w' => (w'.cell? ⟨gb154, 0, none⟩ = some (.int .i64 a0_0) ∧ w'.cell? ⟨gb154, 1, none⟩ = some (.int .i64 a0_1) ∧ w'.cell? ⟨gb154, 2, none⟩ = some (.slice A0_2 l0_2.length c0_2)) ∧ (w'.heap[gb154]? = some (.cells #[.int .i64 a0_0, .int .i64 a0_1, .slice A0_2 l0_2.length c0_2] 55 (0, 0))) ∧ (w'.heap[gb155]? = some (.cells #[.int .i64 0, .int .i64 0, .slice none 0 0] 31 (0, 0))) ∧ (w'.heap[s_]? = some (.cells #[.int .i64 0, .int .i64 0, .slice none 0 0] 31 (0, 0))) ∧ (w.heap.size ≤ s_) ∧ (w.heap.size ≤ s_) ∧ (gb154 ≠ s_) ∧ (s_ ≠ gb154) ∧ (gb155 ≠ s_) ∧ (s_ ≠ gb155) ∧ (Below w.heap.size w w')) ?_ ?_
  rotate_left
  · intro hCont
    refine two_ (i := 2) (j := 8) (Ni := some 7) (Nj := some 3) #[true, true, true, false, true, true, true, false, false, false] #[true, true, false, false, true, true, true, false, true, false] rfl rfl rfl rfl (two_of HT_.out (by kernel_rfl)) (by decide) (by decide) (fun K hK => ?_) (fun K hK => ?_)
    · skip
      refine goes_ Tryd.func28 (by kernel_rfl) rfl #[.int .i64 a0_0, .int .i64 8] (by rfl) rfl rfl (by (try simp only [List.map_toArray, List.map_cons, List.map_nil]); first | done | rfl | (simp only [List.length_drop, List.length_take]; rfl)) ?_
      with_reducible refine (ostinatoref05_rest.calls a0_0 8 t156 _ A2.out).mono ?_
      rintro e w' ⟨rfl, ⟨nd, rfl⟩⟩
      refine ⟨_, rfl, ?_⟩
      refine hK.out _ _ ⟨(blk_cell BK154.out 0).trans rfl, (blk_cell BK154.out 1).trans rfl, (blk_cell BK154.out 2).trans rfl⟩ (fun hHeld => ?_)
      clear hK K
      refine norm_ (a' := ?_) ?_ ?_
      rotate_left
      · show Act.put _ (some 7) _ = _
        simp only [Act.put, List.setIfInBounds_toArray, List.set_cons_zero, List.set_cons_succ, i64_w, i32_w]
        rfl
      refine pure_ (i := 3) (N := some 8) (v := ?_) (a' := ?_) #[true, true, true, true, true, true, true, false, false, false] rfl rfl (any_of HT_.out (by kernel_rfl)) (fun _ _ _ h => h) (Or.inl ⟨by rfl, ?_⟩) ?_ ?_
      rotate_left
      · intro w'
        go_simp
        with_reducible rfl
      rotate_left
      · simp only [Act.put, List.setIfInBounds_toArray, List.set_cons_zero, List.set_cons_succ, i64_w, i32_w]
        rfl
      refine pure_ (i := 7) (N := some 12) (v := ?_) (a' := ?_) #[true, true, true, true, true, true, true, true, false, false] rfl rfl (any_of HT_.out (by kernel_rfl)) (fun _ _ _ h => h) (Or.inl ⟨by rfl, ?_⟩) ?_ ?_
      rotate_left
      · intro w'
        go_simp
        with_reducible rfl
      rotate_left
      · simp only [Act.put, List.setIfInBounds_toArray, List.set_cons_zero, List.set_cons_succ, i64_w, i32_w]
        rfl
      refine one_ (i := 8) (N := some 3) #[true, true, true, true, true, true, true, true, true, false] rfl rfl (one_of HT_.out (by kernel_rfl)) (by decide) (fun K hK => ?_)
      refine box_step ?hg (N := 3) ?hd (cs := #[.int .i64 0, .int .i64 0, .slice none 0 0]) (t := 31) ?hr ?_; (case hd => rfl); (case hg => rfl); (case hr => first | (go_simp; done) | (go_simp; rfl))
      intro gb157 hg w6 hbox hb
      have n0_ := Aside0.mk (blk_below (g := gb154) (o := .cells #[.int .i64 a0_0, .int .i64 a0_1, .slice A0_2 l0_2.length c0_2] 55 (0, 0)) (by (with_reducible repeat (first | refine blk_drewN ?_ _ | refine blk_drew ?_ | refine blk_alloc ?_ _)); exact BK154.out) hb)
      have n1_ := Aside0.mk (blk_below (g := gb155) (o := .cells #[.int .i64 0, .int .i64 0, .slice none 0 0] 31 (0, 0)) (by (with_reducible repeat (first | refine blk_drewN ?_ _ | refine blk_drew ?_ | refine blk_alloc ?_ _)); exact BK155.out) hb)
      have n2_ := Aside0.mk (below_step (by repeat (first | (with_reducible first | exact HB.out | apply below_alloc | apply pw_below_drewN | apply below_drew1 | refine below_set ?_ GE154.out | refine below_set ?_ GE155.out) | exact HB.out)) hb)
      have n3_ := Aside0.mk (hbox)
      have n4_ := Aside0.mk ((by rw [hg]; exact (below_size (by repeat (first | (with_reducible first | exact HB.out | apply below_alloc | apply pw_below_drewN | apply below_drew1 | refine below_set ?_ GE154.out | refine below_set ?_ GE155.out) | exact HB.out))) : w.heap.size ≤ gb157))
      have n5_ := Aside0.mk ((by rw [hg]; exact (below_size (by repeat (first | (with_reducible first | exact HB.out | apply below_alloc | apply pw_below_drewN | apply below_drew1 | refine below_set ?_ GE154.out | refine below_set ?_ GE155.out) | exact HB.out))) : w.heap.size ≤ gb157))
      have n6_ := Aside0.mk ((by rw [hg]; exact Nat.ne_of_lt (blk_lt (g := gb154) (o := .cells #[.int .i64 a0_0, .int .i64 a0_1, .slice A0_2 l0_2.length c0_2] 55 (0, 0)) (by (with_reducible repeat (first | refine blk_drewN ?_ _ | refine blk_drew ?_ | refine blk_alloc ?_ _)); exact BK154.out)) : gb154 ≠ gb157))
      have n7_ := Aside0.mk ((by rw [hg]; exact Nat.ne_of_gt (blk_lt (g := gb154) (o := .cells #[.int .i64 a0_0, .int .i64 a0_1, .slice A0_2 l0_2.length c0_2] 55 (0, 0)) (by (with_reducible repeat (first | refine blk_drewN ?_ _ | refine blk_drew ?_ | refine blk_alloc ?_ _)); exact BK154.out)) : gb157 ≠ gb154))
      have n8_ := Aside0.mk ((by rw [hg]; exact Nat.ne_of_lt (blk_lt (g := gb155) (o := .cells #[.int .i64 0, .int .i64 0, .slice none 0 0] 31 (0, 0)) (by (with_reducible repeat (first | refine blk_drewN ?_ _ | refine blk_drew ?_ | refine blk_alloc ?_ _)); exact BK155.out)) : gb155 ≠ gb157))
      have n9_ := Aside0.mk ((by rw [hg]; exact Nat.ne_of_gt (blk_lt (g := gb155) (o := .cells #[.int .i64 0, .int .i64 0, .slice none 0 0] 31 (0, 0)) (by (with_reducible repeat (first | refine blk_drewN ?_ _ | refine blk_drew ?_ | refine blk_alloc ?_ _)); exact BK155.out)) : gb157 ≠ gb155))
      clear BK154
      clear BK155
      clear HB
      have BK154 := n0_
      have BK155 := n1_
      have HB := n2_
      have BK157 := n3_
      have GW157 := n4_
      have GE157 := n5_
      have NB154_157 := n6_
      have NB157_154 := n7_
      have NB155_157 := n8_
      have NB157_155 := n9_
      clear n0_ n1_ n2_ n3_ n4_ n5_ n6_ n7_ n8_ n9_
      clear hb hbox hg
      refine hK.out _ _ ⟨(blk_cell BK154.out 0).trans rfl, (blk_cell BK154.out 1).trans rfl, (blk_cell BK154.out 2).trans rfl⟩ (fun hHeld => ?_)
      clear hK K
      refine norm_ (a' := ?_) ?_ ?_
      rotate_left
      · show Act.put _ (some 3) _ = _
        simp only [Act.put, List.setIfInBounds_toArray, List.set_cons_zero, List.set_cons_succ, i64_w, i32_w]
        rfl
      exact norm_ (by simp only [putAll, Act.put, List.setIfInBounds_toArray, List.set_cons_zero, List.set_cons_succ]) (hCont (gb157) _ ⟨hHeld, (by (with_reducible repeat (first | refine blk_drewN ?_ _ | refine blk_drew ?_ | refine blk_alloc ?_ _)); exact BK154.out), (by (with_reducible repeat (first | refine blk_drewN ?_ _ | refine blk_drew ?_ | refine blk_alloc ?_ _)); exact BK155.out), (by (with_reducible repeat (first | refine blk_drewN ?_ _ | refine blk_drew ?_ | refine blk_alloc ?_ _)); exact BK157.out), GW157.out, GE157.out, NB154_157.out, NB157_154.out, NB155_157.out, NB157_155.out, (by repeat (first | (with_reducible first | exact HB.out | apply below_alloc | apply pw_below_drewN | apply below_drew1 | refine below_set ?_ GE154.out | refine below_set ?_ GE155.out | refine below_set ?_ GE157.out) | exact HB.out))⟩)
    · skip
      refine box_step ?hg (N := 3) ?hd (cs := #[.int .i64 0, .int .i64 0, .slice none 0 0]) (t := 31) ?hr ?_; (case hd => rfl); (case hg => rfl); (case hr => first | (go_simp; done) | (go_simp; rfl))
      intro gb157 hg w6 hbox hb
      have n0_ := Aside0.mk (blk_below (g := gb154) (o := .cells #[.int .i64 a0_0, .int .i64 a0_1, .slice A0_2 l0_2.length c0_2] 55 (0, 0)) (by (with_reducible repeat (first | refine blk_drewN ?_ _ | refine blk_drew ?_ | refine blk_alloc ?_ _)); exact BK154.out) hb)
      have n1_ := Aside0.mk (blk_below (g := gb155) (o := .cells #[.int .i64 0, .int .i64 0, .slice none 0 0] 31 (0, 0)) (by (with_reducible repeat (first | refine blk_drewN ?_ _ | refine blk_drew ?_ | refine blk_alloc ?_ _)); exact BK155.out) hb)
      have n2_ := Aside0.mk (below_step (by repeat (first | (with_reducible first | exact HB.out | apply below_alloc | apply pw_below_drewN | apply below_drew1 | refine below_set ?_ GE154.out | refine below_set ?_ GE155.out) | exact HB.out)) hb)
      have n3_ := Aside0.mk (hbox)
      have n4_ := Aside0.mk ((by rw [hg]; exact (below_size (by repeat (first | (with_reducible first | exact HB.out | apply below_alloc | apply pw_below_drewN | apply below_drew1 | refine below_set ?_ GE154.out | refine below_set ?_ GE155.out) | exact HB.out))) : w.heap.size ≤ gb157))
      have n5_ := Aside0.mk ((by rw [hg]; exact (below_size (by repeat (first | (with_reducible first | exact HB.out | apply below_alloc | apply pw_below_drewN | apply below_drew1 | refine below_set ?_ GE154.out | refine below_set ?_ GE155.out) | exact HB.out))) : w.heap.size ≤ gb157))
      have n6_ := Aside0.mk ((by rw [hg]; exact Nat.ne_of_lt (blk_lt (g := gb154) (o := .cells #[.int .i64 a0_0, .int .i64 a0_1, .slice A0_2 l0_2.length c0_2] 55 (0, 0)) (by (with_reducible repeat (first | refine blk_drewN ?_ _ | refine blk_drew ?_ | refine blk_alloc ?_ _)); exact BK154.out)) : gb154 ≠ gb157))
      have n7_ := Aside0.mk ((by rw [hg]; exact Nat.ne_of_gt (blk_lt (g := gb154) (o := .cells #[.int .i64 a0_0, .int .i64 a0_1, .slice A0_2 l0_2.length c0_2] 55 (0, 0)) (by (with_reducible repeat (first | refine blk_drewN ?_ _ | refine blk_drew ?_ | refine blk_alloc ?_ _)); exact BK154.out)) : gb157 ≠ gb154))
      have n8_ := Aside0.mk ((by rw [hg]; exact Nat.ne_of_lt (blk_lt (g := gb155) (o := .cells #[.int .i64 0, .int .i64 0, .slice none 0 0] 31 (0, 0)) (by (with_reducible repeat (first | refine blk_drewN ?_ _ | refine blk_drew ?_ | refine blk_alloc ?_ _)); exact BK155.out)) : gb155 ≠ gb157))
      have n9_ := Aside0.mk ((by rw [hg]; exact Nat.ne_of_gt (blk_lt (g := gb155) (o := .cells #[.int .i64 0, .int .i64 0, .slice none 0 0] 31 (0, 0)) (by (with_reducible repeat (first | refine blk_drewN ?_ _ | refine blk_drew ?_ | refine blk_alloc ?_ _)); exact BK155.out)) : gb157 ≠ gb155))
      clear BK154
      clear BK155
      clear HB
      have BK154 := n0_
      have BK155 := n1_
      have HB := n2_
      have BK157 := n3_
      have GW157 := n4_
      have GE157 := n5_
      have NB154_157 := n6_
      have NB157_154 := n7_
      have NB155_157 := n8_
      have NB157_155 := n9_
      clear n0_ n1_ n2_ n3_ n4_ n5_ n6_ n7_ n8_ n9_
      clear hb hbox hg
      refine hK.out _ _ ⟨(blk_cell BK154.out 0).trans rfl, (blk_cell BK154.out 1).trans rfl, (blk_cell BK154.out 2).trans rfl⟩ (fun hHeld => ?_)
      clear hK K
      refine norm_ (a' := ?_) ?_ ?_
      rotate_left
      · show Act.put _ (some 3) _ = _
        simp only [Act.put, List.setIfInBounds_toArray, List.set_cons_zero, List.set_cons_succ, i64_w, i32_w]
        rfl
      refine one_ (i := 2) (N := some 7) #[true, true, true, false, true, true, true, false, true, false] rfl rfl (one_of HT_.out (by kernel_rfl)) (by decide) (fun K hK => ?_)
      refine goes_ Tryd.func28 (by kernel_rfl) rfl #[.int .i64 a0_0, .int .i64 8] (by rfl) rfl rfl (by (try simp only [List.map_toArray, List.map_cons, List.map_nil]); first | done | rfl | (simp only [List.length_drop, List.length_take]; rfl)) ?_
      with_reducible refine (ostinatoref05_rest.calls a0_0 8 t156 _ A2.out).mono ?_
      rintro e w' ⟨rfl, ⟨nd, rfl⟩⟩
      refine ⟨_, rfl, ?_⟩
      refine hK.out _ _ ⟨(blk_cell BK154.out 0).trans rfl, (blk_cell BK154.out 1).trans rfl, (blk_cell BK154.out 2).trans rfl⟩ (fun hHeld => ?_)
      clear hK K
      refine norm_ (a' := ?_) ?_ ?_
      rotate_left
      · show Act.put _ (some 7) _ = _
        simp only [Act.put, List.setIfInBounds_toArray, List.set_cons_zero, List.set_cons_succ, i64_w, i32_w]
        rfl
      refine pure_ (i := 3) (N := some 8) (v := ?_) (a' := ?_) #[true, true, true, true, true, true, true, false, true, false] rfl rfl (any_of HT_.out (by kernel_rfl)) (fun _ _ _ h => h) (Or.inl ⟨by rfl, ?_⟩) ?_ ?_
      rotate_left
      · intro w'
        go_simp
        with_reducible rfl
      rotate_left
      · simp only [Act.put, List.setIfInBounds_toArray, List.set_cons_zero, List.set_cons_succ, i64_w, i32_w]
        rfl
      refine pure_ (i := 7) (N := some 12) (v := ?_) (a' := ?_) #[true, true, true, true, true, true, true, true, true, false] rfl rfl (any_of HT_.out (by kernel_rfl)) (fun _ _ _ h => h) (Or.inl ⟨by rfl, ?_⟩) ?_ ?_
      rotate_left
      · intro w'
        go_simp
        with_reducible rfl
      rotate_left
      · simp only [Act.put, List.setIfInBounds_toArray, List.set_cons_zero, List.set_cons_succ, i64_w, i32_w]
        rfl
      exact norm_ (by simp only [putAll, Act.put, List.setIfInBounds_toArray, List.set_cons_zero, List.set_cons_succ]) (hCont (gb157) _ ⟨hHeld, (by (with_reducible repeat (first | refine blk_drewN ?_ _ | refine blk_drew ?_ | refine blk_alloc ?_ _)); exact BK154.out), (by (with_reducible repeat (first | refine blk_drewN ?_ _ | refine blk_drew ?_ | refine blk_alloc ?_ _)); exact BK155.out), (by (with_reducible repeat (first | refine blk_drewN ?_ _ | refine blk_drew ?_ | refine blk_alloc ?_ _)); exact BK157.out), GW157.out, GE157.out, NB154_157.out, NB157_154.out, NB155_157.out, NB157_155.out, (by repeat (first | (with_reducible first | exact HB.out | apply below_alloc | apply pw_below_drewN | apply below_drew1 | refine below_set ?_ GE154.out | refine below_set ?_ GE155.out | refine below_set ?_ GE157.out) | exact HB.out))⟩)
  rintro gb157 w7 ⟨hS_, h0_, h1_, h2_, h3_, h4_, h5_, h6_, h7_, h8_, h9_⟩
  have n0_ : Aside0 (w7.heap[gb154]? = some (.cells #[.int .i64 a0_0, .int .i64 a0_1, .slice A0_2 l0_2.length c0_2] 55 (0, 0))) := ⟨h0_⟩
  have n1_ : Aside0 (w7.heap[gb155]? = some (.cells #[.int .i64 0, .int .i64 0, .slice none 0 0] 31 (0, 0))) := ⟨h1_⟩
  have n2_ : Aside0 (w7.heap[gb157]? = some (.cells #[.int .i64 0, .int .i64 0, .slice none 0 0] 31 (0, 0))) := ⟨h2_⟩
  have n3_ : Aside0 (w.heap.size ≤ gb157) := ⟨h3_⟩
  have n4_ : Aside0 (w.heap.size ≤ gb157) := ⟨h4_⟩
  have n5_ : Aside0 (gb154 ≠ gb157) := ⟨h5_⟩
  have n6_ : Aside0 (gb157 ≠ gb154) := ⟨h6_⟩
  have n7_ : Aside0 (gb155 ≠ gb157) := ⟨h7_⟩
  have n8_ : Aside0 (gb157 ≠ gb155) := ⟨h8_⟩
  have n9_ : Aside0 (Below w.heap.size w w7) := ⟨h9_⟩
  clear BK154
  clear BK155
  clear HB
  clear h0_ h1_ h2_ h3_ h4_ h5_ h6_ h7_ h8_ h9_
  have BK154 := n0_
  have BK155 := n1_
  have BK157 := n2_
  have GW157 := n3_
  have GE157 := n4_
  have NB154_157 := n5_
  have NB157_154 := n6_
  have NB155_157 := n7_
  have NB157_155 := n8_
  have HB := n9_
  clear n0_ n1_ n2_ n3_ n4_ n5_ n6_ n7_ n8_ n9_
  have hHeld : w7.cell? ⟨gb154, 0, none⟩ = some (.int .i64 a0_0) ∧ w7.cell? ⟨gb154, 1, none⟩ = some (.int .i64 a0_1) ∧ w7.cell? ⟨gb154, 2, none⟩ = some (.slice A0_2 l0_2.length c0_2) := hS_
  refine norm_ (a' := ?_) ?_ ?_
  rotate_left
  · simp only [putAll, Act.put, List.setIfInBounds_toArray, List.set_cons_zero, List.set_cons_succ]
    rfl
  refine one_ (i := 9) (N := none) #[true, true, true, true, true, true, true, true, true, true] rfl rfl (one_of HT_.out (by kernel_rfl)) (by decide) (fun K hK => ?_)
  have hs8 : w7.cell? ⟨gb157, 0, none⟩ = some (.int .i64 0) := (blk_cell BK157.out 0).trans rfl
  have hfs8 := blk_frozen BK157.out 0
  have hns8_0 := NB154_157.out
  have hns8_1 := NB155_157.out
  have hms8_0 := NB157_154.out
  have hms8_1 := NB157_155.out
  have hs9 : w7.cell? ⟨gb157, 1, none⟩ = some (.int .i64 0) := (blk_cell BK157.out 1).trans rfl
  have hfs9 := blk_frozen BK157.out 1
  have hns9_0 := NB154_157.out
  have hns9_1 := NB155_157.out
  have hms9_0 := NB157_154.out
  have hms9_1 := NB157_155.out
  have hs10 : w7.cell? ⟨gb157, 2, none⟩ = some (.slice none 0 0) := (blk_cell BK157.out 2).trans rfl
  have hfs10 := blk_frozen BK157.out 2
  have hns10_0 := NB154_157.out
  have hns10_1 := NB155_157.out
  have hms10_0 := NB157_154.out
  have hms10_1 := NB157_155.out
  refine skip_ (w1 := ?_) (by rfl) rfl ?_ ?_
  rotate_left
  · go_simp
    rfl
  refine hK.out _ _ ⟨((cell_far (p := ⟨gb157, _, none⟩) NB154_157.out _).trans (((cell_far (p := ⟨gb157, _, none⟩) NB154_157.out _).trans (((cell_far (p := ⟨gb157, _, none⟩) NB154_157.out _).trans (hHeld.1)))))), ((cell_far (p := ⟨gb157, _, none⟩) NB154_157.out _).trans (((cell_far (p := ⟨gb157, _, none⟩) NB154_157.out _).trans (((cell_far (p := ⟨gb157, _, none⟩) NB154_157.out _).trans (hHeld.2.1)))))), ((cell_far (p := ⟨gb157, _, none⟩) NB154_157.out _).trans (((cell_far (p := ⟨gb157, _, none⟩) NB154_157.out _).trans (((cell_far (p := ⟨gb157, _, none⟩) NB154_157.out _).trans (hHeld.2.2))))))⟩ (fun hHeld => ?_)
  clear hK K
  refine done_ (done_of HT_.out (by kernel_rfl)) ?_
  try go_wp2
  go_loopg [4] k (fun kq v4 w' => ∃ (x4_1 : Int) (x158002_1 : List (S85)) (u158002 : Value), v4 = .int .i64 x4_1 ∧ Aside0 (ostinatoref05_System_Made.l0 kq x4_1 a0_0 a0_1 l0_2 (wrap64 (1 + t156)) (Go.bits .and .i64 a0_1 3) x158002_1 = some (r1, r2, r3)) ∧ Aside0 (kq ≤ k) ∧ Aside0 (Kd.S k85 85 w' w.heap.size (fun _ => True) u158002 x158002_1) ∧ Aside0 (w'.heap[gb154]? = some (.cells #[.int .i64 a0_0, .int .i64 a0_1, (.slice A0_2 l0_2.length c0_2)] 55 (0, 0))) ∧ Aside0 (w'.heap[gb155]? = some (.cells #[.int .i64 0, .int .i64 0, (.slice none 0 0)] 31 (0, 0))) ∧ Aside0 (w'.heap[gb157]? = some (.cells #[.int .i64 (wrap64 (1 + t156)), .int .i64 (Go.bits .and .i64 a0_1 3), u158002] 31 (0, 0))) ∧ Aside0 (Below w.heap.size w w'))
  case atStart => exact ⟨(0), (([] : List (S85))), (.slice none 0 0), (by first | rfl | (simp; done) | (simp [*]; done)), H', ⟨Nat.le_refl _⟩, ⟨by first | exact Kd.S_nil _ _ _ _ _ | exact Kd.N_nil _ _ _ _ _ | exact Kd.V_nil _ _ _ _ _ | exact Kd.Q_nil _ _ _ _ _ | exact Kd.R_nil _ _ _ _ _⟩, ⟨by (with_reducible repeat (first | refine blk_drewN ?_ _ | refine blk_drew ?_ | refine blk_alloc ?_ _)); refine blk_far ?_ NB154_157.out _; (with_reducible repeat (first | refine blk_drewN ?_ _ | refine blk_drew ?_ | refine blk_alloc ?_ _)); refine blk_far ?_ NB154_157.out _; (with_reducible repeat (first | refine blk_drewN ?_ _ | refine blk_drew ?_ | refine blk_alloc ?_ _)); refine blk_far ?_ NB154_157.out _; (with_reducible repeat (first | refine blk_drewN ?_ _ | refine blk_drew ?_ | refine blk_alloc ?_ _)); exact BK154.out⟩, ⟨by (with_reducible repeat (first | refine blk_drewN ?_ _ | refine blk_drew ?_ | refine blk_alloc ?_ _)); refine blk_far ?_ NB155_157.out _; (with_reducible repeat (first | refine blk_drewN ?_ _ | refine blk_drew ?_ | refine blk_alloc ?_ _)); refine blk_far ?_ NB155_157.out _; (with_reducible repeat (first | refine blk_drewN ?_ _ | refine blk_drew ?_ | refine blk_alloc ?_ _)); refine blk_far ?_ NB155_157.out _; (with_reducible repeat (first | refine blk_drewN ?_ _ | refine blk_drew ?_ | refine blk_alloc ?_ _)); exact BK155.out⟩, ⟨by (with_reducible repeat (first | refine blk_drewN ?_ _ | refine blk_drew ?_ | refine blk_alloc ?_ _)); refine blk_put (cs := #[.int .i64 (wrap64 (1 + t156)), .int .i64 (Go.bits .and .i64 a0_1 3), .slice none 0 0]) ?_ 2 _ rfl; (with_reducible repeat (first | refine blk_drewN ?_ _ | refine blk_drew ?_ | refine blk_alloc ?_ _)); refine blk_put (cs := #[.int .i64 (wrap64 (1 + t156)), .int .i64 0, .slice none 0 0]) ?_ 1 _ rfl; (with_reducible repeat (first | refine blk_drewN ?_ _ | refine blk_drew ?_ | refine blk_alloc ?_ _)); refine blk_put (cs := #[.int .i64 0, .int .i64 0, .slice none 0 0]) ?_ 0 _ rfl; (with_reducible repeat (first | refine blk_drewN ?_ _ | refine blk_drew ?_ | refine blk_alloc ?_ _)); exact BK157.out⟩, ⟨by repeat (first | (with_reducible first | exact HB.out | apply below_alloc | apply pw_below_drewN | apply below_drew1 | refine below_set ?_ GE154.out | refine below_set ?_ GE155.out | refine below_set ?_ GE157.out) | exact HB.out)⟩⟩
  case round =>
    clear H'
    try clear c1
    try clear c2
    try clear p2
    try clear p6
    obtain ⟨x4_1, x158002_1, u158002, rfl, HA, HK1, HO_158002, BK154, BK155, BK157, HB⟩ := hrel
    cases gk with
    | zero => exact absurd HA.out (by simp [ostinatoref05_System_Made.l0])
    | succ k1 =>
      have H := HA.out
      clear HA
      simp only [ostinatoref05_System_Made.l0] at H
      by_cases c11 : x4_1 < (l0_2.length : Int)
      · rw [if_pos c11] at H
        have c11b0 : decide (x4_1 < (l0_2.length : Int)) = true := decide_eq_true c11
        clear c11
        by_cases c12 : x4_1 < 6
        · rw [if_pos c12] at H
          have c12b0 : decide (x4_1 < 6) = true := decide_eq_true c12
          clear c12
          by_cases c13 : 0 ≤ x4_1
          · rw [if_pos c13] at H
            have c13b0 : decide (0 ≤ x4_1) = true := decide_eq_true c13
            clear c13
            replace H := Option.bind_eq_some_iff.mp H
            obtain ⟨⟨t159, t160, t161, t162, t163, t164, t167⟩, A140, H⟩ := H
            replace H : (if x158002_1.length < 1599289640401 then (ostinatoref05_System_Made.l0 k1 (wrap64 (x4_1 + 1)) a0_0 a0_1 l0_2 (wrap64 (1 + t156)) (Go.bits .and .i64 a0_1 3) (x158002_1 ++ [(⟨t159, t160, t161, t162, t163, t164, t167⟩ : S85)])) else (none)) = some (r1, r2, r3) := H
            have A14 := Aside0.mk A140
            clear A140
            by_cases c15 : x158002_1.length < 1599289640401
            · rw [if_pos c15] at H
              have LMc15 := Aside0.mk c15
              clear c15
              obtain ⟨y170, hy170⟩ : ∃ y_ : List (S85), y_ = (x158002_1 ++ [(⟨t159, t160, t161, t162, t163, t164, t167⟩ : S85)]) := ⟨_, rfl⟩
              replace H : (ostinatoref05_System_Made.l0 k1 (wrap64 (x4_1 + 1)) a0_0 a0_1 l0_2 (wrap64 (1 + t156)) (Go.bits .and .i64 a0_1 3) y170) = some (r1, r2, r3) := by first | (rw [hy170]; with_reducible exact H) | (have H2_ := (Option.bind_some _ _).symm.trans H; rw [hy170]; with_reducible exact H2_) | (have H2_ := (Option.bind_some _ _).symm.trans H; with_reducible exact H2_) | with_reducible exact H | (rw [hy170]; exact H) | exact H
              have Ny170 := Aside0.mk hy170
              clear hy170
              have H' := Aside0.mk H
              clear H
              have hnb16 := NB154_155.out
              have hnc16 := NB155_154.out
              have hnb17 := NB154_157.out
              have hnc17 := NB157_154.out
              have hcz18_0 : wr.cell? ⟨gb154, 0, none⟩ = some (.int .i64 a0_0) := (blk_cell BK154.out 0).trans rfl
              have hcz18_1 : wr.cell? ⟨gb154, 1, none⟩ = some (.int .i64 a0_1) := (blk_cell BK154.out 1).trans rfl
              have hcz18_2 : wr.cell? ⟨gb154, 2, none⟩ = some (.slice A0_2 l0_2.length c0_2) := (blk_cell BK154.out 2).trans rfl
              have hfz18_0 := blk_frozen BK154.out 0
              have hfz18_1 := blk_frozen BK154.out 1
              have hfz18_2 := blk_frozen BK154.out 2
              try go_wp2
              have n0_ := Aside0.mk (Kd.S_drew HO_158002.out)
              have n1_ := Aside0.mk (blk_drew BK154.out)
              have n2_ := Aside0.mk (blk_drew BK155.out)
              have n3_ := Aside0.mk (blk_drew BK157.out)
              have n4_ := Aside0.mk (below_drew1 HB.out)
              clear HO_158002
              clear BK154
              clear BK155
              clear BK157
              clear HB
              have HO_158002 := n0_
              have BK154 := n1_
              have BK155 := n2_
              have BK157 := n3_
              have HB := n4_
              clear n0_ n1_ n2_ n3_ n4_
              have p158 : 0 ≤ (x4_1 : Int) := of_decide_eq_true (by first | (with_reducible assumption) | assumption)
              have q158 : x4_1 < (l0_2.length : Int) := of_decide_eq_true (by first | (with_reducible assumption) | assumption)
              obtain ⟨ad158, A158_5, c158_5, e158, hx158_0, hx158_1, hx158_2, hx158_3, hx158_4, hx158_5, hl158_5, hi158_5⟩ := at_T57 HR0_2.out x4_1 p158 q158
              have hw158_5 := hx158_5
              have hw158_4 := hx158_4
              have hw158_3 := hx158_3
              have hw158_2 := hx158_2
              have hw158_1 := hx158_1
              have hw158_0 := hx158_0
              cases e158
              replace hx158_0 := (HB.out.cell (World.block_lt_of_cell? w _ hx158_0)).trans hx158_0
              replace hx158_1 := (HB.out.cell (World.block_lt_of_cell? w _ hx158_1)).trans hx158_1
              replace hx158_2 := (HB.out.cell (World.block_lt_of_cell? w _ hx158_2)).trans hx158_2
              replace hx158_3 := (HB.out.cell (World.block_lt_of_cell? w _ hx158_3)).trans hx158_3
              replace hx158_4 := (HB.out.cell (World.block_lt_of_cell? w _ hx158_4)).trans hx158_4
              replace hx158_5 := (HB.out.cell (World.block_lt_of_cell? w _ hx158_5)).trans hx158_5
              have HR158_5 := Aside0.mk hi158_5
              have HC158_5 := Aside0.mk hl158_5
              clear hi158_5 hl158_5
              replace p158 := eq_true p158
              replace q158 := eq_true q158
              refine start_ (n := 15) (S := fun w' => w'.cell? ⟨gb157, 0, none⟩ = some (.int .i64 (wrap64 (1 + t156))) ∧ w'.cell? ⟨gb157, 1, none⟩ = some (.int .i64 (Go.bits .and .i64 a0_1 3)) ∧ w'.cell? ⟨gb157, 2, none⟩ = some (u158002) ∧ w'.cell? ⟨gb154, 0, none⟩ = some (.int .i64 a0_0) ∧ w'.cell? ⟨gb154, 1, none⟩ = some (.int .i64 a0_1) ∧ w'.cell? ⟨gb154, 2, none⟩ = some (.slice (some ad158) l0_2.length c0_2) ∧ w'.cell? (ad158.add ((x4_1).toNat * 6)) = some (.int .i64 ((rd_T57 l0_2 x4_1).f0)) ∧ w'.cell? ⟨(ad158.add ((x4_1).toNat * 6)).block, (ad158.add ((x4_1).toNat * 6)).off + 1, none⟩ = some (.int .i64 ((rd_T57 l0_2 x4_1).f1)) ∧ w'.cell? ⟨(ad158.add ((x4_1).toNat * 6)).block, (ad158.add ((x4_1).toNat * 6)).off + 2, none⟩ = some (.int .i64 ((rd_T57 l0_2 x4_1).f2)) ∧ w'.cell? ⟨(ad158.add ((x4_1).toNat * 6)).block, (ad158.add ((x4_1).toNat * 6)).off + 3, none⟩ = some (.int .i64 ((rd_T57 l0_2 x4_1).f3)) ∧ w'.cell? ⟨(ad158.add ((x4_1).toNat * 6)).block, (ad158.add ((x4_1).toNat * 6)).off + 4, none⟩ = some (.int .i64 ((rd_T57 l0_2 x4_1).f4)) ∧ w'.cell? ⟨(ad158.add ((x4_1).toNat * 6)).block, (ad158.add ((x4_1).toNat * 6)).off + 5, none⟩ = some (.slice A158_5 ((rd_T57 l0_2 x4_1).f5).length c158_5)) (ds := [14]) #[false, false, false, false, false, false, false, false, false, false, false, false, false, false, false] (by kernel_rfl) rfl rfl ⟨(blk_cell BK157.out 0).trans rfl, (blk_cell BK157.out 1).trans rfl, (blk_cell BK157.out 2).trans rfl, (blk_cell BK154.out 0).trans rfl, (blk_cell BK154.out 1).trans rfl, (blk_cell BK154.out 2).trans rfl, ((HB.out.cell (World.block_lt_of_cell? w _ hw158_0)).trans hw158_0), ((HB.out.cell (World.block_lt_of_cell? w _ hw158_1)).trans hw158_1), ((HB.out.cell (World.block_lt_of_cell? w _ hw158_2)).trans hw158_2), ((HB.out.cell (World.block_lt_of_cell? w _ hw158_3)).trans hw158_3), ((HB.out.cell (World.block_lt_of_cell? w _ hw158_4)).trans hw158_4), ((HB.out.cell (World.block_lt_of_cell? w _ hw158_5)).trans hw158_5)⟩ (fun hHeld => ?_); refine with_tabW ostinatoref05_System_Made.tab5 ostinatoref05_System_Made.bits5 (fun HT_ HW_ => ?_)
              generalize wr.drew = w19 at HO_158002 BK154 BK155 BK157 HB HR158_5 hx158_0 hx158_1 hx158_2 hx158_3 hx158_4 hx158_5 hHeld ⊢
              refine pure_ (i := 0) (N := some 24) (v := ?_) (a' := ?_) #[true, false, false, false, false, false, false, false, false, false, false, false, false, false, false] rfl rfl (any_of HT_.out (by kernel_rfl)) (fun _ _ _ h => h) (Or.inl ⟨by rfl, ?_⟩) ?_ ?_
              rotate_left
              · intro w'
                go_simp
                with_reducible rfl
              rotate_left
              · simp only [Act.put, List.setIfInBounds_toArray, List.set_cons_zero, List.set_cons_succ, i64_w, i32_w]
                rfl
              refine pure_ (i := 2) (N := some 26) (v := ?_) (a' := ?_) #[true, false, true, false, false, false, false, false, false, false, false, false, false, false, false] rfl rfl (any_of HT_.out (by kernel_rfl)) (fun _ _ _ h => h) (Or.inl ⟨by rfl, ?_⟩) ?_ ?_
              rotate_left
              · intro w'
                go_simp
                with_reducible rfl
              rotate_left
              · simp only [Act.put, List.setIfInBounds_toArray, List.set_cons_zero, List.set_cons_succ, i64_w, i32_w]
                rfl
              refine pure_ (i := 4) (N := some 28) (v := ?_) (a' := ?_) #[true, false, true, false, true, false, false, false, false, false, false, false, false, false, false] rfl rfl (any_of HT_.out (by kernel_rfl)) (fun _ _ _ h => h) (Or.inl ⟨by rfl, ?_⟩) ?_ ?_
              rotate_left
              · intro w'
                go_simp
                with_reducible rfl
              rotate_left
              · simp only [Act.put, List.setIfInBounds_toArray, List.set_cons_zero, List.set_cons_succ, i64_w, i32_w]
                rfl
              refine pure_ (i := 7) (N := some 31) (v := ?_) (a' := ?_) #[true, false, true, false, true, false, false, true, false, false, false, false, false, false, false] rfl rfl (any_of HT_.out (by kernel_rfl)) (fun _ _ _ h => h) (Or.inl ⟨by rfl, ?_⟩) ?_ ?_
              rotate_left
              · intro w'
                go_simp
                with_reducible rfl
              rotate_left
              · simp only [Act.put, List.setIfInBounds_toArray, List.set_cons_zero, List.set_cons_succ, i64_w, i32_w]
                rfl
              refine pure_ (i := 8) (N := some 32) (v := ?_) (a' := ?_) #[true, false, true, false, true, false, false, true, true, false, false, false, false, false, false] rfl rfl (any_of HT_.out (by kernel_rfl)) (fun _ _ _ h => h) (Or.inl ⟨by rfl, ?_⟩) ?_ ?_
              rotate_left
              · intro w'
                go_simp
                with_reducible rfl
              rotate_left
              · simp only [Act.put, List.setIfInBounds_toArray, List.set_cons_zero, List.set_cons_succ, i64_w, i32_w]
                rfl
              refine take_ (i := 1) (N := some 25) (v := ?_) (a' := ?_) #[true, true, true, false, true, false, false, true, true, false, false, false, false, false, false] rfl rfl (take_ofW HT_.out HW_.out (by kernel_rfl)) (fun _ _ _ h => h) (Or.inl ⟨by rfl, ?_⟩) hHeld ?_ ?_
              rotate_left
              · rintro w' ⟨s0, s1, s2, s3, s4, s5, s6, s7, s8, s9, s10, s11⟩
                go_simp
                with_reducible rfl
              rotate_left
              · simp only [Act.put, List.setIfInBounds_toArray, List.set_cons_zero, List.set_cons_succ, i64_w, i32_w]
                rfl
              refine take_ (i := 3) (N := some 27) (v := ?_) (a' := ?_) #[true, true, true, true, true, false, false, true, true, false, false, false, false, false, false] rfl rfl (take_ofW HT_.out HW_.out (by kernel_rfl)) (fun _ _ _ h => h) (Or.inl ⟨by rfl, ?_⟩) hHeld ?_ ?_
              rotate_left
              · rintro w' ⟨s0, s1, s2, s3, s4, s5, s6, s7, s8, s9, s10, s11⟩
                go_simp
                with_reducible rfl
              rotate_left
              · simp only [Act.put, List.setIfInBounds_toArray, List.set_cons_zero, List.set_cons_succ, i64_w, i32_w]
                rfl
              refine pure_ (i := 5) (N := some 29) (v := ?_) (a' := ?_) #[true, true, true, true, true, true, false, true, true, false, false, false, false, false, false] rfl rfl (any_of HT_.out (by kernel_rfl)) (fun _ _ _ h => h) (Or.inl ⟨by rfl, ?_⟩) ?_ ?_
              rotate_left
              · intro w'
                go_simp
                with_reducible rfl
              rotate_left
              · simp only [Act.put, List.setIfInBounds_toArray, List.set_cons_zero, List.set_cons_succ, i64_w, i32_w]
                rfl
              refine take_ (i := 6) (N := some 30) (v := ?_) (a' := ?_) #[true, true, true, true, true, true, true, true, true, false, false, false, false, false, false] rfl rfl (take_ofW HT_.out HW_.out (by kernel_rfl)) (fun _ _ _ h => h) (Or.inl ⟨by rfl, ?_⟩) hHeld ?_ ?_
              rotate_left
              · rintro w' ⟨s0, s1, s2, s3, s4, s5, s6, s7, s8, s9, s10, s11⟩
                go_simp
                with_reducible rfl
              rotate_left
              · simp only [Act.put, List.setIfInBounds_toArray, List.set_cons_zero, List.set_cons_succ, i64_w, i32_w]
                rfl
              refine take_ (i := 9) (N := some 33) (v := ?_) (a' := ?_) #[true, true, true, true, true, true, true, true, true, true, false, false, false, false, false] rfl rfl (take_ofW HT_.out HW_.out (by kernel_rfl)) (fun _ _ _ h => h) (Or.inl ⟨by rfl, ?_⟩) hHeld ?_ ?_
              rotate_left
              · rintro w' ⟨s0, s1, s2, s3, s4, s5, s6, s7, s8, s9, s10, s11⟩
                go_simp
                with_reducible rfl
              rotate_left
              · simp only [Act.put, List.setIfInBounds_toArray, List.set_cons_zero, List.set_cons_succ, i64_w, i32_w]
                rfl
              refine one_ (i := 10) (N := some 34) #[true, true, true, true, true, true, true, true, true, true, true, false, false, false, false] rfl rfl (one_of HT_.out (by kernel_rfl)) (by decide) (fun K hK => ?_)
              refine goes_ Tryd.func29 (by kernel_rfl) rfl #[.agg #[.int .i64 ((rd_T57 l0_2 x4_1).f0), .int .i64 ((rd_T57 l0_2 x4_1).f1), .int .i64 ((rd_T57 l0_2 x4_1).f2), .int .i64 ((rd_T57 l0_2 x4_1).f3), .int .i64 ((rd_T57 l0_2 x4_1).f4), .slice A158_5 ((rd_T57 l0_2 x4_1).f5).length c158_5], .int .i64 x4_1, .int .i64 (wrap64 (1 + t156))] (by rfl) rfl rfl (by (try simp only [List.map_toArray, List.map_cons, List.map_nil]); first | done | rfl | (simp only [List.length_drop, List.length_take]; rfl)) ?_
              with_reducible refine (ostinatoref05_Num_task.calls k1 ((rd_T57 l0_2 x4_1).f0) ((rd_T57 l0_2 x4_1).f1) ((rd_T57 l0_2 x4_1).f2) ((rd_T57 l0_2 x4_1).f3) ((rd_T57 l0_2 x4_1).f4) _ _ ((rd_T57 l0_2 x4_1).f5) x4_1 (wrap64 (1 + t156)) t159 t160 t161 t162 t163 t164 t167 _ ?side1 ?side2 A14.out).mono ?_
              (case side1 => repeat (first | exact (Kd.C_below HR158_5.out HB.out) | (with_reducible refine Kd.C_alloc ?_ _) | (with_reducible refine Kd.C_drewN ?_ _) | (with_reducible refine Kd.C_drew ?_)))
              (case side2 => exact HC158_5.out)
              rintro e w20 ⟨v165, v168, rfl, ho0, ho1, hb⟩
              refine ⟨_, rfl, ?_⟩
              have n0_ := Aside0.mk (Kd.S_mono (Kd.S_told (Kd.S_told (Kd.S_old (by (with_reducible repeat (first | apply Kd.S_alloc | apply Kd.S_drewN | apply Kd.S_drew)); exact HO_158002.out) hb) (Kd.R_base ho0)) (Kd.R_base ho1)) (fun _ h_ => h_.1))
              have n1_ := Aside0.mk (Kd.R_lower ho0 (below_size (by repeat (first | (with_reducible first | exact HB.out | apply below_alloc | apply pw_below_drewN | apply below_drew1 | refine below_set ?_ GE154.out | refine below_set ?_ GE155.out | refine below_set ?_ GE157.out) | exact HB.out))))
              have n2_ := Aside0.mk (Kd.R_lower ho1 (below_size (by repeat (first | (with_reducible first | exact HB.out | apply below_alloc | apply pw_below_drewN | apply below_drew1 | refine below_set ?_ GE154.out | refine below_set ?_ GE155.out | refine below_set ?_ GE157.out) | exact HB.out))))
              have n3_ := Aside0.mk (blk_below (g := gb154) (o := .cells #[.int .i64 a0_0, .int .i64 a0_1, .slice (some ad158) l0_2.length c0_2] 55 (0, 0)) (by (with_reducible repeat (first | refine blk_drewN ?_ _ | refine blk_drew ?_ | refine blk_alloc ?_ _)); exact BK154.out) hb)
              have n4_ := Aside0.mk (blk_below (g := gb155) (o := .cells #[.int .i64 0, .int .i64 0, .slice none 0 0] 31 (0, 0)) (by (with_reducible repeat (first | refine blk_drewN ?_ _ | refine blk_drew ?_ | refine blk_alloc ?_ _)); exact BK155.out) hb)
              have n5_ := Aside0.mk (blk_below (g := gb157) (o := .cells #[.int .i64 (wrap64 (1 + t156)), .int .i64 (Go.bits .and .i64 a0_1 3), u158002] 31 (0, 0)) (by (with_reducible repeat (first | refine blk_drewN ?_ _ | refine blk_drew ?_ | refine blk_alloc ?_ _)); exact BK157.out) hb)
              have n6_ := Aside0.mk (below_step (by repeat (first | (with_reducible first | exact HB.out | apply below_alloc | apply pw_below_drewN | apply below_drew1 | refine below_set ?_ GE154.out | refine below_set ?_ GE155.out | refine below_set ?_ GE157.out) | exact HB.out)) hb)
              clear HO_158002
              clear BK154
              clear BK155
              clear BK157
              clear HB
              have HO_158002 := n0_
              have HO166 := n1_
              have HO169 := n2_
              have BK154 := n3_
              have BK155 := n4_
              have BK157 := n5_
              have HB := n6_
              clear n0_ n1_ n2_ n3_ n4_ n5_ n6_
              (try clear hb)
              (try clear hb2)
              (try clear hk)
              (try clear hi)
              (try clear ho0)
              (try clear ho1)
              obtain ⟨Ao22, co22, eo22⟩ := Kd.R_slice HO166.out
              (first | subst eo22 | (injection eo22 with f1_ f2_ f3_; have f4_ := f1_.symm; have f5_ := f3_.symm; clear f1_ f2_ f3_; subst f4_; subst f5_))
              obtain ⟨Ao23, co23, eo23⟩ := Kd.R_slice HO169.out
              (first | subst eo23 | (injection eo23 with f1_ f2_ f3_; have f4_ := f1_.symm; have f5_ := f3_.symm; clear f1_ f2_ f3_; subst f4_; subst f5_))
              refine hK.out _ _ ⟨(blk_cell BK157.out 0).trans rfl, (blk_cell BK157.out 1).trans rfl, (blk_cell BK157.out 2).trans rfl, (blk_cell BK154.out 0).trans rfl, (blk_cell BK154.out 1).trans rfl, (blk_cell BK154.out 2).trans rfl, ((HB.out.cell (World.block_lt_of_cell? w _ hw158_0)).trans hw158_0), ((HB.out.cell (World.block_lt_of_cell? w _ hw158_1)).trans hw158_1), ((HB.out.cell (World.block_lt_of_cell? w _ hw158_2)).trans hw158_2), ((HB.out.cell (World.block_lt_of_cell? w _ hw158_3)).trans hw158_3), ((HB.out.cell (World.block_lt_of_cell? w _ hw158_4)).trans hw158_4), ((HB.out.cell (World.block_lt_of_cell? w _ hw158_5)).trans hw158_5)⟩ (fun hHeld => ?_)
              clear hK K
              refine norm_ (a' := ?_) ?_ ?_
              rotate_left
              · show Act.put _ (some 34) _ = _
                simp only [Act.put, List.setIfInBounds_toArray, List.set_cons_zero, List.set_cons_succ, i64_w, i32_w]
                rfl
              refine one_ (i := 11) (N := some 35) #[true, true, true, true, true, true, true, true, true, true, true, true, false, false, false] rfl rfl (one_of HT_.out (by kernel_rfl)) (by decide) (fun K hK => ?_)
              refine value_ (w1 := ?_) (v := ?_) (by rfl) rfl ?_ ?_
              rotate_left 2
              · go_simp
                constructor
                · rfl
                · rfl
              refine hK.out _ _ ⟨(blk_cell (blk_alloc BK157.out _) 0).trans rfl, (blk_cell (blk_alloc BK157.out _) 1).trans rfl, (blk_cell (blk_alloc BK157.out _) 2).trans rfl, (blk_cell (blk_alloc BK154.out _) 0).trans rfl, (blk_cell (blk_alloc BK154.out _) 1).trans rfl, (blk_cell (blk_alloc BK154.out _) 2).trans rfl, (World.cell?_alloc_lt _ _ _ (World.block_lt_of_cell? _ _ (((HB.out.cell (World.block_lt_of_cell? w _ hw158_0)).trans hw158_0)))).trans (((HB.out.cell (World.block_lt_of_cell? w _ hw158_0)).trans hw158_0)), (World.cell?_alloc_lt _ _ _ (World.block_lt_of_cell? _ _ (((HB.out.cell (World.block_lt_of_cell? w _ hw158_1)).trans hw158_1)))).trans (((HB.out.cell (World.block_lt_of_cell? w _ hw158_1)).trans hw158_1)), (World.cell?_alloc_lt _ _ _ (World.block_lt_of_cell? _ _ (((HB.out.cell (World.block_lt_of_cell? w _ hw158_2)).trans hw158_2)))).trans (((HB.out.cell (World.block_lt_of_cell? w _ hw158_2)).trans hw158_2)), (World.cell?_alloc_lt _ _ _ (World.block_lt_of_cell? _ _ (((HB.out.cell (World.block_lt_of_cell? w _ hw158_3)).trans hw158_3)))).trans (((HB.out.cell (World.block_lt_of_cell? w _ hw158_3)).trans hw158_3)), (World.cell?_alloc_lt _ _ _ (World.block_lt_of_cell? _ _ (((HB.out.cell (World.block_lt_of_cell? w _ hw158_4)).trans hw158_4)))).trans (((HB.out.cell (World.block_lt_of_cell? w _ hw158_4)).trans hw158_4)), (World.cell?_alloc_lt _ _ _ (World.block_lt_of_cell? _ _ (((HB.out.cell (World.block_lt_of_cell? w _ hw158_5)).trans hw158_5)))).trans (((HB.out.cell (World.block_lt_of_cell? w _ hw158_5)).trans hw158_5))⟩ (fun hHeld => ?_)
              clear hK K
              refine norm_ (a' := ?_) ?_ ?_
              rotate_left
              · show Act.put _ (some 35) _ = _
                simp only [Act.put, List.setIfInBounds_toArray, List.set_cons_zero, List.set_cons_succ, i64_w, i32_w]
                rfl
              refine one_ (i := 12) (N := some 36) #[true, true, true, true, true, true, true, true, true, true, true, true, true, false, false] rfl rfl (one_of HT_.out (by kernel_rfl)) (by decide) (fun K hK => ?_)
              refine Kd.S_append_step k85 (w0 := w) w.heap.size (by rfl) (.tmp 25) (.tmp 35) 29 85 (.agg #[(.int .i64 0), (.int .i64 0), (.int .i64 0), (.int .i64 0), (.int .i64 0), (.slice none 0 0), (.slice none 0 0)]) 88 rfl Tryd.underlying29 info85 rfl (by decide) (by omega) u158002 x158002_1 (⟨t159, t160, t161, t162, t163, t164, t167⟩ : S85) [.int .i64 t159, .int .i64 t160, .int .i64 t161, .int .i64 t162, .int .i64 t163, .slice Ao22 t164.length co22, .slice Ao23 t167.length co23] (fun _ => True) (fun k_ => some k_ = (.slice Ao22 t164.length co22 : Value).ownBlock ∨ some k_ = (.slice Ao23 t167.length co23 : Value).ownBlock) rfl rfl ?aP (fun k_ hk_ => hk_.elim (fun h_ => ((Kd.R_mono (ok' := fun k_ => ((fun _ => True)) k_ ∧ some k_ ≠ (u158002 : Value).ownBlock) (Kd.R_apart' (HO166.out) (Kd.S_typed HO_158002.out) (by decide)) (fun k_ hk => ⟨trivial, hk.2⟩))).1 k_ h_.symm) (fun h_ => ((Kd.R_mono (ok' := fun k_ => ((fun _ => True)) k_ ∧ some k_ ≠ (u158002 : Value).ownBlock) (Kd.R_apart' (HO169.out) (Kd.S_typed HO_158002.out) (by decide)) (fun k_ hk => ⟨trivial, hk.2⟩))).1 k_ h_.symm)) ?aF ?aO ?aB ?aS ?aL ?_
              (case aP => exact k85_mkM _ _ _ (⟨t159, t160, t161, t162, t163, t164, t167⟩ : S85) (Kd.R_mono (Kd.R_tight rfl (Kd.R_mono (ok' := fun k_ => ((fun _ => True)) k_ ∧ some k_ ≠ (u158002 : Value).ownBlock) (Kd.R_apart' (HO166.out) (Kd.S_typed HO_158002.out) (by decide)) (fun k_ hk => ⟨trivial, hk.2⟩))) (fun _ h_ => Or.inl h_)) (Kd.R_mono (Kd.R_tight rfl (Kd.R_mono (ok' := fun k_ => ((fun _ => True)) k_ ∧ some k_ ≠ (u158002 : Value).ownBlock) (Kd.R_apart' (HO169.out) (Kd.S_typed HO_158002.out) (by decide)) (fun k_ hk => ⟨trivial, hk.2⟩))) (fun _ h_ => Or.inr (h_))))
              (case aB => exact (by repeat (first | (with_reducible first | exact HB.out | apply below_alloc | apply pw_below_drewN | apply below_drew1 | refine below_set ?_ GE154.out | refine below_set ?_ GE155.out | refine below_set ?_ GE157.out) | exact HB.out)))
              (case aF => exact (fun _ _ => trivial))
              (case aO => exact (by (with_reducible repeat (first | apply Kd.S_alloc | apply Kd.S_drewN | apply Kd.S_drew)); exact Kd.S_mono HO_158002.out (fun k_ hk => ⟨trivial, fun e_ => e_.elim (fun h_ => hk.1.2 h_) (fun h_ => hk.2 h_)⟩)))
              (case aS => exact (below_size (by repeat (first | (with_reducible first | exact HB.out | apply below_alloc | apply pw_below_drewN | apply below_drew1 | refine below_set ?_ GE154.out | refine below_set ?_ GE155.out | refine below_set ?_ GE157.out) | exact HB.out))))
              (case aL => have := LMc15.out; omega)
              intro v171 w21 ho hb hg hat
              rw [← Ny170.out] at ho
              have n0_ := Aside0.mk (blk_grown (g := gb154) (o := .cells #[.int .i64 a0_0, .int .i64 a0_1, .slice (some ad158) l0_2.length c0_2] 55 (0, 0)) (by (with_reducible repeat (first | refine blk_drewN ?_ _ | refine blk_drew ?_ | refine blk_alloc ?_ _)); exact BK154.out) hg (Kd.S_ne HO_158002.out BK154.out (by decide)))
              have n1_ := Aside0.mk (blk_grown (g := gb155) (o := .cells #[.int .i64 0, .int .i64 0, .slice none 0 0] 31 (0, 0)) (by (with_reducible repeat (first | refine blk_drewN ?_ _ | refine blk_drew ?_ | refine blk_alloc ?_ _)); exact BK155.out) hg (Kd.S_ne HO_158002.out BK155.out (by decide)))
              have n2_ := Aside0.mk (blk_grown (g := gb157) (o := .cells #[.int .i64 (wrap64 (1 + t156)), .int .i64 (Go.bits .and .i64 a0_1 3), u158002] 31 (0, 0)) (by (with_reducible repeat (first | refine blk_drewN ?_ _ | refine blk_drew ?_ | refine blk_alloc ?_ _)); exact BK157.out) hg (Kd.S_ne HO_158002.out BK157.out (by decide)))
              have n3_ := Aside0.mk (hb)
              have n4_ := Aside0.mk (ho)
              clear BK154
              clear BK155
              clear BK157
              clear HB
              clear HO_158002
              clear HO166
              clear HO169
              have BK154 := n0_
              have BK155 := n1_
              have BK157 := n2_
              have HB := n3_
              have HO172 := n4_
              clear n0_ n1_ n2_ n3_ n4_
              clear ho hb hg hat
              obtain ⟨Ao24, co24, eo24⟩ := Kd.S_slice HO172.out
              (first | subst eo24 | (injection eo24 with f1_ f2_ f3_; have f4_ := f1_.symm; have f5_ := f3_.symm; clear f1_ f2_ f3_; subst f4_; subst f5_))
              refine hK.out _ _ ⟨(blk_cell BK157.out 0).trans rfl, (blk_cell BK157.out 1).trans rfl, (blk_cell BK157.out 2).trans rfl, (blk_cell BK154.out 0).trans rfl, (blk_cell BK154.out 1).trans rfl, (blk_cell BK154.out 2).trans rfl, ((HB.out.cell (World.block_lt_of_cell? w _ hw158_0)).trans hw158_0), ((HB.out.cell (World.block_lt_of_cell? w _ hw158_1)).trans hw158_1), ((HB.out.cell (World.block_lt_of_cell? w _ hw158_2)).trans hw158_2), ((HB.out.cell (World.block_lt_of_cell? w _ hw158_3)).trans hw158_3), ((HB.out.cell (World.block_lt_of_cell? w _ hw158_4)).trans hw158_4), ((HB.out.cell (World.block_lt_of_cell? w _ hw158_5)).trans hw158_5)⟩ (fun hHeld => ?_)
              clear hK K
              refine norm_ (a' := ?_) ?_ ?_
              rotate_left
              · show Act.put _ (some 36) _ = _
                simp only [Act.put, List.setIfInBounds_toArray, List.set_cons_zero, List.set_cons_succ, i64_w, i32_w]
                rfl
              refine pure_ (i := 13) (N := some 37) (v := ?_) (a' := ?_) #[true, true, true, true, true, true, true, true, true, true, true, true, true, true, false] rfl rfl (any_of HT_.out (by kernel_rfl)) (fun _ _ _ h => h) (Or.inl ⟨by rfl, ?_⟩) ?_ ?_
              rotate_left
              · intro w'
                go_simp
                with_reducible rfl
              rotate_left
              · simp only [Act.put, List.setIfInBounds_toArray, List.set_cons_zero, List.set_cons_succ, i64_w, i32_w]
                rfl
              refine last_ (i := 14) (N := none) #[true, true, true, true, true, true, true, true, true, true, true, true, true, true, true] rfl rfl (one_of HT_.out (by kernel_rfl)) (by decide) (fun K hK => ?_)
              have hs25 : w21.cell? ⟨gb157, 2, none⟩ = some (u158002) := (blk_cell BK157.out 2).trans rfl
              have hfs25 := blk_frozen BK157.out 2
              have hns25_0 := NB154_157.out
              have hns25_1 := NB155_157.out
              have hms25_0 := NB157_154.out
              have hms25_1 := NB157_155.out
              refine skip_ (w1 := ?_) (by rfl) rfl ?_ ?_
              rotate_left
              · go_simp
                rfl
              refine hK.out _ _ ?_
              clear hK K
              refine done_ (done_of HT_.out (by kernel_rfl)) ?_
              try go_wp2
              go_roundg k1
              case measure => have := HK1.out; omega
              case rel => exact ⟨(wrap64 (x4_1 + 1)), (y170), (.slice Ao24 y170.length co24), (by first | rfl | (simp; done) | (simp [*]; done)), H', ⟨by have := HK1.out; omega⟩, ⟨by (with_reducible repeat (first | apply Kd.S_alloc | apply Kd.S_drewN | apply Kd.S_drew)); exact Kd.S_mono (Kd.S_far (p := ⟨gb157, 2, none⟩) (Kd.S_types HO172.out BK157.out (by decide)) (fun _ hk => hk.2) (.slice Ao24 y170.length co24)) (fun _ hk => trivial)⟩, ⟨by (with_reducible repeat (first | refine blk_drewN ?_ _ | refine blk_drew ?_ | refine blk_alloc ?_ _)); refine blk_far ?_ NB154_157.out _; (with_reducible repeat (first | refine blk_drewN ?_ _ | refine blk_drew ?_ | refine blk_alloc ?_ _)); exact BK154.out⟩, ⟨by (with_reducible repeat (first | refine blk_drewN ?_ _ | refine blk_drew ?_ | refine blk_alloc ?_ _)); refine blk_far ?_ NB155_157.out _; (with_reducible repeat (first | refine blk_drewN ?_ _ | refine blk_drew ?_ | refine blk_alloc ?_ _)); exact BK155.out⟩, ⟨by (with_reducible repeat (first | refine blk_drewN ?_ _ | refine blk_drew ?_ | refine blk_alloc ?_ _)); refine blk_put (cs := #[.int .i64 (wrap64 (1 + t156)), .int .i64 (Go.bits .and .i64 a0_1 3), u158002]) ?_ 2 _ rfl; (with_reducible repeat (first | refine blk_drewN ?_ _ | refine blk_drew ?_ | refine blk_alloc ?_ _)); exact BK157.out⟩, ⟨by repeat (first | (with_reducible first | exact HB.out | apply below_alloc | apply pw_below_drewN | apply below_drew1 | refine below_set ?_ GE154.out | refine below_set ?_ GE155.out | refine below_set ?_ GE157.out) | exact HB.out)⟩⟩
            · rw [if_neg c15] at H
              exact absurd H (by simp)
          · rw [if_neg c13] at H
            exact absurd H (by simp)
        · rw [if_neg c12] at H
          have c12b0 : decide (x4_1 < 6) = false := decide_eq_false c12
          clear c12
          by_cases c26 : (x158002_1.length : Int) = 0
          · rw [if_pos c26] at H
            have c26b0 : ((x158002_1.length : Int) == 0) = true := beq_iff_eq.mpr c26
            have c26b1 : ((x158002_1.length : Int) != 0) = false := bne_eq_false_iff_eq.mpr c26
            clear c26
            obtain ⟨y173, hy173⟩ : ∃ y_ : List (S85), y_ = (([(⟨1, 1, 4, 4, 10, ([] : List Int), ([] : List Int)⟩ : S85)] : List (S85))) := ⟨_, rfl⟩
            replace H : (some ((wrap64 (1 + t156)), (Go.bits .and .i64 a0_1 3), y173)) = some (r1, r2, r3) := by first | (rw [hy173]; with_reducible exact H) | (have H2_ := (Option.bind_some _ _).symm.trans H; rw [hy173]; with_reducible exact H2_) | (have H2_ := (Option.bind_some _ _).symm.trans H; with_reducible exact H2_) | with_reducible exact H | (rw [hy173]; exact H) | exact H
            have Ny173 := Aside0.mk hy173
            clear hy173
            simp only [Option.some.injEq, Prod.mk.injEq] at H
            obtain ⟨rfl, rfl, rfl⟩ := H
            have hnb27 := NB154_155.out
            have hnc27 := NB155_154.out
            have hnb28 := NB154_157.out
            have hnc28 := NB157_154.out
            have hcz29_0 : wr.cell? ⟨gb154, 0, none⟩ = some (.int .i64 a0_0) := (blk_cell BK154.out 0).trans rfl
            have hcz29_1 : wr.cell? ⟨gb154, 1, none⟩ = some (.int .i64 a0_1) := (blk_cell BK154.out 1).trans rfl
            have hcz29_2 : wr.cell? ⟨gb154, 2, none⟩ = some (.slice A0_2 l0_2.length c0_2) := (blk_cell BK154.out 2).trans rfl
            have hfz29_0 := blk_frozen BK154.out 0
            have hfz29_1 := blk_frozen BK154.out 1
            have hfz29_2 := blk_frozen BK154.out 2
            have hnb30 := NB157_155.out
            have hnc30 := NB155_157.out
            have hcz31_0 : wr.cell? ⟨gb157, 0, none⟩ = some (.int .i64 (wrap64 (1 + t156))) := (blk_cell BK157.out 0).trans rfl
            have hcz31_1 : wr.cell? ⟨gb157, 1, none⟩ = some (.int .i64 (Go.bits .and .i64 a0_1 3)) := (blk_cell BK157.out 1).trans rfl
            have hcz31_2 : wr.cell? ⟨gb157, 2, none⟩ = some (u158002) := (blk_cell BK157.out 2).trans rfl
            have hfz31_0 := blk_frozen BK157.out 0
            have hfz31_1 := blk_frozen BK157.out 1
            have hfz31_2 := blk_frozen BK157.out 2
            obtain ⟨Ao32, co32, eo32⟩ := Kd.S_slice HO_158002.out
            subst eo32
            go_wp2_with (first | ((with_reducible refine gate_dst (N := 43) rfl ?_); refine Kd.S_lit k85 _ 85 ?hg (N := 43) ?hd (xs := ([(⟨1, 1, 4, 4, 10, ([] : List Int), ([] : List Int)⟩ : S85)] : List (S85))) (inner := [.int .i64 1, .int .i64 1, .int .i64 4, .int .i64 4, .int .i64 10, .slice none 0 0, .slice none 0 0]) (ok := fun _ => True) (okp := fun _ => True) ?hr ?hp (fun _ hk => hk) trivial (Below.refl _ _) (Nat.le_refl _) (by simp) ?_; (case hd => rfl); (case hg => rfl); (case hr => first | (go_simp; done) | (go_simp; rfl)); (case hp => exact (Reps.c7 (show Kd.M k85 _ _ _ (⟨1, 1, 4, 4, 10, ([] : List Int), ([] : List Int)⟩ : S85) [.int .i64 1, .int .i64 1, .int .i64 4, .int .i64 4, .int .i64 10, .slice none 0 0, .slice none 0 0] from (k85_mkM _ _ _ (⟨1, 1, 4, 4, 10, ([] : List Int), ([] : List Int)⟩ : S85) (Kd.R_nil _ _ _ _ _) (Kd.R_nil _ _ _ _ _))) (Reps.none _ _))); intro v174 w33 ho34 hb hg_ hnew_; clear hg_ hnew_; (first | rw [← Ny173.out] at ho34 | (simp only [Int.reduceToNat] at ho34; rw [← Ny173.out] at ho34)); have n0_ := Aside0.mk (Kd.S_elder' (by (with_reducible repeat (first | apply Kd.S_alloc | apply Kd.S_drewN | apply Kd.S_drew)); exact HO_158002.out) (Kd.S_base ho34) hb); have n1_ := Aside0.mk (Kd.S_lower (Kd.S_new' ho34 (Kd.S_lt (by (with_reducible repeat (first | apply Kd.S_alloc | apply Kd.S_drewN | apply Kd.S_drew)); exact HO_158002.out))) (below_size (by repeat (first | (with_reducible first | exact HB.out | apply below_alloc | apply pw_below_drewN | apply below_drew1 | refine below_set ?_ GE154.out | refine below_set ?_ GE155.out | refine below_set ?_ GE157.out) | exact HB.out)))); have n2_ := Aside0.mk (blk_below (g := gb154) (o := .cells #[.int .i64 a0_0, .int .i64 a0_1, .slice A0_2 l0_2.length c0_2] 55 (0, 0)) (by (with_reducible repeat (first | refine blk_drewN ?_ _ | refine blk_drew ?_ | refine blk_alloc ?_ _)); exact BK154.out) hb); have n3_ := Aside0.mk (blk_below (g := gb155) (o := .cells #[.int .i64 0, .int .i64 0, .slice none 0 0] 31 (0, 0)) (by (with_reducible repeat (first | refine blk_drewN ?_ _ | refine blk_drew ?_ | refine blk_alloc ?_ _)); exact BK155.out) hb); have n4_ := Aside0.mk (blk_below (g := gb157) (o := .cells #[.int .i64 (wrap64 (1 + t156)), .int .i64 (Go.bits .and .i64 a0_1 3), .slice Ao32 x158002_1.length co32] 31 (0, 0)) (by (with_reducible repeat (first | refine blk_drewN ?_ _ | refine blk_drew ?_ | refine blk_alloc ?_ _)); exact BK157.out) hb); have n5_ := Aside0.mk (below_step (by repeat (first | (with_reducible first | exact HB.out | apply below_alloc | apply pw_below_drewN | apply below_drew1 | refine below_set ?_ GE154.out | refine below_set ?_ GE155.out | refine below_set ?_ GE157.out) | exact HB.out)) hb); clear HO_158002; clear BK154; clear BK155; clear BK157; clear HB; have HO_158002 := n0_; have HO175 := n1_; have BK154 := n2_; have BK155 := n3_; have BK157 := n4_; have HB := n5_; clear n0_ n1_ n2_ n3_ n4_ n5_; clear hb ho34; obtain ⟨Ao35, co35, eo35⟩ := Kd.S_slice HO175.out; subst eo35; have hcz36_0 : w33.cell? ⟨gb157, 0, none⟩ = some (.int .i64 (wrap64 (1 + t156))) := (blk_cell BK157.out 0).trans rfl; have hcz36_1 : w33.cell? ⟨gb157, 1, none⟩ = some (.int .i64 (Go.bits .and .i64 a0_1 3)) := (blk_cell BK157.out 1).trans rfl; have hcz36_2 : w33.cell? ⟨gb157, 2, none⟩ = some (.slice Ao32 x158002_1.length co32) := (blk_cell BK157.out 2).trans rfl; have hfz36_0 := blk_frozen BK157.out 0; have hfz36_1 := blk_frozen BK157.out 1; have hfz36_2 := blk_frozen BK157.out 2; have hcz37_0 : w33.cell? ⟨gb155, 0, none⟩ = some (.int .i64 0) := (blk_cell BK155.out 0).trans rfl; have hcz37_1 : w33.cell? ⟨gb155, 1, none⟩ = some (.int .i64 0) := (blk_cell BK155.out 1).trans rfl; have hcz37_2 : w33.cell? ⟨gb155, 2, none⟩ = some (.slice none 0 0) := (blk_cell BK155.out 2).trans rfl; have hfz37_0 := blk_frozen BK155.out 0; have hfz37_1 := blk_frozen BK155.out 1; have hfz37_2 := blk_frozen BK155.out 2))
            refine bodyPost_ret (results_cell_row rfl _ _ gb155 31 #[.int .i64 (wrap64 (1 + t156)), .int .i64 (Go.bits .and .i64 a0_1 3), .slice Ao35 y173.length co35] (0, 0) _ rfl (by (with_reducible repeat (first | refine blk_drewN ?_ _ | refine blk_drew ?_ | refine blk_alloc ?_ _)); refine blk_put (cs := #[.int .i64 (wrap64 (1 + t156)), .int .i64 (Go.bits .and .i64 a0_1 3), .slice none 0 0]) ?_ 2 _ rfl; (with_reducible repeat (first | refine blk_drewN ?_ _ | refine blk_drew ?_ | refine blk_alloc ?_ _)); refine blk_put (cs := #[.int .i64 (wrap64 (1 + t156)), .int .i64 0, .slice none 0 0]) ?_ 1 _ rfl; (with_reducible repeat (first | refine blk_drewN ?_ _ | refine blk_drew ?_ | refine blk_alloc ?_ _)); refine blk_put (cs := #[.int .i64 0, .int .i64 0, .slice none 0 0]) ?_ 0 _ rfl; (with_reducible repeat (first | refine blk_drewN ?_ _ | refine blk_drew ?_ | refine blk_alloc ?_ _)); refine blk_far ?_ NB155_157.out _; (with_reducible repeat (first | refine blk_drewN ?_ _ | refine blk_drew ?_ | refine blk_alloc ?_ _)); exact BK155.out) Tryd.underlying31 rfl (by kernel_rfl)) rfl ?_
            exact ⟨_, by first | rfl | (simp [errW_none, errW_some] <;> rfl) | (simp [bneNil, bneNilU] <;> rfl) | (simp [*, errW_none, errW_some] <;> rfl), by (with_reducible repeat (first | apply Kd.S_alloc | apply Kd.S_drewN | apply Kd.S_drew)); exact Kd.S_mono (Kd.S_far (p := ⟨gb155, 2, none⟩) (Kd.S_far (p := ⟨gb155, 1, none⟩) (Kd.S_far (p := ⟨gb155, 0, none⟩) (Kd.S_far (p := ⟨gb157, 2, none⟩) (Kd.S_types (Kd.S_types HO175.out BK157.out (by decide)) BK155.out (by decide)) (fun _ hk => hk.1.2) (.slice Ao35 y173.length co35)) (fun _ hk => hk.2) (.int .i64 (wrap64 (1 + t156)))) (fun _ hk => hk.2) (.int .i64 (Go.bits .and .i64 a0_1 3))) (fun _ hk => hk.2) (.slice Ao35 y173.length co35)) (fun _ hk => trivial), by repeat (first | (with_reducible first | exact HB.out | apply below_alloc | apply pw_below_drewN | apply below_drew1 | refine below_set ?_ GE154.out | refine below_set ?_ GE155.out | refine below_set ?_ GE157.out) | exact HB.out)⟩
          · rw [if_neg c26] at H
            have c26b0 : ((x158002_1.length : Int) == 0) = false := beq_eq_false_iff_ne.mpr c26
            have c26b1 : ((x158002_1.length : Int) != 0) = true := bne_iff_ne.mpr c26
            have c26b2 : ¬ (x158002_1 = []) := fun h_ => c26 (by rw [h_]; rfl)
            simp only [Option.some.injEq, Prod.mk.injEq] at H
            obtain ⟨rfl, rfl, rfl⟩ := H
            have hnb38 := NB154_155.out
            have hnc38 := NB155_154.out
            have hnb39 := NB154_157.out
            have hnc39 := NB157_154.out
            have hcz40_0 : wr.cell? ⟨gb154, 0, none⟩ = some (.int .i64 a0_0) := (blk_cell BK154.out 0).trans rfl
            have hcz40_1 : wr.cell? ⟨gb154, 1, none⟩ = some (.int .i64 a0_1) := (blk_cell BK154.out 1).trans rfl
            have hcz40_2 : wr.cell? ⟨gb154, 2, none⟩ = some (.slice A0_2 l0_2.length c0_2) := (blk_cell BK154.out 2).trans rfl
            have hfz40_0 := blk_frozen BK154.out 0
            have hfz40_1 := blk_frozen BK154.out 1
            have hfz40_2 := blk_frozen BK154.out 2
            have hnb41 := NB157_155.out
            have hnc41 := NB155_157.out
            have hcz42_0 : wr.cell? ⟨gb157, 0, none⟩ = some (.int .i64 (wrap64 (1 + t156))) := (blk_cell BK157.out 0).trans rfl
            have hcz42_1 : wr.cell? ⟨gb157, 1, none⟩ = some (.int .i64 (Go.bits .and .i64 a0_1 3)) := (blk_cell BK157.out 1).trans rfl
            have hcz42_2 : wr.cell? ⟨gb157, 2, none⟩ = some (u158002) := (blk_cell BK157.out 2).trans rfl
            have hfz42_0 := blk_frozen BK157.out 0
            have hfz42_1 := blk_frozen BK157.out 1
            have hfz42_2 := blk_frozen BK157.out 2
            obtain ⟨Ao43, co43, eo43⟩ := Kd.S_slice HO_158002.out
            subst eo43
            have hcz44_0 : wr.cell? ⟨gb155, 0, none⟩ = some (.int .i64 0) := (blk_cell BK155.out 0).trans rfl
            have hcz44_1 : wr.cell? ⟨gb155, 1, none⟩ = some (.int .i64 0) := (blk_cell BK155.out 1).trans rfl
            have hcz44_2 : wr.cell? ⟨gb155, 2, none⟩ = some (.slice none 0 0) := (blk_cell BK155.out 2).trans rfl
            have hfz44_0 := blk_frozen BK155.out 0
            have hfz44_1 := blk_frozen BK155.out 1
            have hfz44_2 := blk_frozen BK155.out 2
            go_wp2
            refine bodyPost_ret (results_cell_row rfl _ _ gb155 31 #[.int .i64 (wrap64 (1 + t156)), .int .i64 (Go.bits .and .i64 a0_1 3), .slice Ao43 x158002_1.length co43] (0, 0) _ rfl (by (with_reducible repeat (first | refine blk_drewN ?_ _ | refine blk_drew ?_ | refine blk_alloc ?_ _)); refine blk_put (cs := #[.int .i64 (wrap64 (1 + t156)), .int .i64 (Go.bits .and .i64 a0_1 3), .slice none 0 0]) ?_ 2 _ rfl; (with_reducible repeat (first | refine blk_drewN ?_ _ | refine blk_drew ?_ | refine blk_alloc ?_ _)); refine blk_put (cs := #[.int .i64 (wrap64 (1 + t156)), .int .i64 0, .slice none 0 0]) ?_ 1 _ rfl; (with_reducible repeat (first | refine blk_drewN ?_ _ | refine blk_drew ?_ | refine blk_alloc ?_ _)); refine blk_put (cs := #[.int .i64 0, .int .i64 0, .slice none 0 0]) ?_ 0 _ rfl; (with_reducible repeat (first | refine blk_drewN ?_ _ | refine blk_drew ?_ | refine blk_alloc ?_ _)); exact BK155.out) Tryd.underlying31 rfl (by kernel_rfl)) rfl ?_
            exact ⟨_, by first | rfl | (simp [errW_none, errW_some] <;> rfl) | (simp [bneNil, bneNilU] <;> rfl) | (simp [*, errW_none, errW_some] <;> rfl), by (with_reducible repeat (first | apply Kd.S_alloc | apply Kd.S_drewN | apply Kd.S_drew)); exact Kd.S_mono (Kd.S_far (p := ⟨gb155, 2, none⟩) (Kd.S_far (p := ⟨gb155, 1, none⟩) (Kd.S_far (p := ⟨gb155, 0, none⟩) (Kd.S_types HO_158002.out BK155.out (by decide)) (fun _ hk => hk.2) (.int .i64 (wrap64 (1 + t156)))) (fun _ hk => hk.2) (.int .i64 (Go.bits .and .i64 a0_1 3))) (fun _ hk => hk.2) (.slice Ao43 x158002_1.length co43)) (fun _ hk => trivial), by repeat (first | (with_reducible first | exact HB.out | apply below_alloc | apply pw_below_drewN | apply below_drew1 | refine below_set ?_ GE154.out | refine below_set ?_ GE155.out | refine below_set ?_ GE157.out) | exact HB.out)⟩
      · rw [if_neg c11] at H
        have c11b0 : decide (x4_1 < (l0_2.length : Int)) = false := decide_eq_false c11
        clear c11
        by_cases c45 : (x158002_1.length : Int) = 0
        · rw [if_pos c45] at H
          have c45b0 : ((x158002_1.length : Int) == 0) = true := beq_iff_eq.mpr c45
          have c45b1 : ((x158002_1.length : Int) != 0) = false := bne_eq_false_iff_eq.mpr c45
          clear c45
          obtain ⟨y176, hy176⟩ : ∃ y_ : List (S85), y_ = (([(⟨1, 1, 4, 4, 10, ([] : List Int), ([] : List Int)⟩ : S85)] : List (S85))) := ⟨_, rfl⟩
          replace H : (some ((wrap64 (1 + t156)), (Go.bits .and .i64 a0_1 3), y176)) = some (r1, r2, r3) := by first | (rw [hy176]; with_reducible exact H) | (have H2_ := (Option.bind_some _ _).symm.trans H; rw [hy176]; with_reducible exact H2_) | (have H2_ := (Option.bind_some _ _).symm.trans H; with_reducible exact H2_) | with_reducible exact H | (rw [hy176]; exact H) | exact H
          have Ny176 := Aside0.mk hy176
          clear hy176
          simp only [Option.some.injEq, Prod.mk.injEq] at H
          obtain ⟨rfl, rfl, rfl⟩ := H
          have hnb46 := NB154_155.out
          have hnc46 := NB155_154.out
          have hnb47 := NB154_157.out
          have hnc47 := NB157_154.out
          have hcz48_0 : wr.cell? ⟨gb154, 0, none⟩ = some (.int .i64 a0_0) := (blk_cell BK154.out 0).trans rfl
          have hcz48_1 : wr.cell? ⟨gb154, 1, none⟩ = some (.int .i64 a0_1) := (blk_cell BK154.out 1).trans rfl
          have hcz48_2 : wr.cell? ⟨gb154, 2, none⟩ = some (.slice A0_2 l0_2.length c0_2) := (blk_cell BK154.out 2).trans rfl
          have hfz48_0 := blk_frozen BK154.out 0
          have hfz48_1 := blk_frozen BK154.out 1
          have hfz48_2 := blk_frozen BK154.out 2
          have hnb49 := NB157_155.out
          have hnc49 := NB155_157.out
          have hcz50_0 : wr.cell? ⟨gb157, 0, none⟩ = some (.int .i64 (wrap64 (1 + t156))) := (blk_cell BK157.out 0).trans rfl
          have hcz50_1 : wr.cell? ⟨gb157, 1, none⟩ = some (.int .i64 (Go.bits .and .i64 a0_1 3)) := (blk_cell BK157.out 1).trans rfl
          have hcz50_2 : wr.cell? ⟨gb157, 2, none⟩ = some (u158002) := (blk_cell BK157.out 2).trans rfl
          have hfz50_0 := blk_frozen BK157.out 0
          have hfz50_1 := blk_frozen BK157.out 1
          have hfz50_2 := blk_frozen BK157.out 2
          obtain ⟨Ao51, co51, eo51⟩ := Kd.S_slice HO_158002.out
          subst eo51
          go_wp2_with (first | ((with_reducible refine gate_dst (N := 43) rfl ?_); refine Kd.S_lit k85 _ 85 ?hg (N := 43) ?hd (xs := ([(⟨1, 1, 4, 4, 10, ([] : List Int), ([] : List Int)⟩ : S85)] : List (S85))) (inner := [.int .i64 1, .int .i64 1, .int .i64 4, .int .i64 4, .int .i64 10, .slice none 0 0, .slice none 0 0]) (ok := fun _ => True) (okp := fun _ => True) ?hr ?hp (fun _ hk => hk) trivial (Below.refl _ _) (Nat.le_refl _) (by simp) ?_; (case hd => rfl); (case hg => rfl); (case hr => first | (go_simp; done) | (go_simp; rfl)); (case hp => exact (Reps.c7 (show Kd.M k85 _ _ _ (⟨1, 1, 4, 4, 10, ([] : List Int), ([] : List Int)⟩ : S85) [.int .i64 1, .int .i64 1, .int .i64 4, .int .i64 4, .int .i64 10, .slice none 0 0, .slice none 0 0] from (k85_mkM _ _ _ (⟨1, 1, 4, 4, 10, ([] : List Int), ([] : List Int)⟩ : S85) (Kd.R_nil _ _ _ _ _) (Kd.R_nil _ _ _ _ _))) (Reps.none _ _))); intro v177 w52 ho53 hb hg_ hnew_; clear hg_ hnew_; (first | rw [← Ny176.out] at ho53 | (simp only [Int.reduceToNat] at ho53; rw [← Ny176.out] at ho53)); have n0_ := Aside0.mk (Kd.S_elder' (by (with_reducible repeat (first | apply Kd.S_alloc | apply Kd.S_drewN | apply Kd.S_drew)); exact HO_158002.out) (Kd.S_base ho53) hb); have n1_ := Aside0.mk (Kd.S_lower (Kd.S_new' ho53 (Kd.S_lt (by (with_reducible repeat (first | apply Kd.S_alloc | apply Kd.S_drewN | apply Kd.S_drew)); exact HO_158002.out))) (below_size (by repeat (first | (with_reducible first | exact HB.out | apply below_alloc | apply pw_below_drewN | apply below_drew1 | refine below_set ?_ GE154.out | refine below_set ?_ GE155.out | refine below_set ?_ GE157.out) | exact HB.out)))); have n2_ := Aside0.mk (blk_below (g := gb154) (o := .cells #[.int .i64 a0_0, .int .i64 a0_1, .slice A0_2 l0_2.length c0_2] 55 (0, 0)) (by (with_reducible repeat (first | refine blk_drewN ?_ _ | refine blk_drew ?_ | refine blk_alloc ?_ _)); exact BK154.out) hb); have n3_ := Aside0.mk (blk_below (g := gb155) (o := .cells #[.int .i64 0, .int .i64 0, .slice none 0 0] 31 (0, 0)) (by (with_reducible repeat (first | refine blk_drewN ?_ _ | refine blk_drew ?_ | refine blk_alloc ?_ _)); exact BK155.out) hb); have n4_ := Aside0.mk (blk_below (g := gb157) (o := .cells #[.int .i64 (wrap64 (1 + t156)), .int .i64 (Go.bits .and .i64 a0_1 3), .slice Ao51 x158002_1.length co51] 31 (0, 0)) (by (with_reducible repeat (first | refine blk_drewN ?_ _ | refine blk_drew ?_ | refine blk_alloc ?_ _)); exact BK157.out) hb); have n5_ := Aside0.mk (below_step (by repeat (first | (with_reducible first | exact HB.out | apply below_alloc | apply pw_below_drewN | apply below_drew1 | refine below_set ?_ GE154.out | refine below_set ?_ GE155.out | refine below_set ?_ GE157.out) | exact HB.out)) hb); clear HO_158002; clear BK154; clear BK155; clear BK157; clear HB; have HO_158002 := n0_; have HO178 := n1_; have BK154 := n2_; have BK155 := n3_; have BK157 := n4_; have HB := n5_; clear n0_ n1_ n2_ n3_ n4_ n5_; clear hb ho53; obtain ⟨Ao54, co54, eo54⟩ := Kd.S_slice HO178.out; subst eo54; have hcz55_0 : w52.cell? ⟨gb157, 0, none⟩ = some (.int .i64 (wrap64 (1 + t156))) := (blk_cell BK157.out 0).trans rfl; have hcz55_1 : w52.cell? ⟨gb157, 1, none⟩ = some (.int .i64 (Go.bits .and .i64 a0_1 3)) := (blk_cell BK157.out 1).trans rfl; have hcz55_2 : w52.cell? ⟨gb157, 2, none⟩ = some (.slice Ao51 x158002_1.length co51) := (blk_cell BK157.out 2).trans rfl; have hfz55_0 := blk_frozen BK157.out 0; have hfz55_1 := blk_frozen BK157.out 1; have hfz55_2 := blk_frozen BK157.out 2; have hcz56_0 : w52.cell? ⟨gb155, 0, none⟩ = some (.int .i64 0) := (blk_cell BK155.out 0).trans rfl; have hcz56_1 : w52.cell? ⟨gb155, 1, none⟩ = some (.int .i64 0) := (blk_cell BK155.out 1).trans rfl; have hcz56_2 : w52.cell? ⟨gb155, 2, none⟩ = some (.slice none 0 0) := (blk_cell BK155.out 2).trans rfl; have hfz56_0 := blk_frozen BK155.out 0; have hfz56_1 := blk_frozen BK155.out 1; have hfz56_2 := blk_frozen BK155.out 2))
          refine bodyPost_ret (results_cell_row rfl _ _ gb155 31 #[.int .i64 (wrap64 (1 + t156)), .int .i64 (Go.bits .and .i64 a0_1 3), .slice Ao54 y176.length co54] (0, 0) _ rfl (by (with_reducible repeat (first | refine blk_drewN ?_ _ | refine blk_drew ?_ | refine blk_alloc ?_ _)); refine blk_put (cs := #[.int .i64 (wrap64 (1 + t156)), .int .i64 (Go.bits .and .i64 a0_1 3), .slice none 0 0]) ?_ 2 _ rfl; (with_reducible repeat (first | refine blk_drewN ?_ _ | refine blk_drew ?_ | refine blk_alloc ?_ _)); refine blk_put (cs := #[.int .i64 (wrap64 (1 + t156)), .int .i64 0, .slice none 0 0]) ?_ 1 _ rfl; (with_reducible repeat (first | refine blk_drewN ?_ _ | refine blk_drew ?_ | refine blk_alloc ?_ _)); refine blk_put (cs := #[.int .i64 0, .int .i64 0, .slice none 0 0]) ?_ 0 _ rfl; (with_reducible repeat (first | refine blk_drewN ?_ _ | refine blk_drew ?_ | refine blk_alloc ?_ _)); refine blk_far ?_ NB155_157.out _; (with_reducible repeat (first | refine blk_drewN ?_ _ | refine blk_drew ?_ | refine blk_alloc ?_ _)); exact BK155.out) Tryd.underlying31 rfl (by kernel_rfl)) rfl ?_
          exact ⟨_, by first | rfl | (simp [errW_none, errW_some] <;> rfl) | (simp [bneNil, bneNilU] <;> rfl) | (simp [*, errW_none, errW_some] <;> rfl), by (with_reducible repeat (first | apply Kd.S_alloc | apply Kd.S_drewN | apply Kd.S_drew)); exact Kd.S_mono (Kd.S_far (p := ⟨gb155, 2, none⟩) (Kd.S_far (p := ⟨gb155, 1, none⟩) (Kd.S_far (p := ⟨gb155, 0, none⟩) (Kd.S_far (p := ⟨gb157, 2, none⟩) (Kd.S_types (Kd.S_types HO178.out BK157.out (by decide)) BK155.out (by decide)) (fun _ hk => hk.1.2) (.slice Ao54 y176.length co54)) (fun _ hk => hk.2) (.int .i64 (wrap64 (1 + t156)))) (fun _ hk => hk.2) (.int .i64 (Go.bits .and .i64 a0_1 3))) (fun _ hk => hk.2) (.slice Ao54 y176.length co54)) (fun _ hk => trivial), by repeat (first | (with_reducible first | exact HB.out | apply below_alloc | apply pw_below_drewN | apply below_drew1 | refine below_set ?_ GE154.out | refine below_set ?_ GE155.out | refine below_set ?_ GE157.out) | exact HB.out)⟩
        · rw [if_neg c45] at H
          have c45b0 : ((x158002_1.length : Int) == 0) = false := beq_eq_false_iff_ne.mpr c45
          have c45b1 : ((x158002_1.length : Int) != 0) = true := bne_iff_ne.mpr c45
          have c45b2 : ¬ (x158002_1 = []) := fun h_ => c45 (by rw [h_]; rfl)
          simp only [Option.some.injEq, Prod.mk.injEq] at H
          obtain ⟨rfl, rfl, rfl⟩ := H
          have hnb57 := NB154_155.out
          have hnc57 := NB155_154.out
          have hnb58 := NB154_157.out
          have hnc58 := NB157_154.out
          have hcz59_0 : wr.cell? ⟨gb154, 0, none⟩ = some (.int .i64 a0_0) := (blk_cell BK154.out 0).trans rfl
          have hcz59_1 : wr.cell? ⟨gb154, 1, none⟩ = some (.int .i64 a0_1) := (blk_cell BK154.out 1).trans rfl
          have hcz59_2 : wr.cell? ⟨gb154, 2, none⟩ = some (.slice A0_2 l0_2.length c0_2) := (blk_cell BK154.out 2).trans rfl
          have hfz59_0 := blk_frozen BK154.out 0
          have hfz59_1 := blk_frozen BK154.out 1
          have hfz59_2 := blk_frozen BK154.out 2
          have hnb60 := NB157_155.out
          have hnc60 := NB155_157.out
          have hcz61_0 : wr.cell? ⟨gb157, 0, none⟩ = some (.int .i64 (wrap64 (1 + t156))) := (blk_cell BK157.out 0).trans rfl
          have hcz61_1 : wr.cell? ⟨gb157, 1, none⟩ = some (.int .i64 (Go.bits .and .i64 a0_1 3)) := (blk_cell BK157.out 1).trans rfl
          have hcz61_2 : wr.cell? ⟨gb157, 2, none⟩ = some (u158002) := (blk_cell BK157.out 2).trans rfl
          have hfz61_0 := blk_frozen BK157.out 0
          have hfz61_1 := blk_frozen BK157.out 1
          have hfz61_2 := blk_frozen BK157.out 2
          obtain ⟨Ao62, co62, eo62⟩ := Kd.S_slice HO_158002.out
          subst eo62
          have hcz63_0 : wr.cell? ⟨gb155, 0, none⟩ = some (.int .i64 0) := (blk_cell BK155.out 0).trans rfl
          have hcz63_1 : wr.cell? ⟨gb155, 1, none⟩ = some (.int .i64 0) := (blk_cell BK155.out 1).trans rfl
          have hcz63_2 : wr.cell? ⟨gb155, 2, none⟩ = some (.slice none 0 0) := (blk_cell BK155.out 2).trans rfl
          have hfz63_0 := blk_frozen BK155.out 0
          have hfz63_1 := blk_frozen BK155.out 1
          have hfz63_2 := blk_frozen BK155.out 2
          go_wp2
          refine bodyPost_ret (results_cell_row rfl _ _ gb155 31 #[.int .i64 (wrap64 (1 + t156)), .int .i64 (Go.bits .and .i64 a0_1 3), .slice Ao62 x158002_1.length co62] (0, 0) _ rfl (by (with_reducible repeat (first | refine blk_drewN ?_ _ | refine blk_drew ?_ | refine blk_alloc ?_ _)); refine blk_put (cs := #[.int .i64 (wrap64 (1 + t156)), .int .i64 (Go.bits .and .i64 a0_1 3), .slice none 0 0]) ?_ 2 _ rfl; (with_reducible repeat (first | refine blk_drewN ?_ _ | refine blk_drew ?_ | refine blk_alloc ?_ _)); refine blk_put (cs := #[.int .i64 (wrap64 (1 + t156)), .int .i64 0, .slice none 0 0]) ?_ 1 _ rfl; (with_reducible repeat (first | refine blk_drewN ?_ _ | refine blk_drew ?_ | refine blk_alloc ?_ _)); refine blk_put (cs := #[.int .i64 0, .int .i64 0, .slice none 0 0]) ?_ 0 _ rfl; (with_reducible repeat (first | refine blk_drewN ?_ _ | refine blk_drew ?_ | refine blk_alloc ?_ _)); exact BK155.out) Tryd.underlying31 rfl (by kernel_rfl)) rfl ?_
          exact ⟨_, by first | rfl | (simp [errW_none, errW_some] <;> rfl) | (simp [bneNil, bneNilU] <;> rfl) | (simp [*, errW_none, errW_some] <;> rfl), by (with_reducible repeat (first | apply Kd.S_alloc | apply Kd.S_drewN | apply Kd.S_drew)); exact Kd.S_mono (Kd.S_far (p := ⟨gb155, 2, none⟩) (Kd.S_far (p := ⟨gb155, 1, none⟩) (Kd.S_far (p := ⟨gb155, 0, none⟩) (Kd.S_types HO_158002.out BK155.out (by decide)) (fun _ hk => hk.2) (.int .i64 (wrap64 (1 + t156)))) (fun _ hk => hk.2) (.int .i64 (Go.bits .and .i64 a0_1 3))) (fun _ hk => hk.2) (.slice Ao62 x158002_1.length co62)) (fun _ hk => trivial), by repeat (first | (with_reducible first | exact HB.out | apply below_alloc | apply pw_below_drewN | apply below_drew1 | refine below_set ?_ GE154.out | refine below_set ?_ GE155.out | refine below_set ?_ GE157.out) | exact HB.out)⟩

end
end Go.Proofs.YtnejkfccdnadcaaDoor.PRunBack
end

section
namespace Go.Proofs.YtnejkfccdnadcaaDoor.PRunBack
open Go.RowKit Go.Proofs.YtnejkfccdnadcaaDoorW.PrintWords Go.Proofs.YtnejkfccdnadcaaDoorW.PrintLast Go.Proofs.YtnejkfccdnadcaaDoorW.PrintMore
attribute [local go_sem] max2_int min2_int max_two min_two max_three min_three max_four min_four   -- for this text's walks alone
set_option linter.unusedVariables false
set_option linter.unusedSimpArgs false
noncomputable section

attribute [local go_sem high] eqA46
def ostinatolaw23_Sys_made.l0 : Nat → Int → Int → Int → List (S58) → Int → Int → List (S57) → Option (Int × Int × (List (S85)))
  | 0, _, _, _, _, _, _, _ => none
  | k + 1, x4, x180000, x180001, x180002, x182000, x182001, x182002 => if x4 < (x180002.length : Int) then (if x4 < 6 then (if 0 ≤ x4 then (if x182002.length < 2199023255552 then (ostinatolaw23_Sys_made.l0 k (wrap64 (x4 + 1)) x180000 x180001 x180002 x182000 x182001 (x182002 ++ [(⟨(rd_T58 x180002 x4).f0, (rd_T58 x180002 x4).f1, (rd_T58 x180002 x4).f2, (rd_T58 x180002 x4).f3, (rd_T58 x180002 x4).f4, (rd_T58 x180002 x4).f5⟩ : S57)])) else (none)) else (none)) else ((ostinatoref05_System_Made.f k x182000 x182001 x182002).bind fun bt186 => (some (bt186.1, bt186.2.1, bt186.2.2)))) else ((ostinatoref05_System_Made.f k x182000 x182001 x182002).bind fun bt191 => (some (bt191.1, bt191.2.1, bt191.2.2)))
def ostinatolaw23_Sys_made.f (k : Nat) (a0_0 : Int) (a0_1 : Int) (l0_2 : List (S58)) : Option (Int × Int × (List (S85))) := ostinatolaw23_Sys_made.l0 k 0 a0_0 a0_1 l0_2 a0_0 a0_1 ([] : List (S57))
def ostinatolaw23_Sys_made.T5 : Bool × List (List Nat × List Nat) := (true, [([], []), ([0], [0]), ([], []), ([2], [2]), ([], []), ([3, 4], [3, 4]), ([5], [5]), ([6], [6]), ([1, 7], [1, 7]), ([0, 1, 2, 3, 4, 5, 6, 7, 8], []), ([9, 8, 8, 0, 1, 2, 3, 4, 5, 6, 7, 8], [8, 9])])
def ostinatolaw23_Sys_made.B5 : List Nat := [0, 1, 0, 4, 0, 28, 60, 124, 255, 511, 1023]
theorem ostinatolaw23_Sys_made.tab5 : rtab .any (opsOf Tryd.f7 5) = ostinatolaw23_Sys_made.T5 := by kernel_rfl
theorem ostinatolaw23_Sys_made.bits5 : waitsOk ostinatolaw23_Sys_made.T5.2 ostinatolaw23_Sys_made.B5 = true := by kernel_rfl
set_option maxHeartbeats 8000000 in
set_option maxRecDepth 100000 in
theorem ostinatolaw23_Sys_made.calls (k : Nat) (a0_0 : Int) (a0_1 : Int) (P0_2_ : Nat → Prop) (A0_2 : Option Addr) (c0_2 : Nat) (l0_2 : List (S58)) (r1 : Int) (r2 : Int) (r3 : List (S85)) (w : World) (hs0_2 : Kd.V k58 58 w w.heap.size (fun k_ => P0_2_ k_) (.slice A0_2 l0_2.length c0_2) l0_2) (h : ostinatolaw23_Sys_made.f k a0_0 a0_1 l0_2 = some (r1, r2, r3)) :
    Calls Tryd.prog 7 #[.agg #[.int .i64 a0_0, .int .i64 a0_1, .slice A0_2 l0_2.length c0_2]] w fun e w' => ∃ v2_ : Value, e = .returned (.agg #[.int .i64 r1, .int .i64 r2, v2_]) ∧ Kd.N k85 85 w' w.heap.size (fun k_ => (P0_2_ k_ ∨ w.heap.size ≤ k_)) v2_ r3 ∧ Below w.heap.size w w' := by
  have hu24 := Tryd.underlying24
  have hu31 := Tryd.underlying31
  have hu55 := Tryd.underlying55
  have hu58 := Tryd.underlying58
  have HO0_2 := Aside0.mk (show Kd.V k58 58 w w.heap.size (fun k_ => (P0_2_ k_ ∨ w.heap.size ≤ k_)) (.slice A0_2 l0_2.length c0_2) l0_2 from Kd.V_mono hs0_2 (fun k_ hk => .inl hk))
  have HB := Aside0.mk (Below.refl w.heap.size w)
  have H : (ostinatolaw23_Sys_made.l0 k 0 a0_0 a0_1 l0_2 a0_0 a0_1 ([] : List (S57))) = some (r1, r2, r3) := h
  clear h
  have H' := Aside0.mk H
  clear H
  go_enter Tryd.func7, Tryd.ntmps7
  go_wp2_with (first | ((with_reducible refine gate_dst (N := 1) rfl ?_); refine box_event ?hg (N := 1) ?hd (cs := #[.int .i64 a0_0, .int .i64 a0_1, .slice A0_2 l0_2.length c0_2]) (t := 24) ?hr ?_; (case hd => rfl); (case hg => rfl); (case hr => first | (go_simp; done) | (go_simp; rfl)); intro gb179 hg w2 hbox hb; have n0_ := Aside0.mk (Kd.V_below (Kd.V_elderB (by (with_reducible repeat (first | apply Kd.V_alloc | apply Kd.V_drewN | apply Kd.V_drew)); exact HO0_2.out) gb179 (Nat.le_of_eq hg.symm)) hb); have n1_ := Aside0.mk (below_step (by repeat (first | (with_reducible first | exact HB.out | apply below_alloc | apply pw_below_drewN | apply below_drew1) | exact HB.out)) hb); have n2_ := Aside0.mk (hbox); have n3_ := Aside0.mk ((by rw [hg]; exact (below_size (by repeat (first | (with_reducible first | exact HB.out | apply below_alloc | apply pw_below_drewN | apply below_drew1) | exact HB.out))) : w.heap.size ≤ gb179)); have n4_ := Aside0.mk ((by rw [hg]; exact (below_size (by repeat (first | (with_reducible first | exact HB.out | apply below_alloc | apply pw_below_drewN | apply below_drew1) | exact HB.out))) : w.heap.size ≤ gb179)); clear HO0_2; clear HB; have HO0_2 := n0_; have HB := n1_; have BK179 := n2_; have GW179 := n3_; have GE179 := n4_; clear n0_ n1_ n2_ n3_ n4_; clear hb hbox hg) | ((with_reducible refine gate_dst (N := 2) rfl ?_); refine box_event ?hg (N := 2) ?hd (cs := #[.int .i64 0, .int .i64 0, .slice none 0 0]) (t := 31) ?hr ?_; (case hd => rfl); (case hg => rfl); (case hr => first | (go_simp; done) | (go_simp; rfl)); intro gb180 hg w3 hbox hb; have n0_ := Aside0.mk (Kd.V_below (Kd.V_elderB (by (with_reducible repeat (first | apply Kd.V_alloc | apply Kd.V_drewN | apply Kd.V_drew)); exact HO0_2.out) gb180 (Nat.le_of_eq hg.symm)) hb); have n1_ := Aside0.mk (blk_below (g := gb179) (o := .cells #[.int .i64 a0_0, .int .i64 a0_1, .slice A0_2 l0_2.length c0_2] 24 (0, 0)) (by (with_reducible repeat (first | refine blk_drewN ?_ _ | refine blk_drew ?_ | refine blk_alloc ?_ _)); exact BK179.out) hb); have n2_ := Aside0.mk (below_step (by repeat (first | (with_reducible first | exact HB.out | apply below_alloc | apply pw_below_drewN | apply below_drew1 | refine below_set ?_ GE179.out) | exact HB.out)) hb); have n3_ := Aside0.mk (hbox); have n4_ := Aside0.mk ((by rw [hg]; exact (below_size (by repeat (first | (with_reducible first | exact HB.out | apply below_alloc | apply pw_below_drewN | apply below_drew1 | refine below_set ?_ GE179.out) | exact HB.out))) : w.heap.size ≤ gb180)); have n5_ := Aside0.mk ((by rw [hg]; exact (below_size (by repeat (first | (with_reducible first | exact HB.out | apply below_alloc | apply pw_below_drewN | apply below_drew1 | refine below_set ?_ GE179.out) | exact HB.out))) : w.heap.size ≤ gb180)); have n6_ := Aside0.mk ((by rw [hg]; exact Nat.ne_of_lt (blk_lt (g := gb179) (o := .cells #[.int .i64 a0_0, .int .i64 a0_1, .slice A0_2 l0_2.length c0_2] 24 (0, 0)) (by (with_reducible repeat (first | refine blk_drewN ?_ _ | refine blk_drew ?_ | refine blk_alloc ?_ _)); exact BK179.out)) : gb179 ≠ gb180)); have n7_ := Aside0.mk ((by rw [hg]; exact Nat.ne_of_gt (blk_lt (g := gb179) (o := .cells #[.int .i64 a0_0, .int .i64 a0_1, .slice A0_2 l0_2.length c0_2] 24 (0, 0)) (by (with_reducible repeat (first | refine blk_drewN ?_ _ | refine blk_drew ?_ | refine blk_alloc ?_ _)); exact BK179.out)) : gb180 ≠ gb179)); clear HO0_2; clear BK179; clear HB; have HO0_2 := n0_; have BK179 := n1_; have HB := n2_; have BK180 := n3_; have GW180 := n4_; have GE180 := n5_; have NB179_180 := n6_; have NB180_179 := n7_; clear n0_ n1_ n2_ n3_ n4_ n5_ n6_ n7_; clear hb hbox hg; have hnb4 := NB179_180.out; have hnc4 := NB180_179.out; have hcz5_0 : w3.cell? ⟨gb179, 0, none⟩ = some (.int .i64 a0_0) := (blk_cell BK179.out 0).trans rfl; have hcz5_1 : w3.cell? ⟨gb179, 1, none⟩ = some (.int .i64 a0_1) := (blk_cell BK179.out 1).trans rfl; have hcz5_2 : w3.cell? ⟨gb179, 2, none⟩ = some (.slice A0_2 l0_2.length c0_2) := (blk_cell BK179.out 2).trans rfl; have hfz5_0 := blk_frozen BK179.out 0; have hfz5_1 := blk_frozen BK179.out 1; have hfz5_2 := blk_frozen BK179.out 2) | ((with_reducible refine gate_dst (N := 3) rfl ?_); refine box_event ?hg (N := 3) ?hd (cs := #[.int .i64 0, .int .i64 0, .slice none 0 0]) (t := 55) ?hr ?_; (case hd => rfl); (case hg => rfl); (case hr => first | (go_simp; done) | (go_simp; rfl)); intro gb181 hg w6 hbox hb; have n0_ := Aside0.mk (Kd.V_below (Kd.V_elderB (by (with_reducible repeat (first | apply Kd.V_alloc | apply Kd.V_drewN | apply Kd.V_drew)); exact HO0_2.out) gb181 (Nat.le_of_eq hg.symm)) hb); have n1_ := Aside0.mk (blk_below (g := gb179) (o := .cells #[.int .i64 a0_0, .int .i64 a0_1, .slice A0_2 l0_2.length c0_2] 24 (0, 0)) (by (with_reducible repeat (first | refine blk_drewN ?_ _ | refine blk_drew ?_ | refine blk_alloc ?_ _)); exact BK179.out) hb); have n2_ := Aside0.mk (blk_below (g := gb180) (o := .cells #[.int .i64 0, .int .i64 0, .slice none 0 0] 31 (0, 0)) (by (with_reducible repeat (first | refine blk_drewN ?_ _ | refine blk_drew ?_ | refine blk_alloc ?_ _)); exact BK180.out) hb); have n3_ := Aside0.mk (below_step (by repeat (first | (with_reducible first | exact HB.out | apply below_alloc | apply pw_below_drewN | apply below_drew1 | refine below_set ?_ GE179.out | refine below_set ?_ GE180.out) | exact HB.out)) hb); have n4_ := Aside0.mk (hbox); have n5_ := Aside0.mk ((by rw [hg]; exact (below_size (by repeat (first | (with_reducible first | exact HB.out | apply below_alloc | apply pw_below_drewN | apply below_drew1 | refine below_set ?_ GE179.out | refine below_set ?_ GE180.out) | exact HB.out))) : w.heap.size ≤ gb181)); have n6_ := Aside0.mk ((by rw [hg]; exact (below_size (by repeat (first | (with_reducible first | exact HB.out | apply below_alloc | apply pw_below_drewN | apply below_drew1 | refine below_set ?_ GE179.out | refine below_set ?_ GE180.out) | exact HB.out))) : w.heap.size ≤ gb181)); have n7_ := Aside0.mk ((by rw [hg]; exact Nat.ne_of_lt (blk_lt (g := gb179) (o := .cells #[.int .i64 a0_0, .int .i64 a0_1, .slice A0_2 l0_2.length c0_2] 24 (0, 0)) (by (with_reducible repeat (first | refine blk_drewN ?_ _ | refine blk_drew ?_ | refine blk_alloc ?_ _)); exact BK179.out)) : gb179 ≠ gb181)); have n8_ := Aside0.mk ((by rw [hg]; exact Nat.ne_of_gt (blk_lt (g := gb179) (o := .cells #[.int .i64 a0_0, .int .i64 a0_1, .slice A0_2 l0_2.length c0_2] 24 (0, 0)) (by (with_reducible repeat (first | refine blk_drewN ?_ _ | refine blk_drew ?_ | refine blk_alloc ?_ _)); exact BK179.out)) : gb181 ≠ gb179)); have n9_ := Aside0.mk ((by rw [hg]; exact Nat.ne_of_lt (blk_lt (g := gb180) (o := .cells #[.int .i64 0, .int .i64 0, .slice none 0 0] 31 (0, 0)) (by (with_reducible repeat (first | refine blk_drewN ?_ _ | refine blk_drew ?_ | refine blk_alloc ?_ _)); exact BK180.out)) : gb180 ≠ gb181)); have n10_ := Aside0.mk ((by rw [hg]; exact Nat.ne_of_gt (blk_lt (g := gb180) (o := .cells #[.int .i64 0, .int .i64 0, .slice none 0 0] 31 (0, 0)) (by (with_reducible repeat (first | refine blk_drewN ?_ _ | refine blk_drew ?_ | refine blk_alloc ?_ _)); exact BK180.out)) : gb181 ≠ gb180)); clear HO0_2; clear BK179; clear BK180; clear HB; have HO0_2 := n0_; have BK179 := n1_; have BK180 := n2_; have HB := n3_; have BK181 := n4_; have GW181 := n5_; have GE181 := n6_; have NB179_181 := n7_; have NB181_179 := n8_; have NB180_181 := n9_; have NB181_180 := n10_; clear n0_ n1_ n2_ n3_ n4_ n5_ n6_ n7_ n8_ n9_ n10_; clear hb hbox hg; have hnb7 := NB181_179.out; have hnc7 := NB179_181.out; have hnb8 := NB181_180.out; have hnc8 := NB180_181.out; have hcz9_0 : w6.cell? ⟨gb181, 0, none⟩ = some (.int .i64 0) := (blk_cell BK181.out 0).trans rfl; have hcz9_1 : w6.cell? ⟨gb181, 1, none⟩ = some (.int .i64 0) := (blk_cell BK181.out 1).trans rfl; have hcz9_2 : w6.cell? ⟨gb181, 2, none⟩ = some (.slice none 0 0) := (blk_cell BK181.out 2).trans rfl; have hfz9_0 := blk_frozen BK181.out 0; have hfz9_1 := blk_frozen BK181.out 1; have hfz9_2 := blk_frozen BK181.out 2))
  go_loopg [4] k (fun kq v4 w' => ∃ (x4_1 : Int) (x182002_1 : List (S57)) (u182002 : Value), v4 = .int .i64 x4_1 ∧ Aside0 (ostinatolaw23_Sys_made.l0 kq x4_1 a0_0 a0_1 l0_2 a0_0 a0_1 x182002_1 = some (r1, r2, r3)) ∧ Aside0 (kq ≤ k) ∧ Aside0 (Kd.V k58 58 w' w.heap.size (fun k_ => (P0_2_ k_ ∨ w.heap.size ≤ k_) ∧ some k_ ≠ (u182002 : Value).ownBlock ∧ k_ ≠ gb179 ∧ k_ ≠ gb180 ∧ k_ ≠ gb181) (.slice A0_2 l0_2.length c0_2) l0_2) ∧ Aside0 (Kd.N k57 57 w' w.heap.size (fun k_ => (P0_2_ k_ ∨ w.heap.size ≤ k_) ∧ k_ ≠ gb179 ∧ k_ ≠ gb180 ∧ k_ ≠ gb181) u182002 x182002_1) ∧ Aside0 (w'.heap[gb179]? = some (.cells #[.int .i64 a0_0, .int .i64 a0_1, (.slice A0_2 l0_2.length c0_2)] 24 (0, 0))) ∧ Aside0 (w'.heap[gb180]? = some (.cells #[.int .i64 0, .int .i64 0, (.slice none 0 0)] 31 (0, 0))) ∧ Aside0 (w'.heap[gb181]? = some (.cells #[.int .i64 a0_0, .int .i64 a0_1, u182002] 55 (0, 0))) ∧ Aside0 (Below w.heap.size w w'))
  case atStart => exact ⟨(0), (([] : List (S57))), (.slice none 0 0), (by first | rfl | (simp; done) | (simp [*]; done)), H', ⟨Nat.le_refl _⟩, ⟨by (with_reducible repeat (first | apply Kd.V_alloc | apply Kd.V_drewN | apply Kd.V_drew)); exact Kd.V_mono (Kd.V_far (p := ⟨gb181, 2, none⟩) (Kd.V_far (p := ⟨gb181, 1, none⟩) (Kd.V_far (p := ⟨gb181, 0, none⟩) (Kd.V_mono HO0_2.out (fun k_ hk => (⟨hk, hk.2⟩ : _ ∧ k_ ≠ gb181))) (fun _ hk => hk.2) (.int .i64 a0_0)) (fun _ hk => hk.2) (.int .i64 a0_1)) (fun _ hk => hk.2) (.slice none 0 0)) (fun _ hk => ⟨hk.1.1.1.1, ⟨(by simp [Value.ownBlock]), ⟨hk.1.1.1.2, ⟨hk.1.1.2, hk.1.2⟩⟩⟩⟩)⟩, ⟨by first | exact Kd.S_nil _ _ _ _ _ | exact Kd.N_nil _ _ _ _ _ | exact Kd.V_nil _ _ _ _ _ | exact Kd.Q_nil _ _ _ _ _ | exact Kd.R_nil _ _ _ _ _⟩, ⟨by (with_reducible repeat (first | refine blk_drewN ?_ _ | refine blk_drew ?_ | refine blk_alloc ?_ _)); refine blk_far ?_ NB179_181.out _; (with_reducible repeat (first | refine blk_drewN ?_ _ | refine blk_drew ?_ | refine blk_alloc ?_ _)); refine blk_far ?_ NB179_181.out _; (with_reducible repeat (first | refine blk_drewN ?_ _ | refine blk_drew ?_ | refine blk_alloc ?_ _)); refine blk_far ?_ NB179_181.out _; (with_reducible repeat (first | refine blk_drewN ?_ _ | refine blk_drew ?_ | refine blk_alloc ?_ _)); exact BK179.out⟩, ⟨by (with_reducible repeat (first | refine blk_drewN ?_ _ | refine blk_drew ?_ | refine blk_alloc ?_ _)); refine blk_far ?_ NB180_181.out _; (with_reducible repeat (first | refine blk_drewN ?_ _ | refine blk_drew ?_ | refine blk_alloc ?_ _)); refine blk_far ?_ NB180_181.out _; (with_reducible repeat (first | refine blk_drewN ?_ _ | refine blk_drew ?_ | refine blk_alloc ?_ _)); refine blk_far ?_ NB180_181.out _; (with_reducible repeat (first | refine blk_drewN ?_ _ | refine blk_drew ?_ | refine blk_alloc ?_ _)); exact BK180.out⟩, ⟨by (with_reducible repeat (first | refine blk_drewN ?_ _ | refine blk_drew ?_ | refine blk_alloc ?_ _)); refine blk_put (cs := #[.int .i64 a0_0, .int .i64 a0_1, .slice none 0 0]) ?_ 2 _ rfl; (with_reducible repeat (first | refine blk_drewN ?_ _ | refine blk_drew ?_ | refine blk_alloc ?_ _)); refine blk_put (cs := #[.int .i64 a0_0, .int .i64 0, .slice none 0 0]) ?_ 1 _ rfl; (with_reducible repeat (first | refine blk_drewN ?_ _ | refine blk_drew ?_ | refine blk_alloc ?_ _)); refine blk_put (cs := #[.int .i64 0, .int .i64 0, .slice none 0 0]) ?_ 0 _ rfl; (with_reducible repeat (first | refine blk_drewN ?_ _ | refine blk_drew ?_ | refine blk_alloc ?_ _)); exact BK181.out⟩, ⟨by repeat (first | (with_reducible first | exact HB.out | apply below_alloc | apply pw_below_drewN | apply below_drew1 | refine below_set ?_ GE179.out | refine below_set ?_ GE180.out | refine below_set ?_ GE181.out) | exact HB.out)⟩⟩
  case round =>
    clear H'
    try clear p2
    try clear c4
    try clear c7
    try clear c8
    try clear hcz5_0
    try clear hcz5_1
    try clear hcz5_2
    try clear hcz9_0
    try clear hcz9_1
    try clear hcz9_2
    try clear hfz5_0
    try clear hfz5_1
    try clear hfz5_2
    try clear hfz9_0
    try clear hfz9_1
    try clear hfz9_2
    obtain ⟨x4_1, x182002_1, u182002, rfl, HA, HK1, HO_180002, HO_182002, BK179, BK180, BK181, HB⟩ := hrel
    cases gk with
    | zero => exact absurd HA.out (by simp [ostinatolaw23_Sys_made.l0])
    | succ k1 =>
      have H := HA.out
      clear HA
      simp only [ostinatolaw23_Sys_made.l0] at H
      by_cases c10 : x4_1 < (l0_2.length : Int)
      · rw [if_pos c10] at H
        have c10b0 : decide (x4_1 < (l0_2.length : Int)) = true := decide_eq_true c10
        clear c10
        by_cases c11 : x4_1 < 6
        · rw [if_pos c11] at H
          have c11b0 : decide (x4_1 < 6) = true := decide_eq_true c11
          clear c11
          by_cases c12 : 0 ≤ x4_1
          · rw [if_pos c12] at H
            have c12b0 : decide (0 ≤ x4_1) = true := decide_eq_true c12
            clear c12
            by_cases c13 : x182002_1.length < 2199023255552
            · rw [if_pos c13] at H
              have LMc13 := Aside0.mk c13
              clear c13
              obtain ⟨y183, hy183⟩ : ∃ y_ : List (S57), y_ = (x182002_1 ++ [(⟨(rd_T58 l0_2 x4_1).f0, (rd_T58 l0_2 x4_1).f1, (rd_T58 l0_2 x4_1).f2, (rd_T58 l0_2 x4_1).f3, (rd_T58 l0_2 x4_1).f4, (rd_T58 l0_2 x4_1).f5⟩ : S57)]) := ⟨_, rfl⟩
              replace H : (ostinatolaw23_Sys_made.l0 k1 (wrap64 (x4_1 + 1)) a0_0 a0_1 l0_2 a0_0 a0_1 y183) = some (r1, r2, r3) := by first | (rw [hy183]; with_reducible exact H) | (have H2_ := (Option.bind_some _ _).symm.trans H; rw [hy183]; with_reducible exact H2_) | (have H2_ := (Option.bind_some _ _).symm.trans H; with_reducible exact H2_) | with_reducible exact H | (rw [hy183]; exact H) | exact H
              have Ny183 := Aside0.mk hy183
              clear hy183
              have H' := Aside0.mk H
              clear H
              have hnb14 := NB179_180.out
              have hnc14 := NB180_179.out
              have hnb15 := NB179_181.out
              have hnc15 := NB181_179.out
              have hcz16_0 : wr.cell? ⟨gb179, 0, none⟩ = some (.int .i64 a0_0) := (blk_cell BK179.out 0).trans rfl
              have hcz16_1 : wr.cell? ⟨gb179, 1, none⟩ = some (.int .i64 a0_1) := (blk_cell BK179.out 1).trans rfl
              have hcz16_2 : wr.cell? ⟨gb179, 2, none⟩ = some (.slice A0_2 l0_2.length c0_2) := (blk_cell BK179.out 2).trans rfl
              have hfz16_0 := blk_frozen BK179.out 0
              have hfz16_1 := blk_frozen BK179.out 1
              have hfz16_2 := blk_frozen BK179.out 2
              try go_wp2
              have n0_ := Aside0.mk (Kd.V_drew HO_180002.out)
              have n1_ := Aside0.mk (Kd.N_drew HO_182002.out)
              have n2_ := Aside0.mk (blk_drew BK179.out)
              have n3_ := Aside0.mk (blk_drew BK180.out)
              have n4_ := Aside0.mk (blk_drew BK181.out)
              have n5_ := Aside0.mk (below_drew1 HB.out)
              clear HO_180002
              clear HO_182002
              clear BK179
              clear BK180
              clear BK181
              clear HB
              have HO_180002 := n0_
              have HO_182002 := n1_
              have BK179 := n2_
              have BK180 := n3_
              have BK181 := n4_
              have HB := n5_
              clear n0_ n1_ n2_ n3_ n4_ n5_
              have p182 : 0 ≤ (x4_1 : Int) := of_decide_eq_true (by first | (with_reducible assumption) | assumption)
              have q182 : x4_1 < (l0_2.length : Int) := of_decide_eq_true (by first | (with_reducible assumption) | assumption)
              obtain ⟨ad182, A182_5, c182_5, e182, hx182_0, hx182_1, hx182_2, hx182_3, hx182_4, hx182_5, hl182_5, hi182_5⟩ := at_T58 (Kd.V_reads' HO_180002.out).2.2 x4_1 p182 q182
              cases e182
              obtain ⟨ce182, hce182, hMe182, hcc182⟩ := Kd.V_get HO_180002.out z58 x4_1 p182 (by first | exact q182 | exact of_decide_eq_true (by first | (with_reducible assumption) | assumption) | (have e_ := (Kd.V_reads' HO_180002.out).1; omega))
              obtain ⟨ua182_5, uc182_5, rfl, ul182_5, ge182_5⟩ := k58_openF hMe182
              have hv182_5 := hcc182 5 _ rfl
              rw [add_field _ _ 5 (by omega)] at hv182_5
              replace hv182_5 := Option.some.inj (hv182_5.symm.trans hx182_5)
              injection hv182_5 with hva_ hvn_ hvc_
              rw [hva_] at ge182_5
              rw [hvc_] at ul182_5
              have HL182_5 := Aside0.mk (show Kd.V (Kd.int .i64) 3 _ w.heap.size _ _ ((rd_T58 l0_2 x4_1).f5) from Kd.V_mk ul182_5 ge182_5)
              clear hva_ hvn_ hvc_ ge182_5 ul182_5
              clear hcc182 hce182
              have HR182_5 := Aside0.mk hi182_5
              have HC182_5 := Aside0.mk hl182_5
              clear hi182_5 hl182_5
              replace p182 := eq_true p182
              replace q182 := eq_true q182
              refine start_ (n := 11) (S := fun w' => w'.cell? ⟨gb181, 0, none⟩ = some (.int .i64 a0_0) ∧ w'.cell? ⟨gb181, 1, none⟩ = some (.int .i64 a0_1) ∧ w'.cell? ⟨gb181, 2, none⟩ = some (u182002) ∧ w'.cell? ⟨gb179, 0, none⟩ = some (.int .i64 a0_0) ∧ w'.cell? ⟨gb179, 1, none⟩ = some (.int .i64 a0_1) ∧ w'.cell? ⟨gb179, 2, none⟩ = some (.slice (some ad182) l0_2.length c0_2) ∧ w'.cell? (ad182.add ((x4_1).toNat * 6)) = some (.int .i64 ((rd_T58 l0_2 x4_1).f0)) ∧ w'.cell? ⟨(ad182.add ((x4_1).toNat * 6)).block, (ad182.add ((x4_1).toNat * 6)).off + 1, none⟩ = some (.int .i64 ((rd_T58 l0_2 x4_1).f1)) ∧ w'.cell? ⟨(ad182.add ((x4_1).toNat * 6)).block, (ad182.add ((x4_1).toNat * 6)).off + 2, none⟩ = some (.int .i64 ((rd_T58 l0_2 x4_1).f2)) ∧ w'.cell? ⟨(ad182.add ((x4_1).toNat * 6)).block, (ad182.add ((x4_1).toNat * 6)).off + 3, none⟩ = some (.int .i64 ((rd_T58 l0_2 x4_1).f3)) ∧ w'.cell? ⟨(ad182.add ((x4_1).toNat * 6)).block, (ad182.add ((x4_1).toNat * 6)).off + 4, none⟩ = some (.int .i64 ((rd_T58 l0_2 x4_1).f4)) ∧ w'.cell? ⟨(ad182.add ((x4_1).toNat * 6)).block, (ad182.add ((x4_1).toNat * 6)).off + 5, none⟩ = some (.slice A182_5 ((rd_T58 l0_2 x4_1).f5).length c182_5)) (ds := [8, 10]) #[false, false, false, false, false, false, false, false, false, false, false] (by kernel_rfl) rfl rfl ⟨(blk_cell BK181.out 0).trans rfl, (blk_cell BK181.out 1).trans rfl, (blk_cell BK181.out 2).trans rfl, (blk_cell BK179.out 0).trans rfl, (blk_cell BK179.out 1).trans rfl, (blk_cell BK179.out 2).trans rfl, hx182_0, hx182_1, hx182_2, hx182_3, hx182_4, hx182_5⟩ (fun hHeld => ?_); refine with_tabW ostinatolaw23_Sys_made.tab5 ostinatolaw23_Sys_made.bits5 (fun HT_ HW_ => ?_)
              generalize wr.drew = w17 at HO_180002 HO_182002 BK179 BK180 BK181 HB HL182_5 HR182_5 hx182_0 hx182_1 hx182_2 hx182_3 hx182_4 hx182_5 hHeld ⊢
              refine pure_ (i := 0) (N := some 21) (v := ?_) (a' := ?_) #[true, false, false, false, false, false, false, false, false, false, false] rfl rfl (any_of HT_.out (by kernel_rfl)) (fun _ _ _ h => h) (Or.inl ⟨by rfl, ?_⟩) ?_ ?_
              rotate_left
              · intro w'
                go_simp
                with_reducible rfl
              rotate_left
              · simp only [Act.put, List.setIfInBounds_toArray, List.set_cons_zero, List.set_cons_succ, i64_w, i32_w]
                rfl
              refine pure_ (i := 2) (N := some 23) (v := ?_) (a' := ?_) #[true, false, true, false, false, false, false, false, false, false, false] rfl rfl (any_of HT_.out (by kernel_rfl)) (fun _ _ _ h => h) (Or.inl ⟨by rfl, ?_⟩) ?_ ?_
              rotate_left
              · intro w'
                go_simp
                with_reducible rfl
              rotate_left
              · simp only [Act.put, List.setIfInBounds_toArray, List.set_cons_zero, List.set_cons_succ, i64_w, i32_w]
                rfl
              refine pure_ (i := 4) (N := some 25) (v := ?_) (a' := ?_) #[true, false, true, false, true, false, false, false, false, false, false] rfl rfl (any_of HT_.out (by kernel_rfl)) (fun _ _ _ h => h) (Or.inl ⟨by rfl, ?_⟩) ?_ ?_
              rotate_left
              · intro w'
                go_simp
                with_reducible rfl
              rotate_left
              · simp only [Act.put, List.setIfInBounds_toArray, List.set_cons_zero, List.set_cons_succ, i64_w, i32_w]
                rfl
              refine take_ (i := 1) (N := some 22) (v := ?_) (a' := ?_) #[true, true, true, false, true, false, false, false, false, false, false] rfl rfl (take_ofW HT_.out HW_.out (by kernel_rfl)) (fun _ _ _ h => h) (Or.inl ⟨by rfl, ?_⟩) hHeld ?_ ?_
              rotate_left
              · rintro w' ⟨s0, s1, s2, s3, s4, s5, s6, s7, s8, s9, s10, s11⟩
                go_simp
                with_reducible rfl
              rotate_left
              · simp only [Act.put, List.setIfInBounds_toArray, List.set_cons_zero, List.set_cons_succ, i64_w, i32_w]
                rfl
              refine take_ (i := 3) (N := some 24) (v := ?_) (a' := ?_) #[true, true, true, true, true, false, false, false, false, false, false] rfl rfl (take_ofW HT_.out HW_.out (by kernel_rfl)) (fun _ _ _ h => h) (Or.inl ⟨by rfl, ?_⟩) hHeld ?_ ?_
              rotate_left
              · rintro w' ⟨s0, s1, s2, s3, s4, s5, s6, s7, s8, s9, s10, s11⟩
                go_simp
                with_reducible rfl
              rotate_left
              · simp only [Act.put, List.setIfInBounds_toArray, List.set_cons_zero, List.set_cons_succ, i64_w, i32_w]
                rfl
              refine pure_ (i := 5) (N := some 26) (v := ?_) (a' := ?_) #[true, true, true, true, true, true, false, false, false, false, false] rfl rfl (any_of HT_.out (by kernel_rfl)) (fun _ _ _ h => h) (Or.inl ⟨by rfl, ?_⟩) ?_ ?_
              rotate_left
              · intro w'
                go_simp
                with_reducible rfl
              rotate_left
              · simp only [Act.put, List.setIfInBounds_toArray, List.set_cons_zero, List.set_cons_succ, i64_w, i32_w]
                rfl
              refine take_ (i := 6) (N := some 27) (v := ?_) (a' := ?_) #[true, true, true, true, true, true, true, false, false, false, false] rfl rfl (take_ofW HT_.out HW_.out (by kernel_rfl)) (fun _ _ _ h => h) (Or.inl ⟨by rfl, ?_⟩) hHeld ?_ ?_
              rotate_left
              · rintro w' ⟨s0, s1, s2, s3, s4, s5, s6, s7, s8, s9, s10, s11⟩
                go_simp
                with_reducible rfl
              rotate_left
              · simp only [Act.put, List.setIfInBounds_toArray, List.set_cons_zero, List.set_cons_succ, i64_w, i32_w]
                rfl
              refine one_ (i := 7) (N := some 28) #[true, true, true, true, true, true, true, true, false, false, false] rfl rfl (one_of HT_.out (by kernel_rfl)) (by decide) (fun K hK => ?_)
              refine value_ (w1 := ?_) (v := ?_) (by rfl) rfl ?_ ?_
              rotate_left 2
              · go_simp
                constructor
                · rfl
                · rfl
              refine hK.out _ _ ⟨(blk_cell (blk_alloc BK181.out _) 0).trans rfl, (blk_cell (blk_alloc BK181.out _) 1).trans rfl, (blk_cell (blk_alloc BK181.out _) 2).trans rfl, (blk_cell (blk_alloc BK179.out _) 0).trans rfl, (blk_cell (blk_alloc BK179.out _) 1).trans rfl, (blk_cell (blk_alloc BK179.out _) 2).trans rfl, (World.cell?_alloc_lt _ _ _ (World.block_lt_of_cell? _ _ (hHeld.2.2.2.2.2.2.1))).trans (hHeld.2.2.2.2.2.2.1), (World.cell?_alloc_lt _ _ _ (World.block_lt_of_cell? _ _ (hHeld.2.2.2.2.2.2.2.1))).trans (hHeld.2.2.2.2.2.2.2.1), (World.cell?_alloc_lt _ _ _ (World.block_lt_of_cell? _ _ (hHeld.2.2.2.2.2.2.2.2.1))).trans (hHeld.2.2.2.2.2.2.2.2.1), (World.cell?_alloc_lt _ _ _ (World.block_lt_of_cell? _ _ (hHeld.2.2.2.2.2.2.2.2.2.1))).trans (hHeld.2.2.2.2.2.2.2.2.2.1), (World.cell?_alloc_lt _ _ _ (World.block_lt_of_cell? _ _ (hHeld.2.2.2.2.2.2.2.2.2.2.1))).trans (hHeld.2.2.2.2.2.2.2.2.2.2.1), (World.cell?_alloc_lt _ _ _ (World.block_lt_of_cell? _ _ (hHeld.2.2.2.2.2.2.2.2.2.2.2))).trans (hHeld.2.2.2.2.2.2.2.2.2.2.2)⟩ (fun hHeld => ?_)
              clear hK K
              refine norm_ (a' := ?_) ?_ ?_
              rotate_left
              · show Act.put _ (some 28) _ = _
                simp only [Act.put, List.setIfInBounds_toArray, List.set_cons_zero, List.set_cons_succ, i64_w, i32_w]
                rfl
              refine last_ (i := 8) (N := some 29) #[true, true, true, true, true, true, true, true, true, false, false] rfl rfl (one_of HT_.out (by kernel_rfl)) (by decide) (fun K hK => ?_)
              refine Kd.N_append_step k57 (w0 := w) w.heap.size (by rfl) (.tmp 22) (.tmp 28) 53 57 (.agg #[(.int .i64 0), (.int .i64 0), (.int .i64 0), (.int .i64 0), (.int .i64 0), (.slice none 0 0)]) 64 rfl Tryd.underlying53 info57 rfl (by decide) (by omega) u182002 x182002_1 (⟨(rd_T58 l0_2 x4_1).f0, (rd_T58 l0_2 x4_1).f1, (rd_T58 l0_2 x4_1).f2, (rd_T58 l0_2 x4_1).f3, (rd_T58 l0_2 x4_1).f4, (rd_T58 l0_2 x4_1).f5⟩ : S57) [.int .i64 ((rd_T58 l0_2 x4_1).f0), .int .i64 ((rd_T58 l0_2 x4_1).f1), .int .i64 ((rd_T58 l0_2 x4_1).f2), .int .i64 ((rd_T58 l0_2 x4_1).f3), .int .i64 ((rd_T58 l0_2 x4_1).f4), .slice A182_5 ((rd_T58 l0_2 x4_1).f5).length c182_5] (fun k_ => (P0_2_ k_ ∨ w.heap.size ≤ k_) ∧ k_ ≠ gb179 ∧ k_ ≠ gb180 ∧ k_ ≠ gb181) (fun k_ => ((fun k_ => (P0_2_ k_ ∨ w.heap.size ≤ k_) ∧ k_ ≠ gb179 ∧ k_ ≠ gb180 ∧ k_ ≠ gb181)) k_ ∧ some k_ ≠ (u182002 : Value).ownBlock) rfl rfl ?aP (fun _ hk => hk) ?aF ?aO ?aB ?aS ?aL ?_
              (case aP => exact (k57_mkF _ _ (⟨(rd_T58 l0_2 x4_1).f0, (rd_T58 l0_2 x4_1).f1, (rd_T58 l0_2 x4_1).f2, (rd_T58 l0_2 x4_1).f3, (rd_T58 l0_2 x4_1).f4, (rd_T58 l0_2 x4_1).f5⟩ : S57) (Kd.V_reads' (Kd.V_mono (ok' := (fun k_ => ((fun k_ => (P0_2_ k_ ∨ w.heap.size ≤ k_) ∧ k_ ≠ gb179 ∧ k_ ≠ gb180 ∧ k_ ≠ gb181)) k_ ∧ some k_ ≠ (u182002 : Value).ownBlock)) (HL182_5.out) (fun k_ hk => ⟨⟨hk.1, ⟨hk.2.2.1, ⟨hk.2.2.2.1, hk.2.2.2.2⟩⟩⟩, hk.2.1⟩))).2.1 (Kd.V_F (Kd.V_mono (ok' := (fun k_ => ((fun k_ => (P0_2_ k_ ∨ w.heap.size ≤ k_) ∧ k_ ≠ gb179 ∧ k_ ≠ gb180 ∧ k_ ≠ gb181)) k_ ∧ some k_ ≠ (u182002 : Value).ownBlock)) (HL182_5.out) (fun k_ hk => ⟨⟨hk.1, ⟨hk.2.2.1, ⟨hk.2.2.2.1, hk.2.2.2.2⟩⟩⟩, hk.2.1⟩)))))
              (case aB => exact (by repeat (first | (with_reducible first | exact HB.out | apply below_alloc | apply pw_below_drewN | apply below_drew1 | refine below_set ?_ GE179.out | refine below_set ?_ GE180.out | refine below_set ?_ GE181.out) | exact HB.out)))
              (case aF => exact (fun k_ hk => ⟨(.inr (Nat.le_trans (below_size (by repeat (first | (with_reducible first | exact HB.out | apply below_alloc | apply pw_below_drewN | apply below_drew1 | refine below_set ?_ GE179.out | refine below_set ?_ GE180.out | refine below_set ?_ GE181.out) | exact HB.out))) hk)), Kd.freshB (g := gb179) (o := .cells #[.int .i64 a0_0, .int .i64 a0_1, .slice (some ad182) l0_2.length c0_2] 24 (0, 0)) (by (with_reducible repeat (first | refine blk_drewN ?_ _ | refine blk_drew ?_ | refine blk_alloc ?_ _)); exact BK179.out) k_ hk, Kd.freshB (g := gb180) (o := .cells #[.int .i64 0, .int .i64 0, .slice none 0 0] 31 (0, 0)) (by (with_reducible repeat (first | refine blk_drewN ?_ _ | refine blk_drew ?_ | refine blk_alloc ?_ _)); exact BK180.out) k_ hk, Kd.freshB (g := gb181) (o := .cells #[.int .i64 a0_0, .int .i64 a0_1, u182002] 55 (0, 0)) (by (with_reducible repeat (first | refine blk_drewN ?_ _ | refine blk_drew ?_ | refine blk_alloc ?_ _)); exact BK181.out) k_ hk⟩))
              (case aO => exact (by (with_reducible repeat (first | apply Kd.N_alloc | apply Kd.N_drewN | apply Kd.N_drew)); exact HO_182002.out))
              (case aS => exact (below_size (by repeat (first | (with_reducible first | exact HB.out | apply below_alloc | apply pw_below_drewN | apply below_drew1 | refine below_set ?_ GE179.out | refine below_set ?_ GE180.out | refine below_set ?_ GE181.out) | exact HB.out))))
              (case aL => have := LMc13.out; omega)
              intro v184 w18 ho hb hg hat
              rw [← Ny183.out] at ho
              have n0_ := Aside0.mk (Kd.V_afterv (ok := (fun k_ => (P0_2_ k_ ∨ w.heap.size ≤ k_) ∧ k_ ≠ gb179 ∧ k_ ≠ gb180 ∧ k_ ≠ gb181)) (by (with_reducible repeat (first | apply Kd.V_alloc | apply Kd.V_drewN | apply Kd.V_drew)); exact Kd.V_mono HO_180002.out (fun _ hk => ⟨⟨hk.1, ⟨hk.2.2.1, ⟨hk.2.2.2.1, hk.2.2.2.2⟩⟩⟩, hk.2.1⟩)) hg hat)
              have n1_ := Aside0.mk (blk_grown (g := gb179) (o := .cells #[.int .i64 a0_0, .int .i64 a0_1, .slice (some ad182) l0_2.length c0_2] 24 (0, 0)) (by (with_reducible repeat (first | refine blk_drewN ?_ _ | refine blk_drew ?_ | refine blk_alloc ?_ _)); exact BK179.out) hg (Kd.N_ne HO_182002.out BK179.out (by decide)))
              have n2_ := Aside0.mk (blk_grown (g := gb180) (o := .cells #[.int .i64 0, .int .i64 0, .slice none 0 0] 31 (0, 0)) (by (with_reducible repeat (first | refine blk_drewN ?_ _ | refine blk_drew ?_ | refine blk_alloc ?_ _)); exact BK180.out) hg (Kd.N_ne HO_182002.out BK180.out (by decide)))
              have n3_ := Aside0.mk (blk_grown (g := gb181) (o := .cells #[.int .i64 a0_0, .int .i64 a0_1, u182002] 55 (0, 0)) (by (with_reducible repeat (first | refine blk_drewN ?_ _ | refine blk_drew ?_ | refine blk_alloc ?_ _)); exact BK181.out) hg (Kd.N_ne HO_182002.out BK181.out (by decide)))
              have n4_ := Aside0.mk (Kd.V_afterv (ok := (fun k_ => (P0_2_ k_ ∨ w.heap.size ≤ k_) ∧ k_ ≠ gb179 ∧ k_ ≠ gb180 ∧ k_ ≠ gb181)) (by (with_reducible repeat (first | apply Kd.V_alloc | apply Kd.V_drewN | apply Kd.V_drew)); exact Kd.V_mono HL182_5.out (fun _ hk => ⟨⟨hk.1, ⟨hk.2.2.1, ⟨hk.2.2.2.1, hk.2.2.2.2⟩⟩⟩, hk.2.1⟩)) hg hat)
              have n5_ := Aside0.mk (hb)
              have n6_ := Aside0.mk (ho)
              clear HO_180002
              clear BK179
              clear BK180
              clear BK181
              clear HL182_5
              clear HB
              clear HO_182002
              have HO_180002 := n0_
              have BK179 := n1_
              have BK180 := n2_
              have BK181 := n3_
              have HL182_5 := n4_
              have HB := n5_
              have HO185 := n6_
              clear n0_ n1_ n2_ n3_ n4_ n5_ n6_
              clear ho hb hg hat
              obtain ⟨Ao19, co19, eo19⟩ := Kd.N_slice HO185.out
              (first | subst eo19 | (injection eo19 with f1_ f2_ f3_; have f4_ := f1_.symm; have f5_ := f3_.symm; clear f1_ f2_ f3_; subst f4_; subst f5_))
              refine hK.out _ _ ?_
              clear hK K
              refine norm_ (a' := ?_) ?_ ?_
              rotate_left
              · show Act.put _ (some 29) _ = _
                simp only [Act.put, List.setIfInBounds_toArray, List.set_cons_zero, List.set_cons_succ, i64_w, i32_w]
                rfl
              refine pure_ (i := 9) (N := some 30) (v := ?_) (a' := ?_) #[true, true, true, true, true, true, true, true, true, true, false] rfl rfl (any_of HT_.out (by kernel_rfl)) (fun _ _ _ h => h) (Or.inl ⟨by rfl, ?_⟩) ?_ ?_
              rotate_left
              · intro w'
                go_simp
                with_reducible rfl
              rotate_left
              · simp only [Act.put, List.setIfInBounds_toArray, List.set_cons_zero, List.set_cons_succ, i64_w, i32_w]
                rfl
              refine last_ (i := 10) (N := none) #[true, true, true, true, true, true, true, true, true, true, true] rfl rfl (one_of HT_.out (by kernel_rfl)) (by decide) (fun K hK => ?_)
              have hs20 : w18.cell? ⟨gb181, 2, none⟩ = some (u182002) := (blk_cell BK181.out 2).trans rfl
              have hfs20 := blk_frozen BK181.out 2
              have hns20_0 := NB179_181.out
              have hns20_1 := NB180_181.out
              have hms20_0 := NB181_179.out
              have hms20_1 := NB181_180.out
              refine skip_ (w1 := ?_) (by rfl) rfl ?_ ?_
              rotate_left
              · go_simp
                rfl
              refine hK.out _ _ ?_
              clear hK K
              refine done_ (done_of HT_.out (by kernel_rfl)) ?_
              try go_wp2
              go_roundg k1
              case measure => have := HK1.out; omega
              case rel => exact ⟨(wrap64 (x4_1 + 1)), (y183), (.slice Ao19 y183.length co19), (by first | rfl | (simp; done) | (simp [*]; done)), H', ⟨by have := HK1.out; omega⟩, ⟨by (with_reducible repeat (first | apply Kd.V_alloc | apply Kd.V_drewN | apply Kd.V_drew)); exact Kd.V_mono (Kd.V_far (p := ⟨gb181, 2, none⟩) (Kd.V_mono HO_180002.out (fun k_ hk => (⟨hk, hk.1.2.2.2⟩ : _ ∧ k_ ≠ gb181))) (fun _ hk => hk.2) (.slice Ao19 y183.length co19)) (fun _ hk => ⟨hk.1.1.1, ⟨hk.1.2, ⟨hk.1.1.2.1, ⟨hk.1.1.2.2.1, hk.1.1.2.2.2⟩⟩⟩⟩)⟩, ⟨by (with_reducible repeat (first | apply Kd.N_alloc | apply Kd.N_drewN | apply Kd.N_drew)); exact Kd.N_mono (Kd.N_far (p := ⟨gb181, 2, none⟩) (Kd.N_mono HO185.out (fun k_ hk => (⟨hk, hk.2.2.2⟩ : _ ∧ k_ ≠ gb181))) (fun _ hk => hk.2) (.slice Ao19 y183.length co19)) (fun _ hk => ⟨hk.1.1, ⟨hk.1.2.1, ⟨hk.1.2.2.1, hk.1.2.2.2⟩⟩⟩)⟩, ⟨by (with_reducible repeat (first | refine blk_drewN ?_ _ | refine blk_drew ?_ | refine blk_alloc ?_ _)); refine blk_far ?_ NB179_181.out _; (with_reducible repeat (first | refine blk_drewN ?_ _ | refine blk_drew ?_ | refine blk_alloc ?_ _)); exact BK179.out⟩, ⟨by (with_reducible repeat (first | refine blk_drewN ?_ _ | refine blk_drew ?_ | refine blk_alloc ?_ _)); refine blk_far ?_ NB180_181.out _; (with_reducible repeat (first | refine blk_drewN ?_ _ | refine blk_drew ?_ | refine blk_alloc ?_ _)); exact BK180.out⟩, ⟨by (with_reducible repeat (first | refine blk_drewN ?_ _ | refine blk_drew ?_ | refine blk_alloc ?_ _)); refine blk_put (cs := #[.int .i64 a0_0, .int .i64 a0_1, u182002]) ?_ 2 _ rfl; (with_reducible repeat (first | refine blk_drewN ?_ _ | refine blk_drew ?_ | refine blk_alloc ?_ _)); exact BK181.out⟩, ⟨by repeat (first | (with_reducible first | exact HB.out | apply below_alloc | apply pw_below_drewN | apply below_drew1 | refine below_set ?_ GE179.out | refine below_set ?_ GE180.out | refine below_set ?_ GE181.out) | exact HB.out)⟩⟩
            · rw [if_neg c13] at H
              exact absurd H (by simp)
          · rw [if_neg c12] at H
            exact absurd H (by simp)
        · rw [if_neg c11] at H
          have c11b0 : decide (x4_1 < 6) = false := decide_eq_false c11
          clear c11
          replace H := Option.bind_eq_some_iff.mp H
          obtain ⟨⟨t186, t187, t188⟩, A210, H⟩ := H
          replace H : (some (t186, t187, t188)) = some (r1, r2, r3) := H
          have A21 := Aside0.mk A210
          clear A210
          simp only [Option.some.injEq, Prod.mk.injEq] at H
          obtain ⟨rfl, rfl, rfl⟩ := H
          have hnb22 := NB179_180.out
          have hnc22 := NB180_179.out
          have hnb23 := NB179_181.out
          have hnc23 := NB181_179.out
          have hcz24_0 : wr.cell? ⟨gb179, 0, none⟩ = some (.int .i64 a0_0) := (blk_cell BK179.out 0).trans rfl
          have hcz24_1 : wr.cell? ⟨gb179, 1, none⟩ = some (.int .i64 a0_1) := (blk_cell BK179.out 1).trans rfl
          have hcz24_2 : wr.cell? ⟨gb179, 2, none⟩ = some (.slice A0_2 l0_2.length c0_2) := (blk_cell BK179.out 2).trans rfl
          have hfz24_0 := blk_frozen BK179.out 0
          have hfz24_1 := blk_frozen BK179.out 1
          have hfz24_2 := blk_frozen BK179.out 2
          have hnb25 := NB181_180.out
          have hnc25 := NB180_181.out
          have hcz26_0 : wr.cell? ⟨gb181, 0, none⟩ = some (.int .i64 a0_0) := (blk_cell BK181.out 0).trans rfl
          have hcz26_1 : wr.cell? ⟨gb181, 1, none⟩ = some (.int .i64 a0_1) := (blk_cell BK181.out 1).trans rfl
          have hcz26_2 : wr.cell? ⟨gb181, 2, none⟩ = some (u182002) := (blk_cell BK181.out 2).trans rfl
          have hfz26_0 := blk_frozen BK181.out 0
          have hfz26_1 := blk_frozen BK181.out 1
          have hfz26_2 := blk_frozen BK181.out 2
          obtain ⟨Ao27, co27, eo27⟩ := Kd.N_slice HO_182002.out
          subst eo27
          go_wp2_with (first | ((with_reducible refine gate_callee (f := 16) rfl ?_); refine goesL_ (some 32) rfl rfl Tryd.func16 (by kernel_rfl) rfl #[.agg #[.int .i64 a0_0, .int .i64 a0_1, .slice Ao27 x182002_1.length co27]] rfl (by (try simp only [List.map_toArray, List.map_cons, List.map_nil]); first | done | rfl | (simp only [List.length_drop, List.length_take]; rfl)) ?_; (with_reducible refine (ostinatoref05_System_Made.calls k1 a0_0 a0_1 _ _ x182002_1 t186 t187 t188 _ ?side1 ?side2 A21.out).mono ?_); (case side1 => repeat (first | exact (Kd.N_reads' HO_182002.out).2.2 | (with_reducible refine Kd.C_alloc ?_ _) | (with_reducible refine Kd.C_drewN ?_ _) | (with_reducible refine Kd.C_drew ?_))); (case side2 => exact (Kd.N_reads' HO_182002.out).2.1); rintro e w28 ⟨v189, rfl, ho0, hb⟩; refine ⟨_, rfl, ?_⟩; have n0_ := Aside0.mk (Kd.V_elder' (by (with_reducible repeat (first | apply Kd.V_alloc | apply Kd.V_drewN | apply Kd.V_drew)); exact HO_180002.out) (Kd.S_base ho0) hb); have n1_ := Aside0.mk (Kd.N_elder' (by (with_reducible repeat (first | apply Kd.N_alloc | apply Kd.N_drewN | apply Kd.N_drew)); exact HO_182002.out) (Kd.S_base ho0) hb); have n2_ := Aside0.mk (Kd.N_lower (Kd.N_mono (ok' := fun k_ => (P0_2_ k_ ∨ w.heap.size ≤ k_) ∧ some k_ ≠ (.slice Ao27 x182002_1.length co27 : Value).ownBlock ∧ k_ ≠ gb179 ∧ k_ ≠ gb180 ∧ k_ ≠ gb181) (Kd.S_N (Kd.S_bound ho0)) (fun k_ hk_ => ⟨(.inr (Nat.le_trans (below_size (by repeat (first | (with_reducible first | exact HB.out | apply below_alloc | apply pw_below_drewN | apply below_drew1 | refine below_set ?_ GE179.out | refine below_set ?_ GE180.out | refine below_set ?_ GE181.out) | exact HB.out))) hk_.2.1)), (Kd.fresh' (Kd.N_lt (by (with_reducible repeat (first | apply Kd.N_alloc | apply Kd.N_drewN | apply Kd.N_drew)); exact HO_182002.out)) k_ hk_.2.1), (Kd.freshB (g := gb179) (o := .cells #[.int .i64 a0_0, .int .i64 a0_1, .slice A0_2 l0_2.length c0_2] 24 (0, 0)) (by (with_reducible repeat (first | refine blk_drewN ?_ _ | refine blk_drew ?_ | refine blk_alloc ?_ _)); exact BK179.out) k_ hk_.2.1), (Kd.freshB (g := gb180) (o := .cells #[.int .i64 0, .int .i64 0, .slice none 0 0] 31 (0, 0)) (by (with_reducible repeat (first | refine blk_drewN ?_ _ | refine blk_drew ?_ | refine blk_alloc ?_ _)); exact BK180.out) k_ hk_.2.1), (Kd.freshB (g := gb181) (o := .cells #[.int .i64 a0_0, .int .i64 a0_1, .slice Ao27 x182002_1.length co27] 55 (0, 0)) (by (with_reducible repeat (first | refine blk_drewN ?_ _ | refine blk_drew ?_ | refine blk_alloc ?_ _)); exact BK181.out) k_ hk_.2.1)⟩)) (below_size (by repeat (first | (with_reducible first | exact HB.out | apply below_alloc | apply pw_below_drewN | apply below_drew1 | refine below_set ?_ GE179.out | refine below_set ?_ GE180.out | refine below_set ?_ GE181.out) | exact HB.out)))); have n3_ := Aside0.mk (blk_below (g := gb179) (o := .cells #[.int .i64 a0_0, .int .i64 a0_1, .slice A0_2 l0_2.length c0_2] 24 (0, 0)) (by (with_reducible repeat (first | refine blk_drewN ?_ _ | refine blk_drew ?_ | refine blk_alloc ?_ _)); exact BK179.out) hb); have n4_ := Aside0.mk (blk_below (g := gb180) (o := .cells #[.int .i64 0, .int .i64 0, .slice none 0 0] 31 (0, 0)) (by (with_reducible repeat (first | refine blk_drewN ?_ _ | refine blk_drew ?_ | refine blk_alloc ?_ _)); exact BK180.out) hb); have n5_ := Aside0.mk (blk_below (g := gb181) (o := .cells #[.int .i64 a0_0, .int .i64 a0_1, .slice Ao27 x182002_1.length co27] 55 (0, 0)) (by (with_reducible repeat (first | refine blk_drewN ?_ _ | refine blk_drew ?_ | refine blk_alloc ?_ _)); exact BK181.out) hb); have n6_ := Aside0.mk (below_step (by repeat (first | (with_reducible first | exact HB.out | apply below_alloc | apply pw_below_drewN | apply below_drew1 | refine below_set ?_ GE179.out | refine below_set ?_ GE180.out | refine below_set ?_ GE181.out) | exact HB.out)) hb); clear HO_180002; clear HO_182002; clear BK179; clear BK180; clear BK181; clear HB; have HO_180002 := n0_; have HO_182002 := n1_; have HO190 := n2_; have BK179 := n3_; have BK180 := n4_; have BK181 := n5_; have HB := n6_; clear n0_ n1_ n2_ n3_ n4_ n5_ n6_; (try clear hb); (try clear hb2); (try clear hk); (try clear hi); (try clear ho0); have hcz29_0 : w28.cell? ⟨gb180, 0, none⟩ = some (.int .i64 0) := (blk_cell BK180.out 0).trans rfl; have hcz29_1 : w28.cell? ⟨gb180, 1, none⟩ = some (.int .i64 0) := (blk_cell BK180.out 1).trans rfl; have hcz29_2 : w28.cell? ⟨gb180, 2, none⟩ = some (.slice none 0 0) := (blk_cell BK180.out 2).trans rfl; have hfz29_0 := blk_frozen BK180.out 0; have hfz29_1 := blk_frozen BK180.out 1; have hfz29_2 := blk_frozen BK180.out 2; obtain ⟨Ao30, co30, eo30⟩ := Kd.N_slice HO190.out; subst eo30))
          refine bodyPost_ret (results_cell_row rfl _ _ gb180 31 #[.int .i64 t186, .int .i64 t187, .slice Ao30 t188.length co30] (0, 0) _ rfl (by (with_reducible repeat (first | refine blk_drewN ?_ _ | refine blk_drew ?_ | refine blk_alloc ?_ _)); refine blk_put (cs := #[.int .i64 t186, .int .i64 t187, .slice none 0 0]) ?_ 2 _ rfl; (with_reducible repeat (first | refine blk_drewN ?_ _ | refine blk_drew ?_ | refine blk_alloc ?_ _)); refine blk_put (cs := #[.int .i64 t186, .int .i64 0, .slice none 0 0]) ?_ 1 _ rfl; (with_reducible repeat (first | refine blk_drewN ?_ _ | refine blk_drew ?_ | refine blk_alloc ?_ _)); refine blk_put (cs := #[.int .i64 0, .int .i64 0, .slice none 0 0]) ?_ 0 _ rfl; (with_reducible repeat (first | refine blk_drewN ?_ _ | refine blk_drew ?_ | refine blk_alloc ?_ _)); exact BK180.out) Tryd.underlying31 rfl (by kernel_rfl)) rfl ?_
          exact ⟨_, by first | rfl | (simp [errW_none, errW_some] <;> rfl) | (simp [bneNil, bneNilU] <;> rfl) | (simp [*, errW_none, errW_some] <;> rfl), by (with_reducible repeat (first | apply Kd.N_alloc | apply Kd.N_drewN | apply Kd.N_drew)); exact Kd.N_mono (Kd.N_far (p := ⟨gb180, 2, none⟩) (Kd.N_far (p := ⟨gb180, 1, none⟩) (Kd.N_far (p := ⟨gb180, 0, none⟩) (Kd.N_mono HO190.out (fun k_ hk => (⟨hk, hk.2.2.2.1⟩ : _ ∧ k_ ≠ gb180))) (fun _ hk => hk.2) (.int .i64 t186)) (fun _ hk => hk.2) (.int .i64 t187)) (fun _ hk => hk.2) (.slice Ao30 t188.length co30)) (fun _ hk => hk.1.1), by repeat (first | (with_reducible first | exact HB.out | apply below_alloc | apply pw_below_drewN | apply below_drew1 | refine below_set ?_ GE179.out | refine below_set ?_ GE180.out | refine below_set ?_ GE181.out) | exact HB.out)⟩
      · rw [if_neg c10] at H
        have c10b0 : decide (x4_1 < (l0_2.length : Int)) = false := decide_eq_false c10
        clear c10
        replace H := Option.bind_eq_some_iff.mp H
        obtain ⟨⟨t191, t192, t193⟩, A310, H⟩ := H
        replace H : (some (t191, t192, t193)) = some (r1, r2, r3) := H
        have A31 := Aside0.mk A310
        clear A310
        simp only [Option.some.injEq, Prod.mk.injEq] at H
        obtain ⟨rfl, rfl, rfl⟩ := H
        have hnb32 := NB179_180.out
        have hnc32 := NB180_179.out
        have hnb33 := NB179_181.out
        have hnc33 := NB181_179.out
        have hcz34_0 : wr.cell? ⟨gb179, 0, none⟩ = some (.int .i64 a0_0) := (blk_cell BK179.out 0).trans rfl
        have hcz34_1 : wr.cell? ⟨gb179, 1, none⟩ = some (.int .i64 a0_1) := (blk_cell BK179.out 1).trans rfl
        have hcz34_2 : wr.cell? ⟨gb179, 2, none⟩ = some (.slice A0_2 l0_2.length c0_2) := (blk_cell BK179.out 2).trans rfl
        have hfz34_0 := blk_frozen BK179.out 0
        have hfz34_1 := blk_frozen BK179.out 1
        have hfz34_2 := blk_frozen BK179.out 2
        have hnb35 := NB181_180.out
        have hnc35 := NB180_181.out
        have hcz36_0 : wr.cell? ⟨gb181, 0, none⟩ = some (.int .i64 a0_0) := (blk_cell BK181.out 0).trans rfl
        have hcz36_1 : wr.cell? ⟨gb181, 1, none⟩ = some (.int .i64 a0_1) := (blk_cell BK181.out 1).trans rfl
        have hcz36_2 : wr.cell? ⟨gb181, 2, none⟩ = some (u182002) := (blk_cell BK181.out 2).trans rfl
        have hfz36_0 := blk_frozen BK181.out 0
        have hfz36_1 := blk_frozen BK181.out 1
        have hfz36_2 := blk_frozen BK181.out 2
        obtain ⟨Ao37, co37, eo37⟩ := Kd.N_slice HO_182002.out
        subst eo37
        go_wp2_with (first | ((with_reducible refine gate_callee (f := 16) rfl ?_); refine goesL_ (some 32) rfl rfl Tryd.func16 (by kernel_rfl) rfl #[.agg #[.int .i64 a0_0, .int .i64 a0_1, .slice Ao37 x182002_1.length co37]] rfl (by (try simp only [List.map_toArray, List.map_cons, List.map_nil]); first | done | rfl | (simp only [List.length_drop, List.length_take]; rfl)) ?_; (with_reducible refine (ostinatoref05_System_Made.calls k1 a0_0 a0_1 _ _ x182002_1 t191 t192 t193 _ ?side1 ?side2 A31.out).mono ?_); (case side1 => repeat (first | exact (Kd.N_reads' HO_182002.out).2.2 | (with_reducible refine Kd.C_alloc ?_ _) | (with_reducible refine Kd.C_drewN ?_ _) | (with_reducible refine Kd.C_drew ?_))); (case side2 => exact (Kd.N_reads' HO_182002.out).2.1); rintro e w38 ⟨v194, rfl, ho0, hb⟩; refine ⟨_, rfl, ?_⟩; have n0_ := Aside0.mk (Kd.V_elder' (by (with_reducible repeat (first | apply Kd.V_alloc | apply Kd.V_drewN | apply Kd.V_drew)); exact HO_180002.out) (Kd.S_base ho0) hb); have n1_ := Aside0.mk (Kd.N_elder' (by (with_reducible repeat (first | apply Kd.N_alloc | apply Kd.N_drewN | apply Kd.N_drew)); exact HO_182002.out) (Kd.S_base ho0) hb); have n2_ := Aside0.mk (Kd.N_lower (Kd.N_mono (ok' := fun k_ => (P0_2_ k_ ∨ w.heap.size ≤ k_) ∧ some k_ ≠ (.slice Ao37 x182002_1.length co37 : Value).ownBlock ∧ k_ ≠ gb179 ∧ k_ ≠ gb180 ∧ k_ ≠ gb181) (Kd.S_N (Kd.S_bound ho0)) (fun k_ hk_ => ⟨(.inr (Nat.le_trans (below_size (by repeat (first | (with_reducible first | exact HB.out | apply below_alloc | apply pw_below_drewN | apply below_drew1 | refine below_set ?_ GE179.out | refine below_set ?_ GE180.out | refine below_set ?_ GE181.out) | exact HB.out))) hk_.2.1)), (Kd.fresh' (Kd.N_lt (by (with_reducible repeat (first | apply Kd.N_alloc | apply Kd.N_drewN | apply Kd.N_drew)); exact HO_182002.out)) k_ hk_.2.1), (Kd.freshB (g := gb179) (o := .cells #[.int .i64 a0_0, .int .i64 a0_1, .slice A0_2 l0_2.length c0_2] 24 (0, 0)) (by (with_reducible repeat (first | refine blk_drewN ?_ _ | refine blk_drew ?_ | refine blk_alloc ?_ _)); exact BK179.out) k_ hk_.2.1), (Kd.freshB (g := gb180) (o := .cells #[.int .i64 0, .int .i64 0, .slice none 0 0] 31 (0, 0)) (by (with_reducible repeat (first | refine blk_drewN ?_ _ | refine blk_drew ?_ | refine blk_alloc ?_ _)); exact BK180.out) k_ hk_.2.1), (Kd.freshB (g := gb181) (o := .cells #[.int .i64 a0_0, .int .i64 a0_1, .slice Ao37 x182002_1.length co37] 55 (0, 0)) (by (with_reducible repeat (first | refine blk_drewN ?_ _ | refine blk_drew ?_ | refine blk_alloc ?_ _)); exact BK181.out) k_ hk_.2.1)⟩)) (below_size (by repeat (first | (with_reducible first | exact HB.out | apply below_alloc | apply pw_below_drewN | apply below_drew1 | refine below_set ?_ GE179.out | refine below_set ?_ GE180.out | refine below_set ?_ GE181.out) | exact HB.out)))); have n3_ := Aside0.mk (blk_below (g := gb179) (o := .cells #[.int .i64 a0_0, .int .i64 a0_1, .slice A0_2 l0_2.length c0_2] 24 (0, 0)) (by (with_reducible repeat (first | refine blk_drewN ?_ _ | refine blk_drew ?_ | refine blk_alloc ?_ _)); exact BK179.out) hb); have n4_ := Aside0.mk (blk_below (g := gb180) (o := .cells #[.int .i64 0, .int .i64 0, .slice none 0 0] 31 (0, 0)) (by (with_reducible repeat (first | refine blk_drewN ?_ _ | refine blk_drew ?_ | refine blk_alloc ?_ _)); exact BK180.out) hb); have n5_ := Aside0.mk (blk_below (g := gb181) (o := .cells #[.int .i64 a0_0, .int .i64 a0_1, .slice Ao37 x182002_1.length co37] 55 (0, 0)) (by (with_reducible repeat (first | refine blk_drewN ?_ _ | refine blk_drew ?_ | refine blk_alloc ?_ _)); exact BK181.out) hb); have n6_ := Aside0.mk (below_step (by repeat (first | (with_reducible first | exact HB.out | apply below_alloc | apply pw_below_drewN | apply below_drew1 | refine below_set ?_ GE179.out | refine below_set ?_ GE180.out | refine below_set ?_ GE181.out) | exact HB.out)) hb); clear HO_180002; clear HO_182002; clear BK179; clear BK180; clear BK181; clear HB; have HO_180002 := n0_; have HO_182002 := n1_; have HO195 := n2_; have BK179 := n3_; have BK180 := n4_; have BK181 := n5_; have HB := n6_; clear n0_ n1_ n2_ n3_ n4_ n5_ n6_; (try clear hb); (try clear hb2); (try clear hk); (try clear hi); (try clear ho0); have hcz39_0 : w38.cell? ⟨gb180, 0, none⟩ = some (.int .i64 0) := (blk_cell BK180.out 0).trans rfl; have hcz39_1 : w38.cell? ⟨gb180, 1, none⟩ = some (.int .i64 0) := (blk_cell BK180.out 1).trans rfl; have hcz39_2 : w38.cell? ⟨gb180, 2, none⟩ = some (.slice none 0 0) := (blk_cell BK180.out 2).trans rfl; have hfz39_0 := blk_frozen BK180.out 0; have hfz39_1 := blk_frozen BK180.out 1; have hfz39_2 := blk_frozen BK180.out 2; obtain ⟨Ao40, co40, eo40⟩ := Kd.N_slice HO195.out; subst eo40))
        refine bodyPost_ret (results_cell_row rfl _ _ gb180 31 #[.int .i64 t191, .int .i64 t192, .slice Ao40 t193.length co40] (0, 0) _ rfl (by (with_reducible repeat (first | refine blk_drewN ?_ _ | refine blk_drew ?_ | refine blk_alloc ?_ _)); refine blk_put (cs := #[.int .i64 t191, .int .i64 t192, .slice none 0 0]) ?_ 2 _ rfl; (with_reducible repeat (first | refine blk_drewN ?_ _ | refine blk_drew ?_ | refine blk_alloc ?_ _)); refine blk_put (cs := #[.int .i64 t191, .int .i64 0, .slice none 0 0]) ?_ 1 _ rfl; (with_reducible repeat (first | refine blk_drewN ?_ _ | refine blk_drew ?_ | refine blk_alloc ?_ _)); refine blk_put (cs := #[.int .i64 0, .int .i64 0, .slice none 0 0]) ?_ 0 _ rfl; (with_reducible repeat (first | refine blk_drewN ?_ _ | refine blk_drew ?_ | refine blk_alloc ?_ _)); exact BK180.out) Tryd.underlying31 rfl (by kernel_rfl)) rfl ?_
        exact ⟨_, by first | rfl | (simp [errW_none, errW_some] <;> rfl) | (simp [bneNil, bneNilU] <;> rfl) | (simp [*, errW_none, errW_some] <;> rfl), by (with_reducible repeat (first | apply Kd.N_alloc | apply Kd.N_drewN | apply Kd.N_drew)); exact Kd.N_mono (Kd.N_far (p := ⟨gb180, 2, none⟩) (Kd.N_far (p := ⟨gb180, 1, none⟩) (Kd.N_far (p := ⟨gb180, 0, none⟩) (Kd.N_mono HO195.out (fun k_ hk => (⟨hk, hk.2.2.2.1⟩ : _ ∧ k_ ≠ gb180))) (fun _ hk => hk.2) (.int .i64 t191)) (fun _ hk => hk.2) (.int .i64 t192)) (fun _ hk => hk.2) (.slice Ao40 t193.length co40)) (fun _ hk => hk.1.1), by repeat (first | (with_reducible first | exact HB.out | apply below_alloc | apply pw_below_drewN | apply below_drew1 | refine below_set ?_ GE179.out | refine below_set ?_ GE180.out | refine below_set ?_ GE181.out) | exact HB.out)⟩

def akTo (x : Ak) : S46 := ⟨x.a, x.t, x.d⟩
theorem reps_aks (R : S46 → List Value → Prop) (hR : ∀ x : Ak, R (akTo x) x.cells) : ∀ L : List Ak, Reps R 3 (L.map akTo) (L.flatMap Ak.cells) := by
  intro L
  induction L with
  | nil => exact Reps.none _ _
  | cons x r ih =>
    have h1 := (Reps.none R 3).snoc (hR x) rfl
    have := Kd.reps_append h1 ih
    simpa using this
theorem R_aks {w : World} {base : Nat} {v : Value} {L : List Ak} (h : w.ownsRow base 46 3 v L.length (L.flatMap Ak.cells)) : Kd.R k46 46 w base (fun _ => True) v (L.map akTo) :=
  ⟨fun _ _ => trivial, L.flatMap Ak.cells, by rw [List.length_map]; exact h, reps_aks _ (fun x => k46_mkM w base _ (akTo x)) L⟩
def run_ParseScript.f (a0 : ByteArray) : Option (List S46 × Int × Bool) := if a0.size ≤ 65536 then some ((pv [] (lns (textW a0))).1.map akTo, (pv [] (lns (textW a0))).2.getD (a0.size : Int), (pv [] (lns (textW a0))).2.isNone) else none
theorem run_ParseScript.calls (a0 : ByteArray) (r1 : List S46) (r2 : Int) (r3 : Bool) (w : World) (h : run_ParseScript.f a0 = some (r1, r2, r3)) (hT : Tabs w) :
    Calls Tryd.prog 9 #[.string a0] w fun e w' => ∃ v0_ : Value, e = .returned (.tuple #[v0_, .int .i64 r2, .bool r3]) ∧ Kd.R k46 46 w' w.heap.size (fun _ => True) v0_ r1 ∧ Below w.heap.size w w' := by
  unfold run_ParseScript.f at h
  by_cases h1 : a0.size ≤ 65536
  · rw [if_pos h1] at h
    have h := Option.some.inj h
    obtain ⟨m, hm⟩ := hT.2
    refine (parse_any a0 h1 m w hm).mono ?_
    rintro e w' ⟨⟨v, rfl, ho⟩, hb⟩
    injection h with e1 h
    injection h with e2 e3
    subst e1 e2 e3
    exact ⟨v, rfl, R_aks ho, hb⟩
  · rw [if_neg h1] at h; cases h

def ostinatoref23_Same.l0 : Nat → List (S46) → List (S46) → Int → Option (Bool)
  | 0, _, _, _ => none
  | k + 1, x0, x1, x5 => if x5 < (x0.length : Int) then (if 0 ≤ x5 then (if x5 < (x1.length : Int) then (if (!(((rd_T46 x0 x5).f0) == ((rd_T46 x1 x5).f0)) || (!(((rd_T46 x0 x5).f1) == ((rd_T46 x1 x5).f1)) || (!(((rd_T46 x0 x5).f2) == ((rd_T46 x1 x5).f2))))) = true then (some false) else (ostinatoref23_Same.l0 k x0 x1 (wrap64 (x5 + 1)))) else (none)) else (none)) else (some true)
def ostinatoref23_Same.f (k : Nat) (l0 : List (S46)) (l1 : List (S46)) : Option (Bool) := if (l0.length : Int) = (l1.length : Int) then (ostinatoref23_Same.l0 k l0 l1 0) else (some false)
set_option maxHeartbeats 8000000 in
set_option maxRecDepth 100000 in
theorem ostinatoref23_Same.calls (k : Nat) (A0 : Option Addr) (c0 : Nat) (l0 : List (S46)) (A1 : Option Addr) (c1 : Nat) (l1 : List (S46)) (r : Bool) (w : World) (hr0 : Kd.C k46 w A0 l0.length l0) (hc0 : l0.length ≤ c0) (hr1 : Kd.C k46 w A1 l1.length l1) (hc1 : l1.length ≤ c1) (h : ostinatoref23_Same.f k l0 l1 = some r) :
    Calls Tryd.prog 10 #[.slice A0 l0.length c0, .slice A1 l1.length c1] w fun e w' => e = .returned (.bool r) ∧ Drawn0 w w' := by
  have hu46 := Tryd.underlying46
  have HR0 := Aside0.mk hr0
  have HC0 := Aside0.mk hc0
  clear hr0 hc0
  have HR1 := Aside0.mk hr1
  have HC1 := Aside0.mk hc1
  clear hr1 hc1
  have H : (if (l0.length : Int) = (l1.length : Int) then (ostinatoref23_Same.l0 k l0 l1 0) else (some false)) = some r := h
  clear h
  by_cases c3 : (l0.length : Int) = (l1.length : Int)
  · rw [if_pos c3] at H
    have c3b0 : ((l0.length : Int) == (l1.length : Int)) = true := beq_iff_eq.mpr c3
    have c3b1 : ((l0.length : Int) != (l1.length : Int)) = false := bne_eq_false_iff_eq.mpr c3
    have c3b2 : (l0.length == l1.length) = true := by first | simpa using c3 | (simp at c3 ⊢; omega)
    clear c3
    have H' := Aside0.mk H
    clear H
    go_enter Tryd.func10, Tryd.ntmps10
    go_wp2
    repeat (go_quiet (fail); try go_wp2)
    go_loopg [5] k (fun kq v5 w' => ∃ (x5_1 : Int), v5 = .int .i64 x5_1 ∧ Aside0 (ostinatoref23_Same.l0 kq l0 l1 x5_1 = some r) ∧ Aside0 (kq ≤ k) ∧ Drawn0 w w')
    case atStart => exact ⟨(0), (by first | rfl | (simp; done) | (simp [*]; done)), H', ⟨Nat.le_refl _⟩, by repeat (first | exact Drawn0.refl _ | apply Drawn0.step)⟩
    case round =>
      clear H'
      try clear c1
      try clear p2
      try clear c3
      try clear c3b0
      try clear c3b1
      try clear c3b2
      obtain ⟨x5_1, rfl, HA, HK1, ⟨m1, rfl⟩⟩ := hrel
      cases gk with
      | zero => exact absurd HA.out (by simp [ostinatoref23_Same.l0])
      | succ k1 =>
        have H := HA.out
        clear HA
        simp only [ostinatoref23_Same.l0] at H
        by_cases c4 : x5_1 < (l0.length : Int)
        · rw [if_pos c4] at H
          have c4b0 : decide (x5_1 < (l0.length : Int)) = true := decide_eq_true c4
          clear c4
          by_cases c5 : 0 ≤ x5_1
          · rw [if_pos c5] at H
            have c5b0 : decide (0 ≤ x5_1) = true := decide_eq_true c5
            clear c5
            by_cases c6 : x5_1 < (l1.length : Int)
            · rw [if_pos c6] at H
              have c6b0 : decide (x5_1 < (l1.length : Int)) = true := decide_eq_true c6
              clear c6
              by_cases c7 : (!(((rd_T46 l0 x5_1).f0) == ((rd_T46 l1 x5_1).f0)) || (!(((rd_T46 l0 x5_1).f1) == ((rd_T46 l1 x5_1).f1)) || (!(((rd_T46 l0 x5_1).f2) == ((rd_T46 l1 x5_1).f2))))) = true
              · rw [if_pos c7] at H
                have c7b0 : (!(((rd_T46 l0 x5_1).f0) == ((rd_T46 l1 x5_1).f0)) || (!(((rd_T46 l0 x5_1).f1) == ((rd_T46 l1 x5_1).f1)) || (!(((rd_T46 l0 x5_1).f2) == ((rd_T46 l1 x5_1).f2))))) = true := c7
                clear c7
                obtain rfl := Option.some.inj H
                have p200 : 0 ≤ (x5_1 : Int) := of_decide_eq_true (by first | (with_reducible assumption) | assumption)
                have q200 : x5_1 < (l0.length : Int) := of_decide_eq_true (by first | (with_reducible assumption) | assumption)
                obtain ⟨ad200, e200, hx200_0, hx200_1, hx200_2⟩ := at_T46 HR0.out x5_1 p200 q200
                cases e200
                replace p200 := eq_true p200
                replace q200 := eq_true q200
                have p201 : 0 ≤ (x5_1 : Int) := of_decide_eq_true (by first | (with_reducible assumption) | assumption)
                have q201 : x5_1 < (l1.length : Int) := of_decide_eq_true (by first | (with_reducible assumption) | assumption)
                obtain ⟨ad201, e201, hx201_0, hx201_1, hx201_2⟩ := at_T46 HR1.out x5_1 p201 q201
                cases e201
                replace p201 := eq_true p201
                replace q201 := eq_true q201
                go_wp2
                repeat (go_quiet (fail); try go_wp2)
                go_ret
                exact ⟨by first | rfl | (simp; done) | (simp [*]; done), by repeat (first | exact Drawn0.refl _ | apply Drawn0.step)⟩
              · rw [if_neg c7] at H
                have c7b0 : (!(((rd_T46 l0 x5_1).f0) == ((rd_T46 l1 x5_1).f0)) || (!(((rd_T46 l0 x5_1).f1) == ((rd_T46 l1 x5_1).f1)) || (!(((rd_T46 l0 x5_1).f2) == ((rd_T46 l1 x5_1).f2))))) = false := by simpa using c7
                clear c7
                have H' := Aside0.mk H
                clear H
                have p200 : 0 ≤ (x5_1 : Int) := of_decide_eq_true (by first | (with_reducible assumption) | assumption)
                have q200 : x5_1 < (l0.length : Int) := of_decide_eq_true (by first | (with_reducible assumption) | assumption)
                obtain ⟨ad200, e200, hx200_0, hx200_1, hx200_2⟩ := at_T46 HR0.out x5_1 p200 q200
                cases e200
                replace p200 := eq_true p200
                replace q200 := eq_true q200
                have p201 : 0 ≤ (x5_1 : Int) := of_decide_eq_true (by first | (with_reducible assumption) | assumption)
                have q201 : x5_1 < (l1.length : Int) := of_decide_eq_true (by first | (with_reducible assumption) | assumption)
                obtain ⟨ad201, e201, hx201_0, hx201_1, hx201_2⟩ := at_T46 HR1.out x5_1 p201 q201
                cases e201
                replace p201 := eq_true p201
                replace q201 := eq_true q201
                go_wp2
                repeat (go_quiet (fail); try go_wp2)
                go_roundg k1
                case measure => have := HK1.out; omega
                case rel => exact ⟨(wrap64 (x5_1 + 1)), (by first | rfl | (simp; done) | (simp [*]; done)), H', ⟨by have := HK1.out; omega⟩, by repeat (first | exact Drawn0.refl _ | apply Drawn0.step)⟩
            · rw [if_neg c6] at H
              exact absurd H (by simp)
          · rw [if_neg c5] at H
            exact absurd H (by simp)
        · rw [if_neg c4] at H
          have c4b0 : decide (x5_1 < (l0.length : Int)) = false := decide_eq_false c4
          clear c4
          obtain rfl := Option.some.inj H
          go_wp2
          repeat (go_quiet (fail); try go_wp2)
          go_ret
          exact ⟨by first | rfl | (simp; done) | (simp [*]; done), by repeat (first | exact Drawn0.refl _ | apply Drawn0.step)⟩
  · rw [if_neg c3] at H
    have c3b0 : ((l0.length : Int) == (l1.length : Int)) = false := beq_eq_false_iff_ne.mpr c3
    have c3b1 : ((l0.length : Int) != (l1.length : Int)) = true := bne_iff_ne.mpr c3
    have c3b2 : (l0.length == l1.length) = false := by first | simpa using c3 | (simp at c3 ⊢; omega)
    obtain rfl := Option.some.inj H
    go_enter Tryd.func10, Tryd.ntmps10
    go_wp2
    repeat (go_quiet (fail); try go_wp2)
    go_ret
    exact ⟨by first | rfl | (simp; done) | (simp [*]; done), by repeat (first | exact Drawn0.refl _ | apply Drawn0.step)⟩

def ostinatolaw23_RunBack.f (k : Nat) (a0_0 : Int) (a0_1 : Int) (l0_2 : List (S58)) (l1 : List (S51)) : Option (Bool) := (ostinatolaw23_awake.f).bind fun t203 => ((ostinatolaw23_Sys_made.f k a0_0 a0_1 l0_2).bind fun bt204 => ((ostinatolaw23_script.f k bt204.1 bt204.2.1 bt204.2.2 l1 30).bind fun t209 => ((run_Script.f t209).bind fun t212 => ((run_ParseScript.f t212).bind fun bt213 => ((ostinatoref23_Same.f k bt213.1 t209).bind fun t218 => (if t203 = true then (if bt213.2.2 = true then (if t218 = true then (if bt213.2.1 = (t212.size : Int) then (some ((t212.toList != ([] : List UInt8)) == (decide ((t209.length : Int) > 0)))) else (some false)) else (some false)) else (some false)) else (some false)))))))
set_option maxHeartbeats 8000000 in
set_option maxRecDepth 100000 in
theorem ostinatolaw23_RunBack.calls (k : Nat) (a0_0 : Int) (a0_1 : Int) (A0_2 : Option Addr) (c0_2 : Nat) (l0_2 : List (S58)) (A1 : Option Addr) (c1 : Nat) (l1 : List (S51)) (r : Bool) (w : World) (hr0_2 : Kd.C k58 w A0_2 l0_2.length l0_2) (hc0_2 : l0_2.length ≤ c0_2) (hr1 : Kd.C k51 w A1 l1.length l1) (hc1 : l1.length ≤ c1) (h : ostinatolaw23_RunBack.f k a0_0 a0_1 l0_2 l1 = some r) (hT : Tabs w) :
    Calls Tryd.prog 3 #[.agg #[.int .i64 a0_0, .int .i64 a0_1, .slice A0_2 l0_2.length c0_2], .slice A1 l1.length c1] w fun e w' => e = .returned (.bool r) ∧ Below w.heap.size w w' := by
  have hu24 := Tryd.underlying24
  have HR0_2 := Aside0.mk hr0_2
  have HC0_2 := Aside0.mk hc0_2
  clear hr0_2 hc0_2
  have HR1 := Aside0.mk hr1
  have HC1 := Aside0.mk hc1
  clear hr1 hc1
  have HB := Aside0.mk (Below.refl w.heap.size w)
  have H : ((ostinatolaw23_awake.f).bind fun t203 => ((ostinatolaw23_Sys_made.f k a0_0 a0_1 l0_2).bind fun bt204 => ((ostinatolaw23_script.f k bt204.1 bt204.2.1 bt204.2.2 l1 30).bind fun t209 => ((run_Script.f t209).bind fun t212 => ((run_ParseScript.f t212).bind fun bt213 => ((ostinatoref23_Same.f k bt213.1 t209).bind fun t218 => (if t203 = true then (if bt213.2.2 = true then (if t218 = true then (if bt213.2.1 = (t212.size : Int) then (some ((t212.toList != ([] : List UInt8)) == (decide ((t209.length : Int) > 0)))) else (some false)) else (some false)) else (some false)) else (some false)))))))) = some r := h
  clear h
  have HT := Aside0.mk hT
  clear hT
  replace H := Option.bind_eq_some_iff.mp H
  obtain ⟨t203, A30, H⟩ := H
  replace H : ((ostinatolaw23_Sys_made.f k a0_0 a0_1 l0_2).bind fun bt204 => ((ostinatolaw23_script.f k bt204.1 bt204.2.1 bt204.2.2 l1 30).bind fun t209 => ((run_Script.f t209).bind fun t212 => ((run_ParseScript.f t212).bind fun bt213 => ((ostinatoref23_Same.f k bt213.1 t209).bind fun t218 => (if t203 = true then (if bt213.2.2 = true then (if t218 = true then (if bt213.2.1 = (t212.size : Int) then (some ((t212.toList != ([] : List UInt8)) == (decide ((t209.length : Int) > 0)))) else (some false)) else (some false)) else (some false)) else (some false))))))) = some r := H
  have A3 := Aside0.mk A30
  clear A30
  replace H := Option.bind_eq_some_iff.mp H
  obtain ⟨⟨t204, t205, t206⟩, A40, H⟩ := H
  replace H : ((ostinatolaw23_script.f k t204 t205 t206 l1 30).bind fun t209 => ((run_Script.f t209).bind fun t212 => ((run_ParseScript.f t212).bind fun bt213 => ((ostinatoref23_Same.f k bt213.1 t209).bind fun t218 => (if t203 = true then (if bt213.2.2 = true then (if t218 = true then (if bt213.2.1 = (t212.size : Int) then (some ((t212.toList != ([] : List UInt8)) == (decide ((t209.length : Int) > 0)))) else (some false)) else (some false)) else (some false)) else (some false)))))) = some r := H
  have A4 := Aside0.mk A40
  clear A40
  replace H := Option.bind_eq_some_iff.mp H
  obtain ⟨t209, A50, H⟩ := H
  replace H : ((run_Script.f t209).bind fun t212 => ((run_ParseScript.f t212).bind fun bt213 => ((ostinatoref23_Same.f k bt213.1 t209).bind fun t218 => (if t203 = true then (if bt213.2.2 = true then (if t218 = true then (if bt213.2.1 = (t212.size : Int) then (some ((t212.toList != ([] : List UInt8)) == (decide ((t209.length : Int) > 0)))) else (some false)) else (some false)) else (some false)) else (some false))))) = some r := H
  have A5 := Aside0.mk A50
  clear A50
  replace H := Option.bind_eq_some_iff.mp H
  obtain ⟨t212, A60, H⟩ := H
  replace H : ((run_ParseScript.f t212).bind fun bt213 => ((ostinatoref23_Same.f k bt213.1 t209).bind fun t218 => (if t203 = true then (if bt213.2.2 = true then (if t218 = true then (if bt213.2.1 = (t212.size : Int) then (some ((t212.toList != ([] : List UInt8)) == (decide ((t209.length : Int) > 0)))) else (some false)) else (some false)) else (some false)) else (some false)))) = some r := H
  have A6 := Aside0.mk A60
  clear A60
  replace H := Option.bind_eq_some_iff.mp H
  obtain ⟨⟨t213, t214, t215⟩, A70, H⟩ := H
  replace H : ((ostinatoref23_Same.f k t213 t209).bind fun t218 => (if t203 = true then (if t215 = true then (if t218 = true then (if t214 = (t212.size : Int) then (some ((t212.toList != ([] : List UInt8)) == (decide ((t209.length : Int) > 0)))) else (some false)) else (some false)) else (some false)) else (some false))) = some r := H
  have A7 := Aside0.mk A70
  clear A70
  replace H := Option.bind_eq_some_iff.mp H
  obtain ⟨t218, A80, H⟩ := H
  replace H : (if t203 = true then (if t215 = true then (if t218 = true then (if t214 = (t212.size : Int) then (some ((t212.toList != ([] : List UInt8)) == (decide ((t209.length : Int) > 0)))) else (some false)) else (some false)) else (some false)) else (some false)) = some r := H
  have A8 := Aside0.mk A80
  clear A80
  by_cases c9 : t203 = true
  · subst c9
    have H1 : (if t215 = true then (if t218 = true then (if t214 = (t212.size : Int) then (some ((t212.toList != ([] : List UInt8)) == (decide ((t209.length : Int) > 0)))) else (some false)) else (some false)) else (some false)) = some r := by rw [if_pos rfl] at H; exact H
    clear H
    have H := H1
    clear H1
    by_cases c10 : t215 = true
    · subst c10
      have H1 : (if t218 = true then (if t214 = (t212.size : Int) then (some ((t212.toList != ([] : List UInt8)) == (decide ((t209.length : Int) > 0)))) else (some false)) else (some false)) = some r := by rw [if_pos rfl] at H; exact H
      clear H
      have H := H1
      clear H1
      by_cases c11 : t218 = true
      · subst c11
        have H1 : (if t214 = (t212.size : Int) then (some ((t212.toList != ([] : List UInt8)) == (decide ((t209.length : Int) > 0)))) else (some false)) = some r := by rw [if_pos rfl] at H; exact H
        clear H
        have H := H1
        clear H1
        by_cases c12 : t214 = (t212.size : Int)
        · rw [if_pos c12] at H
          have c12b0 : (t214 == (t212.size : Int)) = true := beq_iff_eq.mpr c12
          have c12b1 : (t214 != (t212.size : Int)) = false := bne_eq_false_iff_eq.mpr c12
          clear c12
          obtain rfl := Option.some.inj H
          go_enter Tryd.func3, Tryd.ntmps3
          go_wp2_with (first | ((with_reducible refine gate_dst (N := 2) rfl ?_); (try (refine gate_guard (by rfl) ?_; dsimp only)); refine box_event ?hg (N := 2) ?hd (cs := #[.int .i64 a0_0, .int .i64 a0_1, .slice A0_2 l0_2.length c0_2]) (t := 24) ?hr ?_; (case hd => rfl); (case hg => rfl); (case hr => first | (go_simp; done) | (go_simp; rfl)); intro gb202 hg w13 hbox hb; have n0_ := Aside0.mk (below_step (by repeat (first | (with_reducible first | exact HB.out | apply below_alloc | apply pw_below_drewN | apply below_drew1) | exact HB.out)) hb); have n1_ := Aside0.mk (hbox); have n2_ := Aside0.mk ((by rw [hg]; exact (below_size (by repeat (first | (with_reducible first | exact HB.out | apply below_alloc | apply pw_below_drewN | apply below_drew1) | exact HB.out))) : w.heap.size ≤ gb202)); have n3_ := Aside0.mk ((by rw [hg]; exact (below_size (by repeat (first | (with_reducible first | exact HB.out | apply below_alloc | apply pw_below_drewN | apply below_drew1) | exact HB.out))) : w.heap.size ≤ gb202)); clear HB; have HB := n0_; have BK202 := n1_; have GW202 := n2_; have GE202 := n3_; clear n0_ n1_ n2_ n3_; clear hb hbox hg) | ((with_reducible refine gate_callee (f := 5) rfl ?_); refine goesL_ (some 12) rfl rfl Tryd.func5 (by kernel_rfl) rfl #[] rfl (by (try simp only [List.map_toArray, List.map_cons, List.map_nil]); first | done | rfl | (simp only [List.length_drop, List.length_take]; rfl)) ?_; (with_reducible refine (ostinatolaw23_awake.calls  true _ A3.out (Tabs.below HT.out (by repeat (first | (with_reducible first | exact HB.out | apply below_alloc | apply pw_below_drewN | apply below_drew1 | refine below_set ?_ GE202.out) | exact HB.out)))).mono ?_); rintro e w14 ⟨rfl, hb⟩; refine ⟨_, rfl, ?_⟩; have n0_ := Aside0.mk (blk_below (g := gb202) (o := .cells #[.int .i64 a0_0, .int .i64 a0_1, .slice A0_2 l0_2.length c0_2] 24 (0, 0)) (by (with_reducible repeat (first | refine blk_drewN ?_ _ | refine blk_drew ?_ | refine blk_alloc ?_ _)); exact BK202.out) hb); have n1_ := Aside0.mk (below_step (by repeat (first | (with_reducible first | exact HB.out | apply below_alloc | apply pw_below_drewN | apply below_drew1 | refine below_set ?_ GE202.out) | exact HB.out)) hb); clear BK202; clear HB; have BK202 := n0_; have HB := n1_; clear n0_ n1_; (try clear hb); (try clear hb2); (try clear hk); (try clear hi); have hcz15_0 : w14.cell? ⟨gb202, 0, none⟩ = some (.int .i64 a0_0) := (blk_cell BK202.out 0).trans rfl; have hcz15_1 : w14.cell? ⟨gb202, 1, none⟩ = some (.int .i64 a0_1) := (blk_cell BK202.out 1).trans rfl; have hcz15_2 : w14.cell? ⟨gb202, 2, none⟩ = some (.slice A0_2 l0_2.length c0_2) := (blk_cell BK202.out 2).trans rfl; have hfz15_0 := blk_frozen BK202.out 0; have hfz15_1 := blk_frozen BK202.out 1; have hfz15_2 := blk_frozen BK202.out 2) | ((with_reducible refine gate_callee (f := 7) rfl ?_); refine goesL_ (some 14) rfl rfl Tryd.func7 (by kernel_rfl) rfl #[.agg #[.int .i64 a0_0, .int .i64 a0_1, .slice A0_2 l0_2.length c0_2]] rfl (by (try simp only [List.map_toArray, List.map_cons, List.map_nil]); first | done | rfl | (simp only [List.length_drop, List.length_take]; rfl)) ?_; (with_reducible refine (ostinatolaw23_Sys_made.calls k a0_0 a0_1 (fun k_ => k_ < w.heap.size) _ _ l0_2 t204 t205 t206 _ ?side1 A4.out).mono ?_); (case side1 => exact Kd.V_mk HC0_2.out (Kd.F_below (Kd.C_F k58_heap HR0_2.out) (by repeat (first | (with_reducible first | exact HB.out | apply below_alloc | apply pw_below_drewN | apply below_drew1 | refine below_set ?_ GE202.out) | exact HB.out)))); rintro e w16 ⟨v207, rfl, ho0, hb⟩; refine ⟨_, rfl, ?_⟩; have n0_ := Aside0.mk (Kd.N_lower (Kd.N_mono (ok' := fun k_ => k_ ≠ gb202) ho0 (fun k_ hk_ => Or.elim hk_ (fun hs_ => fun e_ => Nat.not_le.2 hs_ (by rw [e_]; exact GW202.out)) (fun hn_ => (Kd.freshB (g := gb202) (o := .cells #[.int .i64 a0_0, .int .i64 a0_1, .slice A0_2 l0_2.length c0_2] 24 (0, 0)) (by (with_reducible repeat (first | refine blk_drewN ?_ _ | refine blk_drew ?_ | refine blk_alloc ?_ _)); exact BK202.out) k_ hn_)))) (below_size (by repeat (first | (with_reducible first | exact HB.out | apply below_alloc | apply pw_below_drewN | apply below_drew1 | refine below_set ?_ GE202.out) | exact HB.out)))); have n1_ := Aside0.mk (blk_below (g := gb202) (o := .cells #[.int .i64 a0_0, .int .i64 a0_1, .slice A0_2 l0_2.length c0_2] 24 (0, 0)) (by (with_reducible repeat (first | refine blk_drewN ?_ _ | refine blk_drew ?_ | refine blk_alloc ?_ _)); exact BK202.out) hb); have n2_ := Aside0.mk (below_step (by repeat (first | (with_reducible first | exact HB.out | apply below_alloc | apply pw_below_drewN | apply below_drew1 | refine below_set ?_ GE202.out) | exact HB.out)) hb); clear BK202; clear HB; have HO208 := n0_; have BK202 := n1_; have HB := n2_; clear n0_ n1_ n2_; (try clear hb); (try clear hb2); (try clear hk); (try clear hi); (try clear ho0); obtain ⟨Ao17, co17, eo17⟩ := Kd.N_slice HO208.out; subst eo17) | ((with_reducible refine gate_callee (f := 6) rfl ?_); refine goesL_ (some 16) rfl rfl Tryd.func6 (by kernel_rfl) rfl #[.agg #[.int .i64 t204, .int .i64 t205, .slice Ao17 t206.length co17], .slice A1 l1.length c1, .int .i64 30] rfl (by (try simp only [List.map_toArray, List.map_cons, List.map_nil]); first | done | rfl | (simp only [List.length_drop, List.length_take]; rfl)) ?_; (with_reducible refine (ostinatolaw23_script.calls k t204 t205 _ _ t206 (fun k_ => k_ < w.heap.size) _ _ l1 30 t209 _ ?side1 ?side2 ?side3 A5.out).mono ?_); (case side1 => repeat (first | exact (Kd.N_reads' HO208.out).2.2 | (with_reducible refine Kd.C_alloc ?_ _) | (with_reducible refine Kd.C_drewN ?_ _) | (with_reducible refine Kd.C_drew ?_))); (case side2 => exact (Kd.N_reads' HO208.out).2.1); (case side3 => exact Kd.V_mk HC1.out (Kd.F_below (Kd.C_F k51_heap HR1.out) (by repeat (first | (with_reducible first | exact HB.out | apply below_alloc | apply pw_below_drewN | apply below_drew1 | refine below_set ?_ GE202.out) | exact HB.out)))); rintro e w18 ⟨v210, rfl, ho0, hb⟩; refine ⟨_, rfl, ?_⟩; have n0_ := Aside0.mk (Kd.N_elder' (by (with_reducible repeat (first | apply Kd.N_alloc | apply Kd.N_drewN | apply Kd.N_drew)); exact HO208.out) (Kd.R_base ho0) hb); have n1_ := Aside0.mk (Kd.R_lower (Kd.R_mono (ok' := fun k_ => True) ho0 (fun _ hk_ => trivial)) (below_size (by repeat (first | (with_reducible first | exact HB.out | apply below_alloc | apply pw_below_drewN | apply below_drew1 | refine below_set ?_ GE202.out) | exact HB.out)))); have n2_ := Aside0.mk (blk_below (g := gb202) (o := .cells #[.int .i64 a0_0, .int .i64 a0_1, .slice A0_2 l0_2.length c0_2] 24 (0, 0)) (by (with_reducible repeat (first | refine blk_drewN ?_ _ | refine blk_drew ?_ | refine blk_alloc ?_ _)); exact BK202.out) hb); have n3_ := Aside0.mk (below_step (by repeat (first | (with_reducible first | exact HB.out | apply below_alloc | apply pw_below_drewN | apply below_drew1 | refine below_set ?_ GE202.out) | exact HB.out)) hb); clear HO208; clear BK202; clear HB; have HO208 := n0_; have HO211 := n1_; have BK202 := n2_; have HB := n3_; clear n0_ n1_ n2_ n3_; (try clear hb); (try clear hb2); (try clear hk); (try clear hi); (try clear ho0); obtain ⟨Ao19, co19, eo19⟩ := Kd.R_slice HO211.out; subst eo19) | ((with_reducible refine gate_callee (f := 8) rfl ?_); refine goesL_ (some 18) rfl rfl Tryd.func8 (by kernel_rfl) rfl #[.slice Ao19 t209.length co19] rfl (by (try simp only [List.map_toArray, List.map_cons, List.map_nil]); first | done | rfl | (simp only [List.length_drop, List.length_take]; rfl)) ?_; (with_reducible refine (run_Script.calls _ _ t209 t212 _ ?side1 ?side2 A6.out (Tabs.below HT.out (by repeat (first | (with_reducible first | exact HB.out | apply below_alloc | apply pw_below_drewN | apply below_drew1 | refine below_set ?_ GE202.out) | exact HB.out)))).mono ?_); (case side1 => repeat (first | exact (Kd.R_reads' HO211.out).2.2 | (with_reducible refine Kd.C_alloc ?_ _) | (with_reducible refine Kd.C_drewN ?_ _) | (with_reducible refine Kd.C_drew ?_))); (case side2 => exact (Kd.R_reads' HO211.out).2.1); rintro e w20 ⟨rfl, hb⟩; refine ⟨_, rfl, ?_⟩; have n0_ := Aside0.mk (Kd.N_below (by (with_reducible repeat (first | apply Kd.N_alloc | apply Kd.N_drewN | apply Kd.N_drew)); exact HO208.out) hb); have n1_ := Aside0.mk (Kd.R_below (by (with_reducible repeat (first | apply Kd.R_alloc | apply Kd.R_drewN | apply Kd.R_drew)); exact HO211.out) hb); have n2_ := Aside0.mk (blk_below (g := gb202) (o := .cells #[.int .i64 a0_0, .int .i64 a0_1, .slice A0_2 l0_2.length c0_2] 24 (0, 0)) (by (with_reducible repeat (first | refine blk_drewN ?_ _ | refine blk_drew ?_ | refine blk_alloc ?_ _)); exact BK202.out) hb); have n3_ := Aside0.mk (below_step (by repeat (first | (with_reducible first | exact HB.out | apply below_alloc | apply pw_below_drewN | apply below_drew1 | refine below_set ?_ GE202.out) | exact HB.out)) hb); clear HO208; clear HO211; clear BK202; clear HB; have HO208 := n0_; have HO211 := n1_; have BK202 := n2_; have HB := n3_; clear n0_ n1_ n2_ n3_; (try clear hb); (try clear hb2); (try clear hk); (try clear hi)) | ((with_reducible refine gate_callee (f := 9) rfl ?_); refine goesL_ (some 21) rfl rfl Tryd.func9 (by kernel_rfl) rfl #[.string t212] rfl (by (try simp only [List.map_toArray, List.map_cons, List.map_nil]); first | done | rfl | (simp only [List.length_drop, List.length_take]; rfl)) ?_; (with_reducible refine (run_ParseScript.calls t212 t213 t214 true _ A7.out (Tabs.below HT.out (by repeat (first | (with_reducible first | exact HB.out | apply below_alloc | apply pw_below_drewN | apply below_drew1 | refine below_set ?_ GE202.out) | exact HB.out)))).mono ?_); rintro e w21 ⟨v216, rfl, ho0, hb⟩; refine ⟨_, rfl, ?_⟩; have n0_ := Aside0.mk (Kd.N_elder' (by (with_reducible repeat (first | apply Kd.N_alloc | apply Kd.N_drewN | apply Kd.N_drew)); exact HO208.out) (Kd.R_base ho0) hb); have n1_ := Aside0.mk (Kd.R_elder' (by (with_reducible repeat (first | apply Kd.R_alloc | apply Kd.R_drewN | apply Kd.R_drew)); exact HO211.out) (Kd.R_base ho0) hb); have n2_ := Aside0.mk (Kd.R_lower (Kd.R_new' ho0 (Kd.R_lt (by (with_reducible repeat (first | apply Kd.R_alloc | apply Kd.R_drewN | apply Kd.R_drew)); exact HO211.out))) (below_size (by repeat (first | (with_reducible first | exact HB.out | apply below_alloc | apply pw_below_drewN | apply below_drew1 | refine below_set ?_ GE202.out) | exact HB.out)))); have n3_ := Aside0.mk (blk_below (g := gb202) (o := .cells #[.int .i64 a0_0, .int .i64 a0_1, .slice A0_2 l0_2.length c0_2] 24 (0, 0)) (by (with_reducible repeat (first | refine blk_drewN ?_ _ | refine blk_drew ?_ | refine blk_alloc ?_ _)); exact BK202.out) hb); have n4_ := Aside0.mk (below_step (by repeat (first | (with_reducible first | exact HB.out | apply below_alloc | apply pw_below_drewN | apply below_drew1 | refine below_set ?_ GE202.out) | exact HB.out)) hb); clear HO208; clear HO211; clear BK202; clear HB; have HO208 := n0_; have HO211 := n1_; have HO217 := n2_; have BK202 := n3_; have HB := n4_; clear n0_ n1_ n2_ n3_ n4_; (try clear hb); (try clear hb2); (try clear hk); (try clear hi); (try clear ho0); obtain ⟨Ao22, co22, eo22⟩ := Kd.R_slice HO217.out; subst eo22) | ((with_reducible refine gate_callee (f := 10) rfl ?_); refine goesL_ (some 27) rfl rfl Tryd.func10 (by kernel_rfl) rfl #[.slice Ao22 t213.length co22, .slice Ao19 t209.length co19] rfl (by (try simp only [List.map_toArray, List.map_cons, List.map_nil]); first | done | rfl | (simp only [List.length_drop, List.length_take]; rfl)) ?_; (with_reducible refine (ostinatoref23_Same.calls k _ _ t213 _ _ t209 true _ ?side1 ?side2 ?side3 ?side4 A8.out).mono ?_); (case side1 => repeat (first | exact (Kd.R_reads' HO217.out).2.2 | (with_reducible refine Kd.C_alloc ?_ _) | (with_reducible refine Kd.C_drewN ?_ _) | (with_reducible refine Kd.C_drew ?_))); (case side2 => exact (Kd.R_reads' HO217.out).2.1); (case side3 => repeat (first | exact (Kd.R_reads' HO211.out).2.2 | (with_reducible refine Kd.C_alloc ?_ _) | (with_reducible refine Kd.C_drewN ?_ _) | (with_reducible refine Kd.C_drew ?_))); (case side4 => exact (Kd.R_reads' HO211.out).2.1); rintro e w' ⟨rfl, ⟨nd, rfl⟩⟩; refine ⟨_, rfl, ?_⟩))
          go_ret
          exact ⟨by first | rfl | (simp [errW_none, errW_some] <;> rfl) | (simp [bneNil, bneNilU] <;> rfl) | (simp [*, errW_none, errW_some] <;> rfl), by repeat (first | (with_reducible first | exact HB.out | apply below_alloc | apply pw_below_drewN | apply below_drew1 | refine below_set ?_ GE202.out) | exact HB.out)⟩
        · rw [if_neg c12] at H
          have c12b0 : (t214 == (t212.size : Int)) = false := beq_eq_false_iff_ne.mpr c12
          have c12b1 : (t214 != (t212.size : Int)) = true := bne_iff_ne.mpr c12
          obtain rfl := Option.some.inj H
          go_enter Tryd.func3, Tryd.ntmps3
          go_wp2_with (first | ((with_reducible refine gate_dst (N := 2) rfl ?_); (try (refine gate_guard (by rfl) ?_; dsimp only)); refine box_event ?hg (N := 2) ?hd (cs := #[.int .i64 a0_0, .int .i64 a0_1, .slice A0_2 l0_2.length c0_2]) (t := 24) ?hr ?_; (case hd => rfl); (case hg => rfl); (case hr => first | (go_simp; done) | (go_simp; rfl)); intro gb202 hg w23 hbox hb; have n0_ := Aside0.mk (below_step (by repeat (first | (with_reducible first | exact HB.out | apply below_alloc | apply pw_below_drewN | apply below_drew1) | exact HB.out)) hb); have n1_ := Aside0.mk (hbox); have n2_ := Aside0.mk ((by rw [hg]; exact (below_size (by repeat (first | (with_reducible first | exact HB.out | apply below_alloc | apply pw_below_drewN | apply below_drew1) | exact HB.out))) : w.heap.size ≤ gb202)); have n3_ := Aside0.mk ((by rw [hg]; exact (below_size (by repeat (first | (with_reducible first | exact HB.out | apply below_alloc | apply pw_below_drewN | apply below_drew1) | exact HB.out))) : w.heap.size ≤ gb202)); clear HB; have HB := n0_; have BK202 := n1_; have GW202 := n2_; have GE202 := n3_; clear n0_ n1_ n2_ n3_; clear hb hbox hg) | ((with_reducible refine gate_callee (f := 5) rfl ?_); refine goesL_ (some 12) rfl rfl Tryd.func5 (by kernel_rfl) rfl #[] rfl (by (try simp only [List.map_toArray, List.map_cons, List.map_nil]); first | done | rfl | (simp only [List.length_drop, List.length_take]; rfl)) ?_; (with_reducible refine (ostinatolaw23_awake.calls  true _ A3.out (Tabs.below HT.out (by repeat (first | (with_reducible first | exact HB.out | apply below_alloc | apply pw_below_drewN | apply below_drew1 | refine below_set ?_ GE202.out) | exact HB.out)))).mono ?_); rintro e w24 ⟨rfl, hb⟩; refine ⟨_, rfl, ?_⟩; have n0_ := Aside0.mk (blk_below (g := gb202) (o := .cells #[.int .i64 a0_0, .int .i64 a0_1, .slice A0_2 l0_2.length c0_2] 24 (0, 0)) (by (with_reducible repeat (first | refine blk_drewN ?_ _ | refine blk_drew ?_ | refine blk_alloc ?_ _)); exact BK202.out) hb); have n1_ := Aside0.mk (below_step (by repeat (first | (with_reducible first | exact HB.out | apply below_alloc | apply pw_below_drewN | apply below_drew1 | refine below_set ?_ GE202.out) | exact HB.out)) hb); clear BK202; clear HB; have BK202 := n0_; have HB := n1_; clear n0_ n1_; (try clear hb); (try clear hb2); (try clear hk); (try clear hi); have hcz25_0 : w24.cell? ⟨gb202, 0, none⟩ = some (.int .i64 a0_0) := (blk_cell BK202.out 0).trans rfl; have hcz25_1 : w24.cell? ⟨gb202, 1, none⟩ = some (.int .i64 a0_1) := (blk_cell BK202.out 1).trans rfl; have hcz25_2 : w24.cell? ⟨gb202, 2, none⟩ = some (.slice A0_2 l0_2.length c0_2) := (blk_cell BK202.out 2).trans rfl; have hfz25_0 := blk_frozen BK202.out 0; have hfz25_1 := blk_frozen BK202.out 1; have hfz25_2 := blk_frozen BK202.out 2) | ((with_reducible refine gate_callee (f := 7) rfl ?_); refine goesL_ (some 14) rfl rfl Tryd.func7 (by kernel_rfl) rfl #[.agg #[.int .i64 a0_0, .int .i64 a0_1, .slice A0_2 l0_2.length c0_2]] rfl (by (try simp only [List.map_toArray, List.map_cons, List.map_nil]); first | done | rfl | (simp only [List.length_drop, List.length_take]; rfl)) ?_; (with_reducible refine (ostinatolaw23_Sys_made.calls k a0_0 a0_1 (fun k_ => k_ < w.heap.size) _ _ l0_2 t204 t205 t206 _ ?side1 A4.out).mono ?_); (case side1 => exact Kd.V_mk HC0_2.out (Kd.F_below (Kd.C_F k58_heap HR0_2.out) (by repeat (first | (with_reducible first | exact HB.out | apply below_alloc | apply pw_below_drewN | apply below_drew1 | refine below_set ?_ GE202.out) | exact HB.out)))); rintro e w26 ⟨v207, rfl, ho0, hb⟩; refine ⟨_, rfl, ?_⟩; have n0_ := Aside0.mk (Kd.N_lower (Kd.N_mono (ok' := fun k_ => k_ ≠ gb202) ho0 (fun k_ hk_ => Or.elim hk_ (fun hs_ => fun e_ => Nat.not_le.2 hs_ (by rw [e_]; exact GW202.out)) (fun hn_ => (Kd.freshB (g := gb202) (o := .cells #[.int .i64 a0_0, .int .i64 a0_1, .slice A0_2 l0_2.length c0_2] 24 (0, 0)) (by (with_reducible repeat (first | refine blk_drewN ?_ _ | refine blk_drew ?_ | refine blk_alloc ?_ _)); exact BK202.out) k_ hn_)))) (below_size (by repeat (first | (with_reducible first | exact HB.out | apply below_alloc | apply pw_below_drewN | apply below_drew1 | refine below_set ?_ GE202.out) | exact HB.out)))); have n1_ := Aside0.mk (blk_below (g := gb202) (o := .cells #[.int .i64 a0_0, .int .i64 a0_1, .slice A0_2 l0_2.length c0_2] 24 (0, 0)) (by (with_reducible repeat (first | refine blk_drewN ?_ _ | refine blk_drew ?_ | refine blk_alloc ?_ _)); exact BK202.out) hb); have n2_ := Aside0.mk (below_step (by repeat (first | (with_reducible first | exact HB.out | apply below_alloc | apply pw_below_drewN | apply below_drew1 | refine below_set ?_ GE202.out) | exact HB.out)) hb); clear BK202; clear HB; have HO208 := n0_; have BK202 := n1_; have HB := n2_; clear n0_ n1_ n2_; (try clear hb); (try clear hb2); (try clear hk); (try clear hi); (try clear ho0); obtain ⟨Ao27, co27, eo27⟩ := Kd.N_slice HO208.out; subst eo27) | ((with_reducible refine gate_callee (f := 6) rfl ?_); refine goesL_ (some 16) rfl rfl Tryd.func6 (by kernel_rfl) rfl #[.agg #[.int .i64 t204, .int .i64 t205, .slice Ao27 t206.length co27], .slice A1 l1.length c1, .int .i64 30] rfl (by (try simp only [List.map_toArray, List.map_cons, List.map_nil]); first | done | rfl | (simp only [List.length_drop, List.length_take]; rfl)) ?_; (with_reducible refine (ostinatolaw23_script.calls k t204 t205 _ _ t206 (fun k_ => k_ < w.heap.size) _ _ l1 30 t209 _ ?side1 ?side2 ?side3 A5.out).mono ?_); (case side1 => repeat (first | exact (Kd.N_reads' HO208.out).2.2 | (with_reducible refine Kd.C_alloc ?_ _) | (with_reducible refine Kd.C_drewN ?_ _) | (with_reducible refine Kd.C_drew ?_))); (case side2 => exact (Kd.N_reads' HO208.out).2.1); (case side3 => exact Kd.V_mk HC1.out (Kd.F_below (Kd.C_F k51_heap HR1.out) (by repeat (first | (with_reducible first | exact HB.out | apply below_alloc | apply pw_below_drewN | apply below_drew1 | refine below_set ?_ GE202.out) | exact HB.out)))); rintro e w28 ⟨v210, rfl, ho0, hb⟩; refine ⟨_, rfl, ?_⟩; have n0_ := Aside0.mk (Kd.N_elder' (by (with_reducible repeat (first | apply Kd.N_alloc | apply Kd.N_drewN | apply Kd.N_drew)); exact HO208.out) (Kd.R_base ho0) hb); have n1_ := Aside0.mk (Kd.R_lower (Kd.R_mono (ok' := fun k_ => True) ho0 (fun _ hk_ => trivial)) (below_size (by repeat (first | (with_reducible first | exact HB.out | apply below_alloc | apply pw_below_drewN | apply below_drew1 | refine below_set ?_ GE202.out) | exact HB.out)))); have n2_ := Aside0.mk (blk_below (g := gb202) (o := .cells #[.int .i64 a0_0, .int .i64 a0_1, .slice A0_2 l0_2.length c0_2] 24 (0, 0)) (by (with_reducible repeat (first | refine blk_drewN ?_ _ | refine blk_drew ?_ | refine blk_alloc ?_ _)); exact BK202.out) hb); have n3_ := Aside0.mk (below_step (by repeat (first | (with_reducible first | exact HB.out | apply below_alloc | apply pw_below_drewN | apply below_drew1 | refine below_set ?_ GE202.out) | exact HB.out)) hb); clear HO208; clear BK202; clear HB; have HO208 := n0_; have HO211 := n1_; have BK202 := n2_; have HB := n3_; clear n0_ n1_ n2_ n3_; (try clear hb); (try clear hb2); (try clear hk); (try clear hi); (try clear ho0); obtain ⟨Ao29, co29, eo29⟩ := Kd.R_slice HO211.out; subst eo29) | ((with_reducible refine gate_callee (f := 8) rfl ?_); refine goesL_ (some 18) rfl rfl Tryd.func8 (by kernel_rfl) rfl #[.slice Ao29 t209.length co29] rfl (by (try simp only [List.map_toArray, List.map_cons, List.map_nil]); first | done | rfl | (simp only [List.length_drop, List.length_take]; rfl)) ?_; (with_reducible refine (run_Script.calls _ _ t209 t212 _ ?side1 ?side2 A6.out (Tabs.below HT.out (by repeat (first | (with_reducible first | exact HB.out | apply below_alloc | apply pw_below_drewN | apply below_drew1 | refine below_set ?_ GE202.out) | exact HB.out)))).mono ?_); (case side1 => repeat (first | exact (Kd.R_reads' HO211.out).2.2 | (with_reducible refine Kd.C_alloc ?_ _) | (with_reducible refine Kd.C_drewN ?_ _) | (with_reducible refine Kd.C_drew ?_))); (case side2 => exact (Kd.R_reads' HO211.out).2.1); rintro e w30 ⟨rfl, hb⟩; refine ⟨_, rfl, ?_⟩; have n0_ := Aside0.mk (Kd.N_below (by (with_reducible repeat (first | apply Kd.N_alloc | apply Kd.N_drewN | apply Kd.N_drew)); exact HO208.out) hb); have n1_ := Aside0.mk (Kd.R_below (by (with_reducible repeat (first | apply Kd.R_alloc | apply Kd.R_drewN | apply Kd.R_drew)); exact HO211.out) hb); have n2_ := Aside0.mk (blk_below (g := gb202) (o := .cells #[.int .i64 a0_0, .int .i64 a0_1, .slice A0_2 l0_2.length c0_2] 24 (0, 0)) (by (with_reducible repeat (first | refine blk_drewN ?_ _ | refine blk_drew ?_ | refine blk_alloc ?_ _)); exact BK202.out) hb); have n3_ := Aside0.mk (below_step (by repeat (first | (with_reducible first | exact HB.out | apply below_alloc | apply pw_below_drewN | apply below_drew1 | refine below_set ?_ GE202.out) | exact HB.out)) hb); clear HO208; clear HO211; clear BK202; clear HB; have HO208 := n0_; have HO211 := n1_; have BK202 := n2_; have HB := n3_; clear n0_ n1_ n2_ n3_; (try clear hb); (try clear hb2); (try clear hk); (try clear hi)) | ((with_reducible refine gate_callee (f := 9) rfl ?_); refine goesL_ (some 21) rfl rfl Tryd.func9 (by kernel_rfl) rfl #[.string t212] rfl (by (try simp only [List.map_toArray, List.map_cons, List.map_nil]); first | done | rfl | (simp only [List.length_drop, List.length_take]; rfl)) ?_; (with_reducible refine (run_ParseScript.calls t212 t213 t214 true _ A7.out (Tabs.below HT.out (by repeat (first | (with_reducible first | exact HB.out | apply below_alloc | apply pw_below_drewN | apply below_drew1 | refine below_set ?_ GE202.out) | exact HB.out)))).mono ?_); rintro e w31 ⟨v216, rfl, ho0, hb⟩; refine ⟨_, rfl, ?_⟩; have n0_ := Aside0.mk (Kd.N_elder' (by (with_reducible repeat (first | apply Kd.N_alloc | apply Kd.N_drewN | apply Kd.N_drew)); exact HO208.out) (Kd.R_base ho0) hb); have n1_ := Aside0.mk (Kd.R_elder' (by (with_reducible repeat (first | apply Kd.R_alloc | apply Kd.R_drewN | apply Kd.R_drew)); exact HO211.out) (Kd.R_base ho0) hb); have n2_ := Aside0.mk (Kd.R_lower (Kd.R_new' ho0 (Kd.R_lt (by (with_reducible repeat (first | apply Kd.R_alloc | apply Kd.R_drewN | apply Kd.R_drew)); exact HO211.out))) (below_size (by repeat (first | (with_reducible first | exact HB.out | apply below_alloc | apply pw_below_drewN | apply below_drew1 | refine below_set ?_ GE202.out) | exact HB.out)))); have n3_ := Aside0.mk (blk_below (g := gb202) (o := .cells #[.int .i64 a0_0, .int .i64 a0_1, .slice A0_2 l0_2.length c0_2] 24 (0, 0)) (by (with_reducible repeat (first | refine blk_drewN ?_ _ | refine blk_drew ?_ | refine blk_alloc ?_ _)); exact BK202.out) hb); have n4_ := Aside0.mk (below_step (by repeat (first | (with_reducible first | exact HB.out | apply below_alloc | apply pw_below_drewN | apply below_drew1 | refine below_set ?_ GE202.out) | exact HB.out)) hb); clear HO208; clear HO211; clear BK202; clear HB; have HO208 := n0_; have HO211 := n1_; have HO217 := n2_; have BK202 := n3_; have HB := n4_; clear n0_ n1_ n2_ n3_ n4_; (try clear hb); (try clear hb2); (try clear hk); (try clear hi); (try clear ho0); obtain ⟨Ao32, co32, eo32⟩ := Kd.R_slice HO217.out; subst eo32) | ((with_reducible refine gate_callee (f := 10) rfl ?_); refine goesL_ (some 27) rfl rfl Tryd.func10 (by kernel_rfl) rfl #[.slice Ao32 t213.length co32, .slice Ao29 t209.length co29] rfl (by (try simp only [List.map_toArray, List.map_cons, List.map_nil]); first | done | rfl | (simp only [List.length_drop, List.length_take]; rfl)) ?_; (with_reducible refine (ostinatoref23_Same.calls k _ _ t213 _ _ t209 true _ ?side1 ?side2 ?side3 ?side4 A8.out).mono ?_); (case side1 => repeat (first | exact (Kd.R_reads' HO217.out).2.2 | (with_reducible refine Kd.C_alloc ?_ _) | (with_reducible refine Kd.C_drewN ?_ _) | (with_reducible refine Kd.C_drew ?_))); (case side2 => exact (Kd.R_reads' HO217.out).2.1); (case side3 => repeat (first | exact (Kd.R_reads' HO211.out).2.2 | (with_reducible refine Kd.C_alloc ?_ _) | (with_reducible refine Kd.C_drewN ?_ _) | (with_reducible refine Kd.C_drew ?_))); (case side4 => exact (Kd.R_reads' HO211.out).2.1); rintro e w' ⟨rfl, ⟨nd, rfl⟩⟩; refine ⟨_, rfl, ?_⟩))
          go_ret
          exact ⟨by first | rfl | (simp [errW_none, errW_some] <;> rfl) | (simp [bneNil, bneNilU] <;> rfl) | (simp [*, errW_none, errW_some] <;> rfl), by repeat (first | (with_reducible first | exact HB.out | apply below_alloc | apply pw_below_drewN | apply below_drew1 | refine below_set ?_ GE202.out) | exact HB.out)⟩
      · replace c11 := Bool.eq_false_iff.mpr c11
        subst c11
        have H1 : (some false) = some r := by rw [if_neg (show ¬ (false = true) by decide)] at H; exact H
        clear H
        have H := H1
        clear H1
        obtain rfl := Option.some.inj H
        go_enter Tryd.func3, Tryd.ntmps3
        go_wp2_with (first | ((with_reducible refine gate_dst (N := 2) rfl ?_); (try (refine gate_guard (by rfl) ?_; dsimp only)); refine box_event ?hg (N := 2) ?hd (cs := #[.int .i64 a0_0, .int .i64 a0_1, .slice A0_2 l0_2.length c0_2]) (t := 24) ?hr ?_; (case hd => rfl); (case hg => rfl); (case hr => first | (go_simp; done) | (go_simp; rfl)); intro gb202 hg w33 hbox hb; have n0_ := Aside0.mk (below_step (by repeat (first | (with_reducible first | exact HB.out | apply below_alloc | apply pw_below_drewN | apply below_drew1) | exact HB.out)) hb); have n1_ := Aside0.mk (hbox); have n2_ := Aside0.mk ((by rw [hg]; exact (below_size (by repeat (first | (with_reducible first | exact HB.out | apply below_alloc | apply pw_below_drewN | apply below_drew1) | exact HB.out))) : w.heap.size ≤ gb202)); have n3_ := Aside0.mk ((by rw [hg]; exact (below_size (by repeat (first | (with_reducible first | exact HB.out | apply below_alloc | apply pw_below_drewN | apply below_drew1) | exact HB.out))) : w.heap.size ≤ gb202)); clear HB; have HB := n0_; have BK202 := n1_; have GW202 := n2_; have GE202 := n3_; clear n0_ n1_ n2_ n3_; clear hb hbox hg) | ((with_reducible refine gate_callee (f := 5) rfl ?_); refine goesL_ (some 12) rfl rfl Tryd.func5 (by kernel_rfl) rfl #[] rfl (by (try simp only [List.map_toArray, List.map_cons, List.map_nil]); first | done | rfl | (simp only [List.length_drop, List.length_take]; rfl)) ?_; (with_reducible refine (ostinatolaw23_awake.calls  true _ A3.out (Tabs.below HT.out (by repeat (first | (with_reducible first | exact HB.out | apply below_alloc | apply pw_below_drewN | apply below_drew1 | refine below_set ?_ GE202.out) | exact HB.out)))).mono ?_); rintro e w34 ⟨rfl, hb⟩; refine ⟨_, rfl, ?_⟩; have n0_ := Aside0.mk (blk_below (g := gb202) (o := .cells #[.int .i64 a0_0, .int .i64 a0_1, .slice A0_2 l0_2.length c0_2] 24 (0, 0)) (by (with_reducible repeat (first | refine blk_drewN ?_ _ | refine blk_drew ?_ | refine blk_alloc ?_ _)); exact BK202.out) hb); have n1_ := Aside0.mk (below_step (by repeat (first | (with_reducible first | exact HB.out | apply below_alloc | apply pw_below_drewN | apply below_drew1 | refine below_set ?_ GE202.out) | exact HB.out)) hb); clear BK202; clear HB; have BK202 := n0_; have HB := n1_; clear n0_ n1_; (try clear hb); (try clear hb2); (try clear hk); (try clear hi); have hcz35_0 : w34.cell? ⟨gb202, 0, none⟩ = some (.int .i64 a0_0) := (blk_cell BK202.out 0).trans rfl; have hcz35_1 : w34.cell? ⟨gb202, 1, none⟩ = some (.int .i64 a0_1) := (blk_cell BK202.out 1).trans rfl; have hcz35_2 : w34.cell? ⟨gb202, 2, none⟩ = some (.slice A0_2 l0_2.length c0_2) := (blk_cell BK202.out 2).trans rfl; have hfz35_0 := blk_frozen BK202.out 0; have hfz35_1 := blk_frozen BK202.out 1; have hfz35_2 := blk_frozen BK202.out 2) | ((with_reducible refine gate_callee (f := 7) rfl ?_); refine goesL_ (some 14) rfl rfl Tryd.func7 (by kernel_rfl) rfl #[.agg #[.int .i64 a0_0, .int .i64 a0_1, .slice A0_2 l0_2.length c0_2]] rfl (by (try simp only [List.map_toArray, List.map_cons, List.map_nil]); first | done | rfl | (simp only [List.length_drop, List.length_take]; rfl)) ?_; (with_reducible refine (ostinatolaw23_Sys_made.calls k a0_0 a0_1 (fun k_ => k_ < w.heap.size) _ _ l0_2 t204 t205 t206 _ ?side1 A4.out).mono ?_); (case side1 => exact Kd.V_mk HC0_2.out (Kd.F_below (Kd.C_F k58_heap HR0_2.out) (by repeat (first | (with_reducible first | exact HB.out | apply below_alloc | apply pw_below_drewN | apply below_drew1 | refine below_set ?_ GE202.out) | exact HB.out)))); rintro e w36 ⟨v207, rfl, ho0, hb⟩; refine ⟨_, rfl, ?_⟩; have n0_ := Aside0.mk (Kd.N_lower (Kd.N_mono (ok' := fun k_ => k_ ≠ gb202) ho0 (fun k_ hk_ => Or.elim hk_ (fun hs_ => fun e_ => Nat.not_le.2 hs_ (by rw [e_]; exact GW202.out)) (fun hn_ => (Kd.freshB (g := gb202) (o := .cells #[.int .i64 a0_0, .int .i64 a0_1, .slice A0_2 l0_2.length c0_2] 24 (0, 0)) (by (with_reducible repeat (first | refine blk_drewN ?_ _ | refine blk_drew ?_ | refine blk_alloc ?_ _)); exact BK202.out) k_ hn_)))) (below_size (by repeat (first | (with_reducible first | exact HB.out | apply below_alloc | apply pw_below_drewN | apply below_drew1 | refine below_set ?_ GE202.out) | exact HB.out)))); have n1_ := Aside0.mk (blk_below (g := gb202) (o := .cells #[.int .i64 a0_0, .int .i64 a0_1, .slice A0_2 l0_2.length c0_2] 24 (0, 0)) (by (with_reducible repeat (first | refine blk_drewN ?_ _ | refine blk_drew ?_ | refine blk_alloc ?_ _)); exact BK202.out) hb); have n2_ := Aside0.mk (below_step (by repeat (first | (with_reducible first | exact HB.out | apply below_alloc | apply pw_below_drewN | apply below_drew1 | refine below_set ?_ GE202.out) | exact HB.out)) hb); clear BK202; clear HB; have HO208 := n0_; have BK202 := n1_; have HB := n2_; clear n0_ n1_ n2_; (try clear hb); (try clear hb2); (try clear hk); (try clear hi); (try clear ho0); obtain ⟨Ao37, co37, eo37⟩ := Kd.N_slice HO208.out; subst eo37) | ((with_reducible refine gate_callee (f := 6) rfl ?_); refine goesL_ (some 16) rfl rfl Tryd.func6 (by kernel_rfl) rfl #[.agg #[.int .i64 t204, .int .i64 t205, .slice Ao37 t206.length co37], .slice A1 l1.length c1, .int .i64 30] rfl (by (try simp only [List.map_toArray, List.map_cons, List.map_nil]); first | done | rfl | (simp only [List.length_drop, List.length_take]; rfl)) ?_; (with_reducible refine (ostinatolaw23_script.calls k t204 t205 _ _ t206 (fun k_ => k_ < w.heap.size) _ _ l1 30 t209 _ ?side1 ?side2 ?side3 A5.out).mono ?_); (case side1 => repeat (first | exact (Kd.N_reads' HO208.out).2.2 | (with_reducible refine Kd.C_alloc ?_ _) | (with_reducible refine Kd.C_drewN ?_ _) | (with_reducible refine Kd.C_drew ?_))); (case side2 => exact (Kd.N_reads' HO208.out).2.1); (case side3 => exact Kd.V_mk HC1.out (Kd.F_below (Kd.C_F k51_heap HR1.out) (by repeat (first | (with_reducible first | exact HB.out | apply below_alloc | apply pw_below_drewN | apply below_drew1 | refine below_set ?_ GE202.out) | exact HB.out)))); rintro e w38 ⟨v210, rfl, ho0, hb⟩; refine ⟨_, rfl, ?_⟩; have n0_ := Aside0.mk (Kd.N_elder' (by (with_reducible repeat (first | apply Kd.N_alloc | apply Kd.N_drewN | apply Kd.N_drew)); exact HO208.out) (Kd.R_base ho0) hb); have n1_ := Aside0.mk (Kd.R_lower (Kd.R_mono (ok' := fun k_ => True) ho0 (fun _ hk_ => trivial)) (below_size (by repeat (first | (with_reducible first | exact HB.out | apply below_alloc | apply pw_below_drewN | apply below_drew1 | refine below_set ?_ GE202.out) | exact HB.out)))); have n2_ := Aside0.mk (blk_below (g := gb202) (o := .cells #[.int .i64 a0_0, .int .i64 a0_1, .slice A0_2 l0_2.length c0_2] 24 (0, 0)) (by (with_reducible repeat (first | refine blk_drewN ?_ _ | refine blk_drew ?_ | refine blk_alloc ?_ _)); exact BK202.out) hb); have n3_ := Aside0.mk (below_step (by repeat (first | (with_reducible first | exact HB.out | apply below_alloc | apply pw_below_drewN | apply below_drew1 | refine below_set ?_ GE202.out) | exact HB.out)) hb); clear HO208; clear BK202; clear HB; have HO208 := n0_; have HO211 := n1_; have BK202 := n2_; have HB := n3_; clear n0_ n1_ n2_ n3_; (try clear hb); (try clear hb2); (try clear hk); (try clear hi); (try clear ho0); obtain ⟨Ao39, co39, eo39⟩ := Kd.R_slice HO211.out; subst eo39) | ((with_reducible refine gate_callee (f := 8) rfl ?_); refine goesL_ (some 18) rfl rfl Tryd.func8 (by kernel_rfl) rfl #[.slice Ao39 t209.length co39] rfl (by (try simp only [List.map_toArray, List.map_cons, List.map_nil]); first | done | rfl | (simp only [List.length_drop, List.length_take]; rfl)) ?_; (with_reducible refine (run_Script.calls _ _ t209 t212 _ ?side1 ?side2 A6.out (Tabs.below HT.out (by repeat (first | (with_reducible first | exact HB.out | apply below_alloc | apply pw_below_drewN | apply below_drew1 | refine below_set ?_ GE202.out) | exact HB.out)))).mono ?_); (case side1 => repeat (first | exact (Kd.R_reads' HO211.out).2.2 | (with_reducible refine Kd.C_alloc ?_ _) | (with_reducible refine Kd.C_drewN ?_ _) | (with_reducible refine Kd.C_drew ?_))); (case side2 => exact (Kd.R_reads' HO211.out).2.1); rintro e w40 ⟨rfl, hb⟩; refine ⟨_, rfl, ?_⟩; have n0_ := Aside0.mk (Kd.N_below (by (with_reducible repeat (first | apply Kd.N_alloc | apply Kd.N_drewN | apply Kd.N_drew)); exact HO208.out) hb); have n1_ := Aside0.mk (Kd.R_below (by (with_reducible repeat (first | apply Kd.R_alloc | apply Kd.R_drewN | apply Kd.R_drew)); exact HO211.out) hb); have n2_ := Aside0.mk (blk_below (g := gb202) (o := .cells #[.int .i64 a0_0, .int .i64 a0_1, .slice A0_2 l0_2.length c0_2] 24 (0, 0)) (by (with_reducible repeat (first | refine blk_drewN ?_ _ | refine blk_drew ?_ | refine blk_alloc ?_ _)); exact BK202.out) hb); have n3_ := Aside0.mk (below_step (by repeat (first | (with_reducible first | exact HB.out | apply below_alloc | apply pw_below_drewN | apply below_drew1 | refine below_set ?_ GE202.out) | exact HB.out)) hb); clear HO208; clear HO211; clear BK202; clear HB; have HO208 := n0_; have HO211 := n1_; have BK202 := n2_; have HB := n3_; clear n0_ n1_ n2_ n3_; (try clear hb); (try clear hb2); (try clear hk); (try clear hi)) | ((with_reducible refine gate_callee (f := 9) rfl ?_); refine goesL_ (some 21) rfl rfl Tryd.func9 (by kernel_rfl) rfl #[.string t212] rfl (by (try simp only [List.map_toArray, List.map_cons, List.map_nil]); first | done | rfl | (simp only [List.length_drop, List.length_take]; rfl)) ?_; (with_reducible refine (run_ParseScript.calls t212 t213 t214 true _ A7.out (Tabs.below HT.out (by repeat (first | (with_reducible first | exact HB.out | apply below_alloc | apply pw_below_drewN | apply below_drew1 | refine below_set ?_ GE202.out) | exact HB.out)))).mono ?_); rintro e w41 ⟨v216, rfl, ho0, hb⟩; refine ⟨_, rfl, ?_⟩; have n0_ := Aside0.mk (Kd.N_elder' (by (with_reducible repeat (first | apply Kd.N_alloc | apply Kd.N_drewN | apply Kd.N_drew)); exact HO208.out) (Kd.R_base ho0) hb); have n1_ := Aside0.mk (Kd.R_elder' (by (with_reducible repeat (first | apply Kd.R_alloc | apply Kd.R_drewN | apply Kd.R_drew)); exact HO211.out) (Kd.R_base ho0) hb); have n2_ := Aside0.mk (Kd.R_lower (Kd.R_new' ho0 (Kd.R_lt (by (with_reducible repeat (first | apply Kd.R_alloc | apply Kd.R_drewN | apply Kd.R_drew)); exact HO211.out))) (below_size (by repeat (first | (with_reducible first | exact HB.out | apply below_alloc | apply pw_below_drewN | apply below_drew1 | refine below_set ?_ GE202.out) | exact HB.out)))); have n3_ := Aside0.mk (blk_below (g := gb202) (o := .cells #[.int .i64 a0_0, .int .i64 a0_1, .slice A0_2 l0_2.length c0_2] 24 (0, 0)) (by (with_reducible repeat (first | refine blk_drewN ?_ _ | refine blk_drew ?_ | refine blk_alloc ?_ _)); exact BK202.out) hb); have n4_ := Aside0.mk (below_step (by repeat (first | (with_reducible first | exact HB.out | apply below_alloc | apply pw_below_drewN | apply below_drew1 | refine below_set ?_ GE202.out) | exact HB.out)) hb); clear HO208; clear HO211; clear BK202; clear HB; have HO208 := n0_; have HO211 := n1_; have HO217 := n2_; have BK202 := n3_; have HB := n4_; clear n0_ n1_ n2_ n3_ n4_; (try clear hb); (try clear hb2); (try clear hk); (try clear hi); (try clear ho0); obtain ⟨Ao42, co42, eo42⟩ := Kd.R_slice HO217.out; subst eo42) | ((with_reducible refine gate_callee (f := 10) rfl ?_); refine goesL_ (some 27) rfl rfl Tryd.func10 (by kernel_rfl) rfl #[.slice Ao42 t213.length co42, .slice Ao39 t209.length co39] rfl (by (try simp only [List.map_toArray, List.map_cons, List.map_nil]); first | done | rfl | (simp only [List.length_drop, List.length_take]; rfl)) ?_; (with_reducible refine (ostinatoref23_Same.calls k _ _ t213 _ _ t209 false _ ?side1 ?side2 ?side3 ?side4 A8.out).mono ?_); (case side1 => repeat (first | exact (Kd.R_reads' HO217.out).2.2 | (with_reducible refine Kd.C_alloc ?_ _) | (with_reducible refine Kd.C_drewN ?_ _) | (with_reducible refine Kd.C_drew ?_))); (case side2 => exact (Kd.R_reads' HO217.out).2.1); (case side3 => repeat (first | exact (Kd.R_reads' HO211.out).2.2 | (with_reducible refine Kd.C_alloc ?_ _) | (with_reducible refine Kd.C_drewN ?_ _) | (with_reducible refine Kd.C_drew ?_))); (case side4 => exact (Kd.R_reads' HO211.out).2.1); rintro e w' ⟨rfl, ⟨nd, rfl⟩⟩; refine ⟨_, rfl, ?_⟩))
        go_ret
        exact ⟨by first | rfl | (simp [errW_none, errW_some] <;> rfl) | (simp [bneNil, bneNilU] <;> rfl) | (simp [*, errW_none, errW_some] <;> rfl), by repeat (first | (with_reducible first | exact HB.out | apply below_alloc | apply pw_below_drewN | apply below_drew1 | refine below_set ?_ GE202.out) | exact HB.out)⟩
    · replace c10 := Bool.eq_false_iff.mpr c10
      subst c10
      have H1 : (some false) = some r := by rw [if_neg (show ¬ (false = true) by decide)] at H; exact H
      clear H
      have H := H1
      clear H1
      obtain rfl := Option.some.inj H
      go_enter Tryd.func3, Tryd.ntmps3
      go_wp2_with (first | ((with_reducible refine gate_dst (N := 2) rfl ?_); (try (refine gate_guard (by rfl) ?_; dsimp only)); refine box_event ?hg (N := 2) ?hd (cs := #[.int .i64 a0_0, .int .i64 a0_1, .slice A0_2 l0_2.length c0_2]) (t := 24) ?hr ?_; (case hd => rfl); (case hg => rfl); (case hr => first | (go_simp; done) | (go_simp; rfl)); intro gb202 hg w43 hbox hb; have n0_ := Aside0.mk (below_step (by repeat (first | (with_reducible first | exact HB.out | apply below_alloc | apply pw_below_drewN | apply below_drew1) | exact HB.out)) hb); have n1_ := Aside0.mk (hbox); have n2_ := Aside0.mk ((by rw [hg]; exact (below_size (by repeat (first | (with_reducible first | exact HB.out | apply below_alloc | apply pw_below_drewN | apply below_drew1) | exact HB.out))) : w.heap.size ≤ gb202)); have n3_ := Aside0.mk ((by rw [hg]; exact (below_size (by repeat (first | (with_reducible first | exact HB.out | apply below_alloc | apply pw_below_drewN | apply below_drew1) | exact HB.out))) : w.heap.size ≤ gb202)); clear HB; have HB := n0_; have BK202 := n1_; have GW202 := n2_; have GE202 := n3_; clear n0_ n1_ n2_ n3_; clear hb hbox hg) | ((with_reducible refine gate_callee (f := 5) rfl ?_); refine goesL_ (some 12) rfl rfl Tryd.func5 (by kernel_rfl) rfl #[] rfl (by (try simp only [List.map_toArray, List.map_cons, List.map_nil]); first | done | rfl | (simp only [List.length_drop, List.length_take]; rfl)) ?_; (with_reducible refine (ostinatolaw23_awake.calls  true _ A3.out (Tabs.below HT.out (by repeat (first | (with_reducible first | exact HB.out | apply below_alloc | apply pw_below_drewN | apply below_drew1 | refine below_set ?_ GE202.out) | exact HB.out)))).mono ?_); rintro e w44 ⟨rfl, hb⟩; refine ⟨_, rfl, ?_⟩; have n0_ := Aside0.mk (blk_below (g := gb202) (o := .cells #[.int .i64 a0_0, .int .i64 a0_1, .slice A0_2 l0_2.length c0_2] 24 (0, 0)) (by (with_reducible repeat (first | refine blk_drewN ?_ _ | refine blk_drew ?_ | refine blk_alloc ?_ _)); exact BK202.out) hb); have n1_ := Aside0.mk (below_step (by repeat (first | (with_reducible first | exact HB.out | apply below_alloc | apply pw_below_drewN | apply below_drew1 | refine below_set ?_ GE202.out) | exact HB.out)) hb); clear BK202; clear HB; have BK202 := n0_; have HB := n1_; clear n0_ n1_; (try clear hb); (try clear hb2); (try clear hk); (try clear hi); have hcz45_0 : w44.cell? ⟨gb202, 0, none⟩ = some (.int .i64 a0_0) := (blk_cell BK202.out 0).trans rfl; have hcz45_1 : w44.cell? ⟨gb202, 1, none⟩ = some (.int .i64 a0_1) := (blk_cell BK202.out 1).trans rfl; have hcz45_2 : w44.cell? ⟨gb202, 2, none⟩ = some (.slice A0_2 l0_2.length c0_2) := (blk_cell BK202.out 2).trans rfl; have hfz45_0 := blk_frozen BK202.out 0; have hfz45_1 := blk_frozen BK202.out 1; have hfz45_2 := blk_frozen BK202.out 2) | ((with_reducible refine gate_callee (f := 7) rfl ?_); refine goesL_ (some 14) rfl rfl Tryd.func7 (by kernel_rfl) rfl #[.agg #[.int .i64 a0_0, .int .i64 a0_1, .slice A0_2 l0_2.length c0_2]] rfl (by (try simp only [List.map_toArray, List.map_cons, List.map_nil]); first | done | rfl | (simp only [List.length_drop, List.length_take]; rfl)) ?_; (with_reducible refine (ostinatolaw23_Sys_made.calls k a0_0 a0_1 (fun k_ => k_ < w.heap.size) _ _ l0_2 t204 t205 t206 _ ?side1 A4.out).mono ?_); (case side1 => exact Kd.V_mk HC0_2.out (Kd.F_below (Kd.C_F k58_heap HR0_2.out) (by repeat (first | (with_reducible first | exact HB.out | apply below_alloc | apply pw_below_drewN | apply below_drew1 | refine below_set ?_ GE202.out) | exact HB.out)))); rintro e w46 ⟨v207, rfl, ho0, hb⟩; refine ⟨_, rfl, ?_⟩; have n0_ := Aside0.mk (Kd.N_lower (Kd.N_mono (ok' := fun k_ => k_ ≠ gb202) ho0 (fun k_ hk_ => Or.elim hk_ (fun hs_ => fun e_ => Nat.not_le.2 hs_ (by rw [e_]; exact GW202.out)) (fun hn_ => (Kd.freshB (g := gb202) (o := .cells #[.int .i64 a0_0, .int .i64 a0_1, .slice A0_2 l0_2.length c0_2] 24 (0, 0)) (by (with_reducible repeat (first | refine blk_drewN ?_ _ | refine blk_drew ?_ | refine blk_alloc ?_ _)); exact BK202.out) k_ hn_)))) (below_size (by repeat (first | (with_reducible first | exact HB.out | apply below_alloc | apply pw_below_drewN | apply below_drew1 | refine below_set ?_ GE202.out) | exact HB.out)))); have n1_ := Aside0.mk (blk_below (g := gb202) (o := .cells #[.int .i64 a0_0, .int .i64 a0_1, .slice A0_2 l0_2.length c0_2] 24 (0, 0)) (by (with_reducible repeat (first | refine blk_drewN ?_ _ | refine blk_drew ?_ | refine blk_alloc ?_ _)); exact BK202.out) hb); have n2_ := Aside0.mk (below_step (by repeat (first | (with_reducible first | exact HB.out | apply below_alloc | apply pw_below_drewN | apply below_drew1 | refine below_set ?_ GE202.out) | exact HB.out)) hb); clear BK202; clear HB; have HO208 := n0_; have BK202 := n1_; have HB := n2_; clear n0_ n1_ n2_; (try clear hb); (try clear hb2); (try clear hk); (try clear hi); (try clear ho0); obtain ⟨Ao47, co47, eo47⟩ := Kd.N_slice HO208.out; subst eo47) | ((with_reducible refine gate_callee (f := 6) rfl ?_); refine goesL_ (some 16) rfl rfl Tryd.func6 (by kernel_rfl) rfl #[.agg #[.int .i64 t204, .int .i64 t205, .slice Ao47 t206.length co47], .slice A1 l1.length c1, .int .i64 30] rfl (by (try simp only [List.map_toArray, List.map_cons, List.map_nil]); first | done | rfl | (simp only [List.length_drop, List.length_take]; rfl)) ?_; (with_reducible refine (ostinatolaw23_script.calls k t204 t205 _ _ t206 (fun k_ => k_ < w.heap.size) _ _ l1 30 t209 _ ?side1 ?side2 ?side3 A5.out).mono ?_); (case side1 => repeat (first | exact (Kd.N_reads' HO208.out).2.2 | (with_reducible refine Kd.C_alloc ?_ _) | (with_reducible refine Kd.C_drewN ?_ _) | (with_reducible refine Kd.C_drew ?_))); (case side2 => exact (Kd.N_reads' HO208.out).2.1); (case side3 => exact Kd.V_mk HC1.out (Kd.F_below (Kd.C_F k51_heap HR1.out) (by repeat (first | (with_reducible first | exact HB.out | apply below_alloc | apply pw_below_drewN | apply below_drew1 | refine below_set ?_ GE202.out) | exact HB.out)))); rintro e w48 ⟨v210, rfl, ho0, hb⟩; refine ⟨_, rfl, ?_⟩; have n0_ := Aside0.mk (Kd.N_elder' (by (with_reducible repeat (first | apply Kd.N_alloc | apply Kd.N_drewN | apply Kd.N_drew)); exact HO208.out) (Kd.R_base ho0) hb); have n1_ := Aside0.mk (Kd.R_lower (Kd.R_mono (ok' := fun k_ => True) ho0 (fun _ hk_ => trivial)) (below_size (by repeat (first | (with_reducible first | exact HB.out | apply below_alloc | apply pw_below_drewN | apply below_drew1 | refine below_set ?_ GE202.out) | exact HB.out)))); have n2_ := Aside0.mk (blk_below (g := gb202) (o := .cells #[.int .i64 a0_0, .int .i64 a0_1, .slice A0_2 l0_2.length c0_2] 24 (0, 0)) (by (with_reducible repeat (first | refine blk_drewN ?_ _ | refine blk_drew ?_ | refine blk_alloc ?_ _)); exact BK202.out) hb); have n3_ := Aside0.mk (below_step (by repeat (first | (with_reducible first | exact HB.out | apply below_alloc | apply pw_below_drewN | apply below_drew1 | refine below_set ?_ GE202.out) | exact HB.out)) hb); clear HO208; clear BK202; clear HB; have HO208 := n0_; have HO211 := n1_; have BK202 := n2_; have HB := n3_; clear n0_ n1_ n2_ n3_; (try clear hb); (try clear hb2); (try clear hk); (try clear hi); (try clear ho0); obtain ⟨Ao49, co49, eo49⟩ := Kd.R_slice HO211.out; subst eo49) | ((with_reducible refine gate_callee (f := 8) rfl ?_); refine goesL_ (some 18) rfl rfl Tryd.func8 (by kernel_rfl) rfl #[.slice Ao49 t209.length co49] rfl (by (try simp only [List.map_toArray, List.map_cons, List.map_nil]); first | done | rfl | (simp only [List.length_drop, List.length_take]; rfl)) ?_; (with_reducible refine (run_Script.calls _ _ t209 t212 _ ?side1 ?side2 A6.out (Tabs.below HT.out (by repeat (first | (with_reducible first | exact HB.out | apply below_alloc | apply pw_below_drewN | apply below_drew1 | refine below_set ?_ GE202.out) | exact HB.out)))).mono ?_); (case side1 => repeat (first | exact (Kd.R_reads' HO211.out).2.2 | (with_reducible refine Kd.C_alloc ?_ _) | (with_reducible refine Kd.C_drewN ?_ _) | (with_reducible refine Kd.C_drew ?_))); (case side2 => exact (Kd.R_reads' HO211.out).2.1); rintro e w50 ⟨rfl, hb⟩; refine ⟨_, rfl, ?_⟩; have n0_ := Aside0.mk (Kd.N_below (by (with_reducible repeat (first | apply Kd.N_alloc | apply Kd.N_drewN | apply Kd.N_drew)); exact HO208.out) hb); have n1_ := Aside0.mk (Kd.R_below (by (with_reducible repeat (first | apply Kd.R_alloc | apply Kd.R_drewN | apply Kd.R_drew)); exact HO211.out) hb); have n2_ := Aside0.mk (blk_below (g := gb202) (o := .cells #[.int .i64 a0_0, .int .i64 a0_1, .slice A0_2 l0_2.length c0_2] 24 (0, 0)) (by (with_reducible repeat (first | refine blk_drewN ?_ _ | refine blk_drew ?_ | refine blk_alloc ?_ _)); exact BK202.out) hb); have n3_ := Aside0.mk (below_step (by repeat (first | (with_reducible first | exact HB.out | apply below_alloc | apply pw_below_drewN | apply below_drew1 | refine below_set ?_ GE202.out) | exact HB.out)) hb); clear HO208; clear HO211; clear BK202; clear HB; have HO208 := n0_; have HO211 := n1_; have BK202 := n2_; have HB := n3_; clear n0_ n1_ n2_ n3_; (try clear hb); (try clear hb2); (try clear hk); (try clear hi)) | ((with_reducible refine gate_callee (f := 9) rfl ?_); refine goesL_ (some 21) rfl rfl Tryd.func9 (by kernel_rfl) rfl #[.string t212] rfl (by (try simp only [List.map_toArray, List.map_cons, List.map_nil]); first | done | rfl | (simp only [List.length_drop, List.length_take]; rfl)) ?_; (with_reducible refine (run_ParseScript.calls t212 t213 t214 false _ A7.out (Tabs.below HT.out (by repeat (first | (with_reducible first | exact HB.out | apply below_alloc | apply pw_below_drewN | apply below_drew1 | refine below_set ?_ GE202.out) | exact HB.out)))).mono ?_); rintro e w51 ⟨v216, rfl, ho0, hb⟩; refine ⟨_, rfl, ?_⟩; have n0_ := Aside0.mk (Kd.N_elder' (by (with_reducible repeat (first | apply Kd.N_alloc | apply Kd.N_drewN | apply Kd.N_drew)); exact HO208.out) (Kd.R_base ho0) hb); have n1_ := Aside0.mk (Kd.R_elder' (by (with_reducible repeat (first | apply Kd.R_alloc | apply Kd.R_drewN | apply Kd.R_drew)); exact HO211.out) (Kd.R_base ho0) hb); have n2_ := Aside0.mk (Kd.R_lower (Kd.R_new' ho0 (Kd.R_lt (by (with_reducible repeat (first | apply Kd.R_alloc | apply Kd.R_drewN | apply Kd.R_drew)); exact HO211.out))) (below_size (by repeat (first | (with_reducible first | exact HB.out | apply below_alloc | apply pw_below_drewN | apply below_drew1 | refine below_set ?_ GE202.out) | exact HB.out)))); have n3_ := Aside0.mk (blk_below (g := gb202) (o := .cells #[.int .i64 a0_0, .int .i64 a0_1, .slice A0_2 l0_2.length c0_2] 24 (0, 0)) (by (with_reducible repeat (first | refine blk_drewN ?_ _ | refine blk_drew ?_ | refine blk_alloc ?_ _)); exact BK202.out) hb); have n4_ := Aside0.mk (below_step (by repeat (first | (with_reducible first | exact HB.out | apply below_alloc | apply pw_below_drewN | apply below_drew1 | refine below_set ?_ GE202.out) | exact HB.out)) hb); clear HO208; clear HO211; clear BK202; clear HB; have HO208 := n0_; have HO211 := n1_; have HO217 := n2_; have BK202 := n3_; have HB := n4_; clear n0_ n1_ n2_ n3_ n4_; (try clear hb); (try clear hb2); (try clear hk); (try clear hi); (try clear ho0); obtain ⟨Ao52, co52, eo52⟩ := Kd.R_slice HO217.out; subst eo52) | ((with_reducible refine gate_callee (f := 10) rfl ?_); refine goesL_ (some 27) rfl rfl Tryd.func10 (by kernel_rfl) rfl #[.slice Ao52 t213.length co52, .slice Ao49 t209.length co49] rfl (by (try simp only [List.map_toArray, List.map_cons, List.map_nil]); first | done | rfl | (simp only [List.length_drop, List.length_take]; rfl)) ?_; (with_reducible refine (ostinatoref23_Same.calls k _ _ t213 _ _ t209 t218 _ ?side1 ?side2 ?side3 ?side4 A8.out).mono ?_); (case side1 => repeat (first | exact (Kd.R_reads' HO217.out).2.2 | (with_reducible refine Kd.C_alloc ?_ _) | (with_reducible refine Kd.C_drewN ?_ _) | (with_reducible refine Kd.C_drew ?_))); (case side2 => exact (Kd.R_reads' HO217.out).2.1); (case side3 => repeat (first | exact (Kd.R_reads' HO211.out).2.2 | (with_reducible refine Kd.C_alloc ?_ _) | (with_reducible refine Kd.C_drewN ?_ _) | (with_reducible refine Kd.C_drew ?_))); (case side4 => exact (Kd.R_reads' HO211.out).2.1); rintro e w' ⟨rfl, ⟨nd, rfl⟩⟩; refine ⟨_, rfl, ?_⟩))
      go_ret
      exact ⟨by first | rfl | (simp [errW_none, errW_some] <;> rfl) | (simp [bneNil, bneNilU] <;> rfl) | (simp [*, errW_none, errW_some] <;> rfl), by repeat (first | (with_reducible first | exact HB.out | apply below_alloc | apply pw_below_drewN | apply below_drew1 | refine below_set ?_ GE202.out) | exact HB.out)⟩
  · replace c9 := Bool.eq_false_iff.mpr c9
    subst c9
    have H1 : (some false) = some r := by rw [if_neg (show ¬ (false = true) by decide)] at H; exact H
    clear H
    have H := H1
    clear H1
    obtain rfl := Option.some.inj H
    go_enter Tryd.func3, Tryd.ntmps3
    go_wp2_with (first | ((with_reducible refine gate_dst (N := 2) rfl ?_); (try (refine gate_guard (by rfl) ?_; dsimp only)); refine box_event ?hg (N := 2) ?hd (cs := #[.int .i64 a0_0, .int .i64 a0_1, .slice A0_2 l0_2.length c0_2]) (t := 24) ?hr ?_; (case hd => rfl); (case hg => rfl); (case hr => first | (go_simp; done) | (go_simp; rfl)); intro gb202 hg w53 hbox hb; have n0_ := Aside0.mk (below_step (by repeat (first | (with_reducible first | exact HB.out | apply below_alloc | apply pw_below_drewN | apply below_drew1) | exact HB.out)) hb); have n1_ := Aside0.mk (hbox); have n2_ := Aside0.mk ((by rw [hg]; exact (below_size (by repeat (first | (with_reducible first | exact HB.out | apply below_alloc | apply pw_below_drewN | apply below_drew1) | exact HB.out))) : w.heap.size ≤ gb202)); have n3_ := Aside0.mk ((by rw [hg]; exact (below_size (by repeat (first | (with_reducible first | exact HB.out | apply below_alloc | apply pw_below_drewN | apply below_drew1) | exact HB.out))) : w.heap.size ≤ gb202)); clear HB; have HB := n0_; have BK202 := n1_; have GW202 := n2_; have GE202 := n3_; clear n0_ n1_ n2_ n3_; clear hb hbox hg) | ((with_reducible refine gate_callee (f := 5) rfl ?_); refine goesL_ (some 12) rfl rfl Tryd.func5 (by kernel_rfl) rfl #[] rfl (by (try simp only [List.map_toArray, List.map_cons, List.map_nil]); first | done | rfl | (simp only [List.length_drop, List.length_take]; rfl)) ?_; (with_reducible refine (ostinatolaw23_awake.calls  false _ A3.out (Tabs.below HT.out (by repeat (first | (with_reducible first | exact HB.out | apply below_alloc | apply pw_below_drewN | apply below_drew1 | refine below_set ?_ GE202.out) | exact HB.out)))).mono ?_); rintro e w54 ⟨rfl, hb⟩; refine ⟨_, rfl, ?_⟩; have n0_ := Aside0.mk (blk_below (g := gb202) (o := .cells #[.int .i64 a0_0, .int .i64 a0_1, .slice A0_2 l0_2.length c0_2] 24 (0, 0)) (by (with_reducible repeat (first | refine blk_drewN ?_ _ | refine blk_drew ?_ | refine blk_alloc ?_ _)); exact BK202.out) hb); have n1_ := Aside0.mk (below_step (by repeat (first | (with_reducible first | exact HB.out | apply below_alloc | apply pw_below_drewN | apply below_drew1 | refine below_set ?_ GE202.out) | exact HB.out)) hb); clear BK202; clear HB; have BK202 := n0_; have HB := n1_; clear n0_ n1_; (try clear hb); (try clear hb2); (try clear hk); (try clear hi); have hcz55_0 : w54.cell? ⟨gb202, 0, none⟩ = some (.int .i64 a0_0) := (blk_cell BK202.out 0).trans rfl; have hcz55_1 : w54.cell? ⟨gb202, 1, none⟩ = some (.int .i64 a0_1) := (blk_cell BK202.out 1).trans rfl; have hcz55_2 : w54.cell? ⟨gb202, 2, none⟩ = some (.slice A0_2 l0_2.length c0_2) := (blk_cell BK202.out 2).trans rfl; have hfz55_0 := blk_frozen BK202.out 0; have hfz55_1 := blk_frozen BK202.out 1; have hfz55_2 := blk_frozen BK202.out 2) | ((with_reducible refine gate_callee (f := 7) rfl ?_); refine goesL_ (some 14) rfl rfl Tryd.func7 (by kernel_rfl) rfl #[.agg #[.int .i64 a0_0, .int .i64 a0_1, .slice A0_2 l0_2.length c0_2]] rfl (by (try simp only [List.map_toArray, List.map_cons, List.map_nil]); first | done | rfl | (simp only [List.length_drop, List.length_take]; rfl)) ?_; (with_reducible refine (ostinatolaw23_Sys_made.calls k a0_0 a0_1 (fun k_ => k_ < w.heap.size) _ _ l0_2 t204 t205 t206 _ ?side1 A4.out).mono ?_); (case side1 => exact Kd.V_mk HC0_2.out (Kd.F_below (Kd.C_F k58_heap HR0_2.out) (by repeat (first | (with_reducible first | exact HB.out | apply below_alloc | apply pw_below_drewN | apply below_drew1 | refine below_set ?_ GE202.out) | exact HB.out)))); rintro e w56 ⟨v207, rfl, ho0, hb⟩; refine ⟨_, rfl, ?_⟩; have n0_ := Aside0.mk (Kd.N_lower (Kd.N_mono (ok' := fun k_ => k_ ≠ gb202) ho0 (fun k_ hk_ => Or.elim hk_ (fun hs_ => fun e_ => Nat.not_le.2 hs_ (by rw [e_]; exact GW202.out)) (fun hn_ => (Kd.freshB (g := gb202) (o := .cells #[.int .i64 a0_0, .int .i64 a0_1, .slice A0_2 l0_2.length c0_2] 24 (0, 0)) (by (with_reducible repeat (first | refine blk_drewN ?_ _ | refine blk_drew ?_ | refine blk_alloc ?_ _)); exact BK202.out) k_ hn_)))) (below_size (by repeat (first | (with_reducible first | exact HB.out | apply below_alloc | apply pw_below_drewN | apply below_drew1 | refine below_set ?_ GE202.out) | exact HB.out)))); have n1_ := Aside0.mk (blk_below (g := gb202) (o := .cells #[.int .i64 a0_0, .int .i64 a0_1, .slice A0_2 l0_2.length c0_2] 24 (0, 0)) (by (with_reducible repeat (first | refine blk_drewN ?_ _ | refine blk_drew ?_ | refine blk_alloc ?_ _)); exact BK202.out) hb); have n2_ := Aside0.mk (below_step (by repeat (first | (with_reducible first | exact HB.out | apply below_alloc | apply pw_below_drewN | apply below_drew1 | refine below_set ?_ GE202.out) | exact HB.out)) hb); clear BK202; clear HB; have HO208 := n0_; have BK202 := n1_; have HB := n2_; clear n0_ n1_ n2_; (try clear hb); (try clear hb2); (try clear hk); (try clear hi); (try clear ho0); obtain ⟨Ao57, co57, eo57⟩ := Kd.N_slice HO208.out; subst eo57) | ((with_reducible refine gate_callee (f := 6) rfl ?_); refine goesL_ (some 16) rfl rfl Tryd.func6 (by kernel_rfl) rfl #[.agg #[.int .i64 t204, .int .i64 t205, .slice Ao57 t206.length co57], .slice A1 l1.length c1, .int .i64 30] rfl (by (try simp only [List.map_toArray, List.map_cons, List.map_nil]); first | done | rfl | (simp only [List.length_drop, List.length_take]; rfl)) ?_; (with_reducible refine (ostinatolaw23_script.calls k t204 t205 _ _ t206 (fun k_ => k_ < w.heap.size) _ _ l1 30 t209 _ ?side1 ?side2 ?side3 A5.out).mono ?_); (case side1 => repeat (first | exact (Kd.N_reads' HO208.out).2.2 | (with_reducible refine Kd.C_alloc ?_ _) | (with_reducible refine Kd.C_drewN ?_ _) | (with_reducible refine Kd.C_drew ?_))); (case side2 => exact (Kd.N_reads' HO208.out).2.1); (case side3 => exact Kd.V_mk HC1.out (Kd.F_below (Kd.C_F k51_heap HR1.out) (by repeat (first | (with_reducible first | exact HB.out | apply below_alloc | apply pw_below_drewN | apply below_drew1 | refine below_set ?_ GE202.out) | exact HB.out)))); rintro e w58 ⟨v210, rfl, ho0, hb⟩; refine ⟨_, rfl, ?_⟩; have n0_ := Aside0.mk (Kd.N_elder' (by (with_reducible repeat (first | apply Kd.N_alloc | apply Kd.N_drewN | apply Kd.N_drew)); exact HO208.out) (Kd.R_base ho0) hb); have n1_ := Aside0.mk (Kd.R_lower (Kd.R_mono (ok' := fun k_ => True) ho0 (fun _ hk_ => trivial)) (below_size (by repeat (first | (with_reducible first | exact HB.out | apply below_alloc | apply pw_below_drewN | apply below_drew1 | refine below_set ?_ GE202.out) | exact HB.out)))); have n2_ := Aside0.mk (blk_below (g := gb202) (o := .cells #[.int .i64 a0_0, .int .i64 a0_1, .slice A0_2 l0_2.length c0_2] 24 (0, 0)) (by (with_reducible repeat (first | refine blk_drewN ?_ _ | refine blk_drew ?_ | refine blk_alloc ?_ _)); exact BK202.out) hb); have n3_ := Aside0.mk (below_step (by repeat (first | (with_reducible first | exact HB.out | apply below_alloc | apply pw_below_drewN | apply below_drew1 | refine below_set ?_ GE202.out) | exact HB.out)) hb); clear HO208; clear BK202; clear HB; have HO208 := n0_; have HO211 := n1_; have BK202 := n2_; have HB := n3_; clear n0_ n1_ n2_ n3_; (try clear hb); (try clear hb2); (try clear hk); (try clear hi); (try clear ho0); obtain ⟨Ao59, co59, eo59⟩ := Kd.R_slice HO211.out; subst eo59) | ((with_reducible refine gate_callee (f := 8) rfl ?_); refine goesL_ (some 18) rfl rfl Tryd.func8 (by kernel_rfl) rfl #[.slice Ao59 t209.length co59] rfl (by (try simp only [List.map_toArray, List.map_cons, List.map_nil]); first | done | rfl | (simp only [List.length_drop, List.length_take]; rfl)) ?_; (with_reducible refine (run_Script.calls _ _ t209 t212 _ ?side1 ?side2 A6.out (Tabs.below HT.out (by repeat (first | (with_reducible first | exact HB.out | apply below_alloc | apply pw_below_drewN | apply below_drew1 | refine below_set ?_ GE202.out) | exact HB.out)))).mono ?_); (case side1 => repeat (first | exact (Kd.R_reads' HO211.out).2.2 | (with_reducible refine Kd.C_alloc ?_ _) | (with_reducible refine Kd.C_drewN ?_ _) | (with_reducible refine Kd.C_drew ?_))); (case side2 => exact (Kd.R_reads' HO211.out).2.1); rintro e w60 ⟨rfl, hb⟩; refine ⟨_, rfl, ?_⟩; have n0_ := Aside0.mk (Kd.N_below (by (with_reducible repeat (first | apply Kd.N_alloc | apply Kd.N_drewN | apply Kd.N_drew)); exact HO208.out) hb); have n1_ := Aside0.mk (Kd.R_below (by (with_reducible repeat (first | apply Kd.R_alloc | apply Kd.R_drewN | apply Kd.R_drew)); exact HO211.out) hb); have n2_ := Aside0.mk (blk_below (g := gb202) (o := .cells #[.int .i64 a0_0, .int .i64 a0_1, .slice A0_2 l0_2.length c0_2] 24 (0, 0)) (by (with_reducible repeat (first | refine blk_drewN ?_ _ | refine blk_drew ?_ | refine blk_alloc ?_ _)); exact BK202.out) hb); have n3_ := Aside0.mk (below_step (by repeat (first | (with_reducible first | exact HB.out | apply below_alloc | apply pw_below_drewN | apply below_drew1 | refine below_set ?_ GE202.out) | exact HB.out)) hb); clear HO208; clear HO211; clear BK202; clear HB; have HO208 := n0_; have HO211 := n1_; have BK202 := n2_; have HB := n3_; clear n0_ n1_ n2_ n3_; (try clear hb); (try clear hb2); (try clear hk); (try clear hi)) | ((with_reducible refine gate_callee (f := 9) rfl ?_); refine goesL_ (some 21) rfl rfl Tryd.func9 (by kernel_rfl) rfl #[.string t212] rfl (by (try simp only [List.map_toArray, List.map_cons, List.map_nil]); first | done | rfl | (simp only [List.length_drop, List.length_take]; rfl)) ?_; (with_reducible refine (run_ParseScript.calls t212 t213 t214 t215 _ A7.out (Tabs.below HT.out (by repeat (first | (with_reducible first | exact HB.out | apply below_alloc | apply pw_below_drewN | apply below_drew1 | refine below_set ?_ GE202.out) | exact HB.out)))).mono ?_); rintro e w61 ⟨v216, rfl, ho0, hb⟩; refine ⟨_, rfl, ?_⟩; have n0_ := Aside0.mk (Kd.N_elder' (by (with_reducible repeat (first | apply Kd.N_alloc | apply Kd.N_drewN | apply Kd.N_drew)); exact HO208.out) (Kd.R_base ho0) hb); have n1_ := Aside0.mk (Kd.R_elder' (by (with_reducible repeat (first | apply Kd.R_alloc | apply Kd.R_drewN | apply Kd.R_drew)); exact HO211.out) (Kd.R_base ho0) hb); have n2_ := Aside0.mk (Kd.R_lower (Kd.R_new' ho0 (Kd.R_lt (by (with_reducible repeat (first | apply Kd.R_alloc | apply Kd.R_drewN | apply Kd.R_drew)); exact HO211.out))) (below_size (by repeat (first | (with_reducible first | exact HB.out | apply below_alloc | apply pw_below_drewN | apply below_drew1 | refine below_set ?_ GE202.out) | exact HB.out)))); have n3_ := Aside0.mk (blk_below (g := gb202) (o := .cells #[.int .i64 a0_0, .int .i64 a0_1, .slice A0_2 l0_2.length c0_2] 24 (0, 0)) (by (with_reducible repeat (first | refine blk_drewN ?_ _ | refine blk_drew ?_ | refine blk_alloc ?_ _)); exact BK202.out) hb); have n4_ := Aside0.mk (below_step (by repeat (first | (with_reducible first | exact HB.out | apply below_alloc | apply pw_below_drewN | apply below_drew1 | refine below_set ?_ GE202.out) | exact HB.out)) hb); clear HO208; clear HO211; clear BK202; clear HB; have HO208 := n0_; have HO211 := n1_; have HO217 := n2_; have BK202 := n3_; have HB := n4_; clear n0_ n1_ n2_ n3_ n4_; (try clear hb); (try clear hb2); (try clear hk); (try clear hi); (try clear ho0); obtain ⟨Ao62, co62, eo62⟩ := Kd.R_slice HO217.out; subst eo62) | ((with_reducible refine gate_callee (f := 10) rfl ?_); refine goesL_ (some 27) rfl rfl Tryd.func10 (by kernel_rfl) rfl #[.slice Ao62 t213.length co62, .slice Ao59 t209.length co59] rfl (by (try simp only [List.map_toArray, List.map_cons, List.map_nil]); first | done | rfl | (simp only [List.length_drop, List.length_take]; rfl)) ?_; (with_reducible refine (ostinatoref23_Same.calls k _ _ t213 _ _ t209 t218 _ ?side1 ?side2 ?side3 ?side4 A8.out).mono ?_); (case side1 => repeat (first | exact (Kd.R_reads' HO217.out).2.2 | (with_reducible refine Kd.C_alloc ?_ _) | (with_reducible refine Kd.C_drewN ?_ _) | (with_reducible refine Kd.C_drew ?_))); (case side2 => exact (Kd.R_reads' HO217.out).2.1); (case side3 => repeat (first | exact (Kd.R_reads' HO211.out).2.2 | (with_reducible refine Kd.C_alloc ?_ _) | (with_reducible refine Kd.C_drewN ?_ _) | (with_reducible refine Kd.C_drew ?_))); (case side4 => exact (Kd.R_reads' HO211.out).2.1); rintro e w' ⟨rfl, ⟨nd, rfl⟩⟩; refine ⟨_, rfl, ?_⟩))
    go_ret
    exact ⟨by first | rfl | (simp [errW_none, errW_some] <;> rfl) | (simp [bneNil, bneNilU] <;> rfl) | (simp [*, errW_none, errW_some] <;> rfl), by repeat (first | (with_reducible first | exact HB.out | apply below_alloc | apply pw_below_drewN | apply below_drew1 | refine below_set ?_ GE202.out) | exact HB.out)⟩

end
end Go.Proofs.YtnejkfccdnadcaaDoor.PRunBack
end

section
namespace Go.Proofs.YtnejkfccdnadcaaDoor.PRunBack
open Go.RowKit Go.Proofs.YtnejkfccdnadcaaDoorW.PrintWords Go.Proofs.YtnejkfccdnadcaaDoorW.PrintLast Go.Proofs.YtnejkfccdnadcaaDoorW.PrintMore
attribute [local go_sem] max2_int min2_int max_two min_two max_three min_three max_four min_four   -- for this text's walks alone
set_option linter.unusedVariables false
set_option linter.unusedSimpArgs false
noncomputable section

end
end Go.Proofs.YtnejkfccdnadcaaDoor.PRunBack
end

section
namespace Go.Proofs.YtnejkfccdnadcaaDoorW.PrintWords
open Go.RowKit

section
variable {α β : Type} {c : Prop} [Decidable c] {A B : Nat → Option α} {r : α}
theorem Ev.ifp (h : c) (k : Ev A r) : Ev (fun n => if c then A n else B n) r := Ev.congr (fun _ => if_pos h) k
theorem Ev.ifn (h : ¬ c) (k : Ev B r) : Ev (fun n => if c then A n else B n) r := Ev.congr (fun _ => if_neg h) k
theorem Ev.bindS {o : Option β} {f : Nat → β → Option α} {a : β} (h : o = some a) (k : Ev (fun n => f n a) r) : Ev (fun n => o.bind (f n)) r := Ev.congr (fun _ => by rw [h]; rfl) k
theorem Ev.ite_ {a b : Nat → Option α} (h1 : c → Ev a r) (h2 : ¬ c → Ev b r) : Ev (fun n => if c then a n else b n) r := by
  by_cases h : c
  · exact Ev.ifp h (h1 h)
  · exact Ev.ifn h (h2 h)
end

theorem wrap64_id {x : Int} (h0 : -9223372036854775808 ≤ x) (h1 : x ≤ 9223372036854775807) : wrap64 x = x := by unfold wrap64; omega
theorem wrap64_succ (g : Nat) (h : g ≤ 9223372036854775806) : wrap64 ((g : Int) + 1) = ((g + 1 : Nat) : Int) := by rw [wrap64_id (by omega) (by omega)]; rfl
theorem u64_nonneg (x : Int) : 0 ≤ IntKind.u64.wrap x := by rw [IntKind.wrap_u64]; omega

theorem and_maskP (n : Int) (k : Nat) (hk : k ≤ 62) : bits .and .i64 n (((2 ^ k - 1 : Nat)) : Int) = n % ((2 ^ k : Nat) : Int) := by
  have hp : (2 : Nat) ^ k ≤ 2 ^ 62 := Nat.pow_le_pow_right (by decide) hk
  have hpos : 0 < (2 : Nat) ^ k := Nat.pow_pos (by decide)
  have hm : (BitVec.ofInt 64 (((2 ^ k - 1 : Nat)) : Int)).toNat = 2 ^ k - 1 := by
    rw [BitVec.ofInt_natCast, BitVec.toNat_ofNat]; exact Nat.mod_eq_of_lt (by omega)
  have hdvd : (2 ^ k : Nat) ∣ 2 ^ 64 := Nat.pow_dvd_pow 2 (by omega)
  have key : (BitVec.ofInt 64 n &&& BitVec.ofInt 64 (((2 ^ k - 1 : Nat)) : Int)).toNat = (n % ((2 ^ 64 : Nat) : Int)).toNat % 2 ^ k := by
    rw [BitVec.toNat_and, BitVec.toNat_ofInt, hm, Nat.and_two_pow_sub_one_eq_mod]
  show IntKind.i64.wrap ((BitVec.ofInt 64 n &&& BitVec.ofInt 64 (((2 ^ k - 1 : Nat)) : Int)).toNat : Nat) = _
  rw [key, IntKind.wrap_i64]
  have hlt : (n % ((2 ^ 64 : Nat) : Int)).toNat % 2 ^ k < 2 ^ k := Nat.mod_lt _ hpos
  have h64 : 0 ≤ n % ((2 ^ 64 : Nat) : Int) := Int.emod_nonneg _ (by decide)
  have hz : (((n % ((2 ^ 64 : Nat) : Int)).toNat % 2 ^ k : Nat) : Int) = n % ((2 ^ k : Nat) : Int) := by
    rw [Int.natCast_emod, Int.toNat_of_nonneg h64, Int.emod_emod_of_dvd _ (Int.natCast_dvd_natCast.2 hdvd)]
  rw [← hz]
  omega
theorem andP7 (n : Int) : bits .and .i64 n 7 = n % 8 := and_maskP n 3 (by decide)
theorem andP15 (n : Int) : bits .and .i64 n 15 = n % 16 := and_maskP n 4 (by decide)
theorem andP3 (n : Int) : bits .and .i64 n 3 = n % 4 := and_maskP n 2 (by decide)
theorem and7_rng (n : Int) : 0 ≤ bits .and .i64 n 7 ∧ bits .and .i64 n 7 < 8 := by rw [andP7]; omega
theorem and15_rng (n : Int) : 0 ≤ bits .and .i64 n 15 ∧ bits .and .i64 n 15 < 16 := by rw [andP15]; omega
theorem and3_rng (n : Int) : 0 ≤ bits .and .i64 n 3 ∧ bits .and .i64 n 3 < 4 := by rw [andP3]; omega

theorem rest_valP (n b : Int) (h0 : 0 < b) : (n.tmod b + b).tmod b = n % b := by
  rcases Int.le_total 0 n with hn | hn
  · rw [Int.tmod_eq_emod_of_nonneg hn, Int.tmod_eq_emod_of_nonneg (by have := Int.emod_nonneg n (by omega : b ≠ 0); omega)]
    simp
  · have h1 : n.tmod b = -((-n) % b) := by
      have := Int.neg_tmod n b
      rw [← Int.tmod_eq_emod_of_nonneg (by omega : 0 ≤ -n), Int.neg_tmod]
      simp
    have h2 := Int.emod_nonneg (-n) (by omega : b ≠ 0)
    have h3 := Int.emod_lt_of_pos (-n) h0
    rw [h1, Int.tmod_eq_emod_of_nonneg (by omega)]
    have h4 : -((-n) % b) + b = n + b * ((-n) / b + 1) := by
      have := Int.mul_ediv_add_emod (-n) b
      rw [Int.mul_add]
      omega
    rw [h4, Int.add_mul_emod_self_left]

theorem rest_wrapP (n b : Int) (h0 : 0 < b) (h1 : b ≤ 1000000) : Int.tmod (wrap64 (Int.tmod n b + b)) b = n % b := by
  have hl : -b < n.tmod b := by
    rcases Int.le_total 0 n with hn | hn
    · have := Int.tmod_nonneg b hn; omega
    · have := Int.neg_tmod n b; have h5 := Int.tmod_lt_of_pos (-n) h0; rw [Int.neg_tmod] at h5; omega
  have hr : n.tmod b < b := Int.tmod_lt_of_pos n h0
  rw [wrap64_id (by omega) (by omega), rest_valP n b h0]

end Go.Proofs.YtnejkfccdnadcaaDoorW.PrintWords
end

section
namespace Go.Proofs.YtnejkfccdnadcaaDoor.PRunBack
open Go.RowKit Go.Proofs.YtnejkfccdnadcaaDoorW.PrintWords

theorem rest_f (n b : Int) (h0 : 0 < b) (h1 : b ≤ 1000000) : ostinatoref05_rest.f n b = some (n % b) := by
  unfold ostinatoref05_rest.f
  rw [if_neg (by omega), rest_wrapP n b h0 h1]

/-- A task by numbers, the i-th one. -/
structure GoodTask (i : Nat) (sets : Int) (t : S85) : Prop where
  id : t.f0 = (i : Int) + 1
  c1 : 1 ≤ t.f1
  cd : t.f1 ≤ t.f2
  dt : t.f2 ≤ t.f3
  t4 : 4 ≤ t.f3
  t24 : t.f3 ≤ 24
  p1 : 10 ≤ t.f4
  p99 : t.f4 ≤ 90 + i
  pi : t.f4 % 10 = i
  chl : t.f5.length ≤ 25
  ch1 : ∀ y ∈ t.f5, 1 ≤ y
  chs : t.f5 = [] ∨ t.f5.sum = t.f1
  usl : t.f6.length ≤ 5
  us : ∀ u ∈ t.f6, 0 ≤ u ∧ u < sets

/-- A system by numbers. -/
structure GoodSys (sets reload : Int) (l : List S85) : Prop where
  s1 : 1 ≤ sets
  s8 : sets ≤ 8
  r0 : 0 ≤ reload
  r3 : reload ≤ 3
  l1 : 1 ≤ l.length
  l6 : l.length ≤ 6
  task : ∀ (i : Nat) (h : i < l.length), GoodTask i sets l[i]

theorem task_l1 (s : Int) (hs : 1 ≤ s ∧ s ≤ 8) (c0 c1 c2 c3 c4 : Int) (U : List Int) (t0 t1 t2 t3 t4 : Int) (t5 : List Int) : ∀ (d g : Nat) (us : List Int), g + d = 5 → us.length = g → (∀ u ∈ us, 0 ≤ u ∧ u < s) →
    ∃ us', Ev (fun k => ostinatoref05_Num_task.l1 k s (g : Int) c0 c1 c2 c3 c4 U t0 t1 t2 t3 t4 t5 us) (t0, t1, t2, t3, t4, t5, us') ∧ us'.length ≤ 5 ∧ ∀ u ∈ us', 0 ≤ u ∧ u < s := by
  intro d
  induction d with
  | zero =>
    intro g us hg hl hu
    obtain rfl : g = 5 := by omega
    refine ⟨us, Ev.step (fun k => by rw [ostinatoref05_Num_task.l1]) ?_, by omega, hu⟩
    exact Ev.ite_ (fun _ => Ev.ifn (by decide) (Ev.now _)) (fun _ => Ev.now _)
  | succ d ih =>
    intro g us hg hl hu
    by_cases hU : (g : Int) < (U.length : Int)
    · have hr := rest_f (rd U g) s (by omega) (by omega)
      obtain ⟨us', h1, h2, h3⟩ := ih (g + 1) (us ++ [rd U g % s]) (by omega) (by simp [hl]) (fun u hu' => by
        rcases List.mem_append.1 hu' with h | h
        · exact hu u h
        · simp at h; subst h; exact ⟨Int.emod_nonneg _ (by omega), Int.emod_lt_of_pos _ (by omega)⟩)
      refine ⟨us', Ev.step (fun k => by rw [ostinatoref05_Num_task.l1]) ?_, h2, h3⟩
      refine Ev.ifp hU (Ev.ifp (by omega) (Ev.ifp (by omega) (Ev.bindS hr (Ev.ifp (by omega) ?_))))
      rw [wrap64_succ g (by omega)]
      exact h1
    · exact ⟨us, Ev.step (fun k => by rw [ostinatoref05_Num_task.l1]) (Ev.ifn hU (Ev.now _)), by omega, hu⟩

theorem task_l0 (s : Int) (hs : 1 ≤ s ∧ s ≤ 8) (c : Nat) (hc : 1 ≤ c ∧ c ≤ 24) (c0 c1 c2 c3 c4 : Int) (U : List Int) (t0 t1 t2 t3 t4 : Int) : ∀ (d i f : Nat) (ch : List Int), i + d = c → f < i → ch.length < i → (∀ y ∈ ch, 1 ≤ y) → ch.sum = (f : Int) → (f = 0 → ch = []) →
    ∃ ch' us', Ev (fun k => ostinatoref05_Num_task.l0 k s (c : Int) (f : Int) (i : Int) c0 c1 c2 c3 c4 U t0 t1 t2 t3 t4 ch) (t0, t1, t2, t3, t4, ch', us') ∧ ch'.length ≤ 25 ∧ (∀ y ∈ ch', 1 ≤ y) ∧ (ch' = [] ∨ ch'.sum = (c : Int)) ∧ us'.length ≤ 5 ∧ ∀ u ∈ us', 0 ≤ u ∧ u < s := by
  intro d
  induction d with
  | zero =>
    intro i f ch hi hf hl hy hsum h0
    obtain rfl : i = c := by omega
    have ej : ∀ t5 us', Ev (fun k => ostinatoref05_Num_task.l1 k s ((0 : Nat) : Int) c0 c1 c2 c3 c4 U t0 t1 t2 t3 t4 t5 []) (t0, t1, t2, t3, t4, t5, us') → Ev (fun k => ostinatoref05_Num_task.j1 k s c0 c1 c2 c3 c4 U t0 t1 t2 t3 t4 t5) (t0, t1, t2, t3, t4, t5, us') := fun t5 us' h => Ev.step (fun k => by rw [ostinatoref05_Num_task.j1]; rfl) h
    by_cases hf0 : (f : Int) > 0
    · obtain ⟨us', h1, h2, h3⟩ := task_l1 s hs c0 c1 c2 c3 c4 U t0 t1 t2 t3 t4 (ch ++ [wrap64 ((i : Int) - f)]) 5 0 [] rfl rfl (fun u hu => by cases hu)
      refine ⟨_, us', Ev.step (fun k => by rw [ostinatoref05_Num_task.l0]) (Ev.ifn (by omega) (Ev.ifp hf0 (Ev.ifp (by omega) (ej _ _ h1)))), by simp; omega, ?_, .inr ?_, h2, h3⟩
      · intro y hm
        rcases List.mem_append.1 hm with h | h
        · exact hy y h
        · simp at h; subst h; rw [wrap64_id (by omega) (by omega)]; omega
      · rw [List.sum_append, hsum, wrap64_id (by omega) (by omega)]; simp; omega
    · obtain ⟨us', h1, h2, h3⟩ := task_l1 s hs c0 c1 c2 c3 c4 U t0 t1 t2 t3 t4 ch 5 0 [] rfl rfl (fun u hu => by cases hu)
      exact ⟨_, us', Ev.step (fun k => by rw [ostinatoref05_Num_task.l0]) (Ev.ifn (by omega) (Ev.ifn hf0 (ej _ _ h1))), by omega, hy, .inl (h0 (by omega)), h2, h3⟩
  | succ d ih =>
    intro i f ch hi hf hl hy hsum h0
    by_cases hb : bits .and .i64 (shr .i64 c4 (IntKind.u64.wrap (i : Int))) 1 = 1
    · obtain ⟨ch', us', h1, h2⟩ := ih (i + 1) i (ch ++ [wrap64 ((i : Int) - f)]) (by omega) (by omega) (by simp; omega) (fun y hm => by
        rcases List.mem_append.1 hm with h | h
        · exact hy y h
        · simp at h; subst h; rw [wrap64_id (by omega) (by omega)]; omega) (by rw [List.sum_append, hsum, wrap64_id (by omega) (by omega)]; simp; omega) (fun h => by omega)
      refine ⟨ch', us', Ev.step (fun k => by rw [ostinatoref05_Num_task.l0]) (Ev.ifp (by omega) (Ev.ifp (u64_nonneg _) (Ev.ifp hb (Ev.ifp (by omega) ?_)))), h2⟩
      rw [wrap64_succ i (by omega)]
      exact h1
    · obtain ⟨ch', us', h1, h2⟩ := ih (i + 1) f ch (by omega) (by omega) (by omega) hy hsum h0
      refine ⟨ch', us', Ev.step (fun k => by rw [ostinatoref05_Num_task.l0]) (Ev.ifp (by omega) (Ev.ifp (u64_nonneg _) (Ev.ifn hb ?_))), h2⟩
      rw [wrap64_succ i (by omega)]
      exact h1

theorem per_rng (j : Int) (h0 : 0 ≤ j) (h8 : j < 8) : 4 ≤ rd [4, 5, 6, 8, 10, 12, 20, 24] j ∧ rd [4, 5, 6, 8, 10, 12, 20, 24] j ≤ 24 := by
  obtain ⟨n, rfl⟩ : ∃ n : Nat, j = n := ⟨j.toNat, by omega⟩
  have h : n = 0 ∨ n = 1 ∨ n = 2 ∨ n = 3 ∨ n = 4 ∨ n = 5 ∨ n = 6 ∨ n = 7 := by omega
  rcases h with rfl | rfl | rfl | rfl | rfl | rfl | rfl | rfl <;> decide

theorem task_f (nC nD nT nP nK : Int) (U : List Int) (i : Nat) (hi : i ≤ 5) (s : Int) (hs : 1 ≤ s ∧ s ≤ 8) :
    ∃ x : S85, Ev (fun k => ostinatoref05_Num_task.f k nC nD nT nP nK U (i : Int) s) (x.f0, x.f1, x.f2, x.f3, x.f4, x.f5, x.f6) ∧ GoodTask i s x := by
  obtain ⟨j0, j8⟩ := and7_rng nT
  obtain ⟨p4, p24⟩ := per_rng _ j0 j8
  obtain ⟨T, hT⟩ : ∃ T, rd [4, 5, 6, 8, 10, 12, 20, 24] (bits .and .i64 nT 7) = T := ⟨_, rfl⟩
  have hD := rest_f nD T (by omega) (by omega)
  have d0 := Int.emod_nonneg nD (show T ≠ 0 by omega)
  have d1 := Int.emod_lt_of_pos nD (show 0 < T by omega)
  obtain ⟨D, hDv⟩ : ∃ D, nD % T = D := ⟨_, rfl⟩
  rw [hDv] at hD d0 d1
  have hC := rest_f nC (1 + D) (by omega) (by omega)
  have e0 := Int.emod_nonneg nC (show 1 + D ≠ 0 by omega)
  have e1 := Int.emod_lt_of_pos nC (show 0 < 1 + D by omega)
  obtain ⟨C, hCv⟩ : ∃ C, nC % (1 + D) = C := ⟨_, rfl⟩
  rw [hCv] at hC e0 e1
  have hP := rest_f nP 9 (by omega) (by omega)
  have q0 := Int.emod_nonneg nP (show (9 : Int) ≠ 0 by omega)
  have q1 := Int.emod_lt_of_pos nP (show (0 : Int) < 9 by omega)
  obtain ⟨p, hpv⟩ : ∃ p, nP % 9 = p := ⟨_, rfl⟩
  rw [hpv] at hP q0 q1
  obtain ⟨cn, hcn⟩ : ∃ c : Nat, 1 + C = c := ⟨(1 + C).toNat, by omega⟩
  obtain ⟨ch', us', h1, h2, h3, h4, h5, h6⟩ := task_l0 s hs cn (by omega) nC nD nT nP nK U ((i : Int) + 1) (cn : Int) (1 + D) T (10 * (1 + p) + i) (cn - 1) 1 0 [] (by omega) (by decide) (by decide) (fun y hy => by cases hy) rfl (fun _ => rfl)
  refine ⟨⟨(i : Int) + 1, cn, 1 + D, T, 10 * (1 + p) + i, ch', us'⟩, ?_, ⟨rfl, by show (1 : Int) ≤ cn; omega, by show (cn : Int) ≤ 1 + D; omega, by show 1 + D ≤ T; omega, by show 4 ≤ T; omega, by show T ≤ 24; omega, by show 10 ≤ 10 * (1 + p) + (i : Int); omega, by show 10 * (1 + p) + (i : Int) ≤ 90 + i; omega, by show (10 * (1 + p) + (i : Int)) % 10 = i; omega, h2, h3, h4, h5, h6⟩⟩
  show Ev _ ((i : Int) + 1, (cn : Int), 1 + D, T, 10 * (1 + p) + (i : Int), ch', us')
  unfold ostinatoref05_Num_task.f
  rw [hT]
  refine Ev.ifp j0 (Ev.ifp j8 (Ev.bindS hD ?_))
  rw [wrap64_id (show -9223372036854775808 ≤ 1 + D by omega) (by omega)]
  refine Ev.bindS hC (Ev.bindS hP ?_)
  rw [hcn, wrap64_id (show -9223372036854775808 ≤ (cn : Int) by omega) (by omega), wrap64_id (show -9223372036854775808 ≤ (i : Int) + 1 by omega) (by omega), wrap64_id (show -9223372036854775808 ≤ 1 + p by omega) (by omega), wrap64_id (show -9223372036854775808 ≤ 10 * (1 + p) by omega) (by omega), wrap64_id (show -9223372036854775808 ≤ 10 * (1 + p) + (i : Int) by omega) (by omega)]
  exact h1

theorem good_default (s : Int) : GoodTask 0 s (⟨1, 1, 4, 4, 10, [], []⟩ : S85) :=
  ⟨rfl, Int.le_refl _, (by decide : (1 : Int) ≤ 4), Int.le_refl _, Int.le_refl _, (by decide : (4 : Int) ≤ 24), Int.le_refl _, (by decide : (10 : Int) ≤ 90 + ((0 : Nat) : Int)), rfl, Nat.zero_le _, fun y hy => (by cases hy), .inl rfl, Nat.zero_le _, fun y hy => (by cases hy)⟩

theorem made_l0 (a b : Int) (M : List S57) (s : Int) (hs : 1 ≤ s ∧ s ≤ 8) (rl : Int) (hrl : 0 ≤ rl ∧ rl ≤ 3) : ∀ (d i : Nat) (acc : List S85), i + d = 6 → acc.length = i → (∀ (j : Nat) (h : j < acc.length), GoodTask j s acc[j]) →
    ∃ L, Ev (fun k => ostinatoref05_System_Made.l0 k (i : Int) a b M s rl acc) (s, rl, L) ∧ GoodSys s rl L := by
  have hend : ∀ (i : Nat) (acc : List S85), i ≤ 6 → acc.length = i → (∀ (j : Nat) (h : j < acc.length), GoodTask j s acc[j]) → ∃ L, Ev (fun _ => if (acc.length : Int) = 0 then (some (s, rl, (([(⟨1, 1, 4, 4, 10, ([] : List Int), ([] : List Int)⟩ : S85)] : List (S85))))) else (some (s, rl, acc))) (s, rl, L) ∧ GoodSys s rl L := by
    intro i acc hi hl hg
    by_cases h0 : (acc.length : Int) = 0
    · refine ⟨_, Ev.ifp h0 (Ev.now _), ⟨hs.1, hs.2, hrl.1, hrl.2, by decide, by decide, fun j hj => ?_⟩⟩
      obtain rfl : j = 0 := by simpa using hj
      exact good_default s
    · exact ⟨_, Ev.ifn h0 (Ev.now _), ⟨hs.1, hs.2, hrl.1, hrl.2, by omega, by omega, hg⟩⟩
  intro d
  induction d with
  | zero =>
    intro i acc hi hl hg
    obtain ⟨L, h1, h2⟩ := hend i acc (by omega) hl hg
    refine ⟨L, Ev.step (fun k => by rw [ostinatoref05_System_Made.l0]) (Ev.ite_ (fun _ => Ev.ifn (by omega) h1) (fun _ => h1)), h2⟩
  | succ d ih =>
    intro i acc hi hl hg
    by_cases hM : (i : Int) < (M.length : Int)
    · obtain ⟨x, hx, hgx⟩ := task_f ((rd_T57 M i).f0) ((rd_T57 M i).f1) ((rd_T57 M i).f2) ((rd_T57 M i).f3) ((rd_T57 M i).f4) ((rd_T57 M i).f5) i (by omega) s hs
      obtain ⟨L, h1, h2⟩ := ih (i + 1) (acc ++ [x]) (by omega) (by simp [hl]) (fun j hj => by
        by_cases hji : j < acc.length
        · rw [List.getElem_append_left hji]; exact hg j hji
        · have : j = acc.length := by simp at hj; omega
          subst this
          rw [List.getElem_append_right (Nat.le_refl _)]
          simp [hl]
          exact hgx)
      refine ⟨L, Ev.step (fun k => by rw [ostinatoref05_System_Made.l0]) (Ev.ifp hM (Ev.ifp (by omega) (Ev.ifp (by omega) (Ev.bind hx ?_)))), h2⟩
      refine Ev.ifp (by omega) ?_
      rw [wrap64_succ i (by omega)]
      exact h1
    · obtain ⟨L, h1, h2⟩ := hend i acc (by omega) hl hg
      exact ⟨L, Ev.step (fun k => by rw [ostinatoref05_System_Made.l0]) (Ev.ifn hM h1), h2⟩

theorem Made_f (a b : Int) (M : List S57) : ∃ s rl L, Ev (fun k => ostinatoref05_System_Made.f k a b M) (s, rl, L) ∧ GoodSys s rl L := by
  have hr := rest_f a 8 (by decide) (by decide)
  have h0 := Int.emod_nonneg a (show (8 : Int) ≠ 0 by decide)
  have h1 := Int.emod_lt_of_pos a (show (0 : Int) < 8 by decide)
  obtain ⟨v, hv⟩ : ∃ v, a % 8 = v := ⟨_, rfl⟩
  rw [hv] at hr h0 h1
  obtain ⟨r0, r3⟩ := and3_rng b
  obtain ⟨L, h2, h3⟩ := made_l0 a b M (1 + v) (by omega) (bits .and .i64 b 3) (by omega) 6 0 [] rfl rfl (fun j hj => by simp at hj)
  refine ⟨1 + v, _, L, ?_, h3⟩
  unfold ostinatoref05_System_Made.f
  refine Ev.bindS hr ?_
  rw [wrap64_id (by omega) (by omega)]
  exact h2

theorem lawmade_l0 (a b : Int) (l : List S58) (a2 b2 : Int) : ∀ (d i : Nat) (acc : List S57), i + d = 6 → acc.length = i → ∃ s rl L, Ev (fun k => ostinatolaw23_Sys_made.l0 k (i : Int) a b l a2 b2 acc) (s, rl, L) ∧ GoodSys s rl L := by
  intro d
  induction d with
  | zero =>
    intro i acc hi hl
    obtain ⟨s, rl, L, h1, h2⟩ := Made_f a2 b2 acc
    refine ⟨s, rl, L, Ev.step (fun k => by rw [ostinatolaw23_Sys_made.l0]) (Ev.ite_ (fun _ => Ev.ifn (by omega) (Ev.bind h1 (Ev.now _))) (fun _ => Ev.bind h1 (Ev.now _))), h2⟩
  | succ d ih =>
    intro i acc hi hl
    by_cases hM : (i : Int) < (l.length : Int)
    · obtain ⟨s, rl, L, h1, h2⟩ := ih (i + 1) (acc ++ [(⟨(rd_T58 l i).f0, (rd_T58 l i).f1, (rd_T58 l i).f2, (rd_T58 l i).f3, (rd_T58 l i).f4, (rd_T58 l i).f5⟩ : S57)]) (by omega) (by simp [hl])
      refine ⟨s, rl, L, Ev.step (fun k => by rw [ostinatolaw23_Sys_made.l0]) (Ev.ifp hM (Ev.ifp (by omega) (Ev.ifp (by omega) (Ev.ifp (by omega) ?_)))), h2⟩
      rw [wrap64_succ i (by omega)]
      exact h1
    · obtain ⟨s, rl, L, h1, h2⟩ := Made_f a2 b2 acc
      exact ⟨s, rl, L, Ev.step (fun k => by rw [ostinatolaw23_Sys_made.l0]) (Ev.ifn hM (Ev.bind h1 (Ev.now _))), h2⟩

/-- The law's own: a system by numbers. -/
theorem lawmade_f (a b : Int) (l : List S58) : ∃ s rl L, Ev (fun k => ostinatolaw23_Sys_made.f k a b l) (s, rl, L) ∧ GoodSys s rl L := by
  unfold ostinatolaw23_Sys_made.f
  exact lawmade_l0 a b l a b 6 0 [] rfl rfl

end Go.Proofs.YtnejkfccdnadcaaDoor.PRunBack
end

section
namespace Go.Proofs.YtnejkfccdnadcaaDoor.PRunBack
open Go.RowKit Go.Proofs.YtnejkfccdnadcaaDoorW.PrintWords

/-- Requests up to a time, at most n of them. -/
structure Reqs (out : List S46) (at_ : Int) (n : Nat) : Prop where
  all : ∀ x ∈ out, 0 ≤ x.f0 ∧ x.f0 ≤ at_ ∧ 1 ≤ x.f1 ∧ x.f1 ≤ 6 ∧ 1 ≤ x.f2 ∧ x.f2 ≤ 24
  sorted : out.Pairwise (fun x y => x.f0 ≤ y.f0)
  len : out.length ≤ n

theorem Reqs.nil : Reqs [] 0 0 := ⟨fun x hx => (by cases hx), List.Pairwise.nil, Nat.le_refl _⟩
theorem Reqs.later {out : List S46} {a b : Int} {n m : Nat} (h : Reqs out a n) (hab : a ≤ b) (hnm : n ≤ m) : Reqs out b m := ⟨fun x hx => by have := h.all x hx; omega, h.sorted, Nat.le_trans h.len hnm⟩
theorem Reqs.snoc {out : List S46} {a : Int} {n : Nat} (h : Reqs out a n) (t d : Int) (h0 : 0 ≤ a) (ht : 1 ≤ t ∧ t ≤ 6) (hd : 1 ≤ d ∧ d ≤ 24) : Reqs (out ++ [⟨a, t, d⟩]) a (n + 1) := by
  refine ⟨fun x hx => ?_, ?_, by have := h.len; simp; omega⟩
  · rcases List.mem_append.1 hx with hx | hx
    · exact h.all x hx
    · simp at hx; subst hx; exact ⟨h0, Int.le_refl _, ht.1, ht.2, hd.1, hd.2⟩
  · rw [List.pairwise_append]
    refine ⟨h.sorted, List.pairwise_singleton _ _, fun x hx y hy => ?_⟩
    simp at hy; subst hy
    exact (h.all x hx).2.1

theorem rdT_cast (L : List S85) (i : Nat) (h : i < L.length) : rd_T85 L (i : Int) = L[i] := by simp [rd_T85, List.getD_eq_getElem?_getD, List.getElem?_eq_getElem h]

theorem demand_f {s rl : Int} {L : List S85} (hg : GoodSys s rl L) (W : List Int) (tk : Int) (k : Nat) (hk : k < L.length) : ∃ d, ostinatoref18_Act_Demand.f W tk s rl L (k : Int) = some d ∧ (d > 0 → 1 ≤ d ∧ d ≤ L[k].f1) := by
  have ht := hg.task k hk
  unfold ostinatoref18_Act_Demand.f
  by_cases h1 : (k : Int) ≥ (W.length : Int)
  · exact ⟨0, by rw [if_pos h1], fun h => by omega⟩
  · rw [if_neg h1, if_pos (by omega), if_pos (by omega)]
    by_cases h2 : bits .and .i64 (rd W k) 15 = 0
    · exact ⟨0, by rw [if_pos h2], fun h => by omega⟩
    · obtain ⟨a0, a1⟩ := and15_rng (rd W k)
      obtain ⟨v, hv⟩ : ∃ v, bits .and .i64 (rd W k) 15 = v := ⟨_, rfl⟩
      rw [hv] at h2 a0 a1
      have c1 := ht.c1
      have m0 := Int.emod_nonneg (v - 1) (show L[k].f1 ≠ 0 by omega)
      have m1 := Int.emod_lt_of_pos (v - 1) (show 0 < L[k].f1 by omega)
      have c24 : L[k].f1 ≤ 24 := by have := ht.cd; have := ht.dt; have := ht.t24; omega
      refine ⟨1 + (v - 1) % L[k].f1, ?_, fun _ => ⟨by omega, by omega⟩⟩
      rw [hv, if_neg h2, if_pos (by omega), rdT_cast L k hk, if_neg (by omega), wrap64_id (x := v - 1) (by omega) (by omega), Int.tmod_eq_emod_of_nonneg (by omega), wrap64_id (x := 1 + (v - 1) % L[k].f1) (by omega) (by omega)]

section
variable {s rl : Int} {L : List S85}

theorem refscript_l1 (hg : GoodSys s rl L) (acts : List S50) (most : Int) (i : Nat) (hi : i < acts.length) (a : Int) (ha : 0 ≤ a) (R : List S46 → Prop) (n : Nat) (hn : n ≤ 100000)
    (hc : ∀ out, Reqs out a (n + 6) → ∃ r, Ev (fun k => ostinatoref20_Script.l0 k acts most out (wrap64 ((wrap64 (a + 1)) + (Go.bits .and .i64 ((rd_T50 acts i).f1) 7))) (wrap64 ((i : Int) + 1)) s rl L) r ∧ R r) :
    ∀ (d k : Nat) (out : List S46), k + d = L.length → Reqs out a (n + k) → ∃ r, Ev (fun q => ostinatoref20_Script.l1 q acts most out a (i : Int) (k : Int) s rl L) r ∧ R r := by
  intro d
  induction d with
  | zero =>
    intro k out hk ho
    obtain ⟨r, h1, h2⟩ := hc out (ho.later (Int.le_refl _) (by have := hg.l6; omega))
    exact ⟨r, Ev.step (fun q => by rw [ostinatoref20_Script.l1]) (Ev.ifn (by omega) (Ev.ifp (by omega) (Ev.ifp (by omega) h1))), h2⟩
  | succ d ih =>
    intro k out hk ho
    have hkl : k < L.length := by omega
    obtain ⟨dm, e1, e2⟩ := demand_f hg (rd_T50 acts i).f0 (rd_T50 acts i).f1 k hkl
    have ht := hg.task k hkl
    have hl6 := hg.l6
    have hlen := ho.len
    by_cases hd : dm > 0
    · obtain ⟨d1, d2⟩ := e2 hd
      have c24 : L[k].f1 ≤ 24 := by have := ht.cd; have := ht.dt; have := ht.t24; omega
      have hid := ht.id
      obtain ⟨r, h1, h2⟩ := ih (k + 1) (out ++ [⟨a, L[k].f0, dm⟩]) (by omega) (ho.snoc _ _ ha (by omega) (by omega))
      refine ⟨r, ?_, h2⟩
      refine Ev.step (fun q => by rw [ostinatoref20_Script.l1]) (Ev.ifp (by omega) (Ev.ifp (by omega) (Ev.ifp (by omega) (Ev.bindS e1 ?_))))
      refine Ev.ifp hd (Ev.ifp (by omega) (Ev.ifp (by omega) ?_))
      rw [wrap64_succ k (by omega), rdT_cast L k hkl]
      exact h1
    · obtain ⟨r, h1, h2⟩ := ih (k + 1) out (by omega) (ho.later (Int.le_refl _) (by omega))
      refine ⟨r, ?_, h2⟩
      refine Ev.step (fun q => by rw [ostinatoref20_Script.l1]) (Ev.ifp (by omega) (Ev.ifp (by omega) (Ev.ifp (by omega) (Ev.bindS e1 ?_))))
      refine Ev.ifn hd ?_
      rw [wrap64_succ k (by omega)]
      exact h1

theorem refscript_l0 (hg : GoodSys s rl L) (acts : List S50) (m : Nat) (hm : m ≤ 1000) : ∀ (d i : Nat) (out : List S46) (a : Int), i + d = m → 0 ≤ a → a ≤ 8 * i → Reqs out a (6 * i) →
    ∃ r, Ev (fun k => ostinatoref20_Script.l0 k acts (m : Int) out a (i : Int) s rl L) r ∧ Reqs r (8 * m) (6 * m) := by
  intro d
  induction d with
  | zero =>
    intro i out a hi h0 h8 ho
    obtain rfl : i = m := by omega
    refine ⟨out, Ev.step (fun k => by rw [ostinatoref20_Script.l0]) (Ev.ite_ (fun _ => ?_) (fun _ => ?_)), ho.later h8 (Nat.le_refl _)⟩
    · exact Ev.step (fun k => by rw [ostinatoref20_Script.j1]) (Ev.ifn (by simp) (Ev.now _))
    · exact Ev.step (fun k => by rw [ostinatoref20_Script.j1]) (Ev.ifn (by simp) (Ev.now _))
  | succ d ih =>
    intro i out a hi h0 h8 ho
    by_cases hA : (i : Int) < (acts.length : Int)
    · obtain ⟨t0, t8⟩ := and7_rng (rd_T50 acts i).f1
      obtain ⟨r, h1, h2⟩ := refscript_l1 hg acts (m : Int) i (by omega) a h0 (fun r => Reqs r (8 * m) (6 * m)) (6 * i) (by omega) (fun out' ho' => by
        have := ih (i + 1) out' (a + 1 + bits .and .i64 (rd_T50 acts i).f1 7) (by omega) (by omega) (by omega) (ho'.later (by omega) (by omega))
        rw [wrap64_succ i (by omega), wrap64_id (x := a + 1) (by omega) (by omega), wrap64_id (x := a + 1 + bits .and .i64 (rd_T50 acts i).f1 7) (by omega) (by omega)]
        exact this) L.length 0 out (by omega) ho
      refine ⟨r, ?_, h2⟩
      refine Ev.step (fun k => by rw [ostinatoref20_Script.l0]) (Ev.ifp hA ?_)
      exact Ev.step (fun k => by rw [ostinatoref20_Script.j1]; rfl) (Ev.ifp (decide_eq_true (by omega)) h1)
    · refine ⟨out, Ev.step (fun k => by rw [ostinatoref20_Script.l0]) (Ev.ifn hA ?_), ho.later (by omega) (by omega)⟩
      exact Ev.step (fun k => by rw [ostinatoref20_Script.j1]) (Ev.ifn (by simp) (Ev.now _))

theorem refscript_f (hg : GoodSys s rl L) (acts : List S50) (m : Nat) (hm : m ≤ 1000) : ∃ r, Ev (fun k => ostinatoref20_Script.f k s rl L acts (m : Int)) r ∧ Reqs r (8 * m) (6 * m) := by
  unfold ostinatoref20_Script.f
  exact refscript_l0 hg acts m hm m 0 [] 0 (by omega) (by decide) (by omega) Reqs.nil

theorem lawscript_l0 (hg : GoodSys s rl L) (l : List S51) (m : Nat) (hm : m ≤ 1000) : ∀ (d i : Nat) (acc : List S50), i + d = m → acc.length = i →
    ∃ r, Ev (fun k => ostinatolaw23_script.l0 k l (m : Int) acc (i : Int) s rl L) r ∧ Reqs r (8 * m) (6 * m) := by
  intro d
  induction d with
  | zero =>
    intro i acc hi hl
    obtain ⟨r, h1, h2⟩ := refscript_f hg acc m hm
    exact ⟨r, Ev.step (fun k => by rw [ostinatolaw23_script.l0]) (Ev.ite_ (fun _ => Ev.ifn (by omega) (Ev.bind h1 (Ev.now _))) (fun _ => Ev.bind h1 (Ev.now _))), h2⟩
  | succ d ih =>
    intro i acc hi hl
    by_cases hM : (i : Int) < (l.length : Int)
    · obtain ⟨r, h1, h2⟩ := ih (i + 1) (acc ++ [⟨(rd_T51 l i).f0, (rd_T51 l i).f1⟩]) (by omega) (by simp [hl])
      refine ⟨r, ?_, h2⟩
      refine Ev.step (fun k => by rw [ostinatolaw23_script.l0]) (Ev.ifp hM (Ev.ifp (by omega) (Ev.ifp (by omega) (Ev.ifp (by omega) ?_))))
      rw [wrap64_succ i (by omega)]
      exact h1
    · obtain ⟨r, h1, h2⟩ := refscript_f hg acc m hm
      exact ⟨r, Ev.step (fun k => by rw [ostinatolaw23_script.l0]) (Ev.ifn hM (Ev.bind h1 (Ev.now _))), h2⟩

/-- The law's own: requests that acts ask for. -/
theorem lawscript_f (hg : GoodSys s rl L) (l : List S51) (m : Nat) (hm : m ≤ 1000) : ∃ r, Ev (fun k => ostinatolaw23_script.f k s rl L l (m : Int)) r ∧ Reqs r (8 * m) (6 * m) := by
  unfold ostinatolaw23_script.f
  exact lawscript_l0 hg l m hm m 0 [] (by omega) rfl
end

end Go.Proofs.YtnejkfccdnadcaaDoor.PRunBack
end

section
namespace Go.Proofs.YtnejkfccdnadcaaDoor
open Go.RowKit Go.Shelf Go.Lib

theorem digit_plain {c : UInt8} (h : isD c) : ¬ c = 10 ∧ (c == 35) = false ∧ ws c = false := by
  unfold isD at h
  refine ⟨?_, ?_, ?_⟩
  · rintro rfl; revert h; decide
  · rw [beq_eq_false_iff_ne]; rintro rfl; revert h; decide
  · have h1 : c ≠ 32 := by rintro rfl; revert h; decide
    have h2 : c ≠ 9 := by rintro rfl; revert h; decide
    simp [ws, h1, h2]

theorem scan_digits (q : Nat) : ∀ (d : List UInt8) (p : Nat) (t : List UInt8) (i : Nat) (l : List UInt8), (∀ c ∈ d, isD c) → scan q false (some (p, t)) i (d ++ l) = scan q false (some (p, t ++ d)) (i + d.length) l := by
  intro d
  induction d with
  | nil => intro p t i l _; simp
  | cons c d ih =>
    intro p t i l h
    obtain ⟨h1, h2, h3⟩ := digit_plain (h c List.mem_cons_self)
    rw [List.cons_append, scan, if_neg h1, if_neg (by simp [h2]), if_neg (by rw [h3]; simp)]
    show scan q false (some (p, t ++ [c])) (i + 1) (d ++ l) = _
    rw [ih _ _ _ _ (fun c hc => h c (List.mem_cons_of_mem _ hc))]
    simp [List.append_assoc, Nat.add_assoc, Nat.add_comm 1]

theorem scan_number (q : Nat) (d : List UInt8) (i : Nat) (l : List UInt8) (hd : d ≠ []) (h : ∀ c ∈ d, isD c) : scan q false none i (d ++ l) = scan q false (some (i, d)) (i + d.length) l := by
  cases d with
  | nil => exact absurd rfl hd
  | cons c d =>
    obtain ⟨h1, h2, h3⟩ := digit_plain (h c List.mem_cons_self)
    rw [List.cons_append, scan, if_neg h1, if_neg (by simp [h2]), if_neg (by rw [h3]; simp)]
    show scan q false (some (i, [c])) (i + 1) (d ++ l) = _
    rw [scan_digits q d _ _ _ _ (fun c hc => h c (List.mem_cons_of_mem _ hc))]
    simp [Nat.add_assoc, Nat.add_comm 1]

theorem scan_blank (q p i : Nat) (t l : List UInt8) : scan q false (some (p, t)) i (32 :: l) = ⟨p, q, ⟨t.toArray⟩⟩ :: scan q false none (i + 1) l := by
  rw [scan, if_neg (by decide), if_neg (by decide), if_pos (by decide)]
  rfl

theorem scan_end (q p i : Nat) (t l : List UInt8) : scan q false (some (p, t)) i (10 :: l) = ⟨p, q, ⟨t.toArray⟩⟩ :: scan (q + 1) false none (i + 1) l := by
  rw [scan, if_pos rfl]
  rfl

theorem itoa_digits (n : Int) (h : 0 ≤ n) : itoa n ≠ [] ∧ ∀ c ∈ itoa n, isD c := by
  have e : itoa n = decDigits n.toNat := by unfold itoa; rw [if_neg (by omega)]
  rw [e]
  exact ⟨(dec_num _).2.2.1, (dec_num _).2.1⟩

/-- A request's words, in line q, from place i on. -/
def lineG (q i : Nat) (x : Ak) : List Wd :=
  [⟨i, q, ⟨(itoa x.a).toArray⟩⟩, ⟨((i + (itoa x.a).length + 1 : Nat) : Int), q, ⟨(itoa x.t).toArray⟩⟩, ⟨((i + (itoa x.a).length + 1 + (itoa x.t).length + 1 : Nat) : Int), q, ⟨(itoa x.d).toArray⟩⟩]

def lineN (i : Nat) (x : Ak) : Nat := i + (itoa x.a).length + 1 + (itoa x.t).length + 1 + (itoa x.d).length + 1

theorem scan_req (q i : Nat) (x : Ak) (l : List UInt8) (ha : 0 ≤ x.a) (ht : 0 ≤ x.t) (hd : 0 ≤ x.d) : scan q false none i (lineT x ++ l) = lineG q i x ++ scan (q + 1) false none (lineN i x) l := by
  obtain ⟨a1, a2⟩ := itoa_digits x.a ha
  obtain ⟨t1, t2⟩ := itoa_digits x.t ht
  obtain ⟨d1, d2⟩ := itoa_digits x.d hd
  have e : lineT x ++ l = itoa x.a ++ (32 :: (itoa x.t ++ (32 :: (itoa x.d ++ (10 :: l))))) := by simp [lineT]
  rw [e, scan_number q _ _ _ a1 a2, scan_blank, scan_number q _ _ _ t1 t2, scan_blank, scan_number q _ _ _ d1 d2, scan_end]
  rfl

/-- The lines' words. -/
def linesG : Nat → Nat → List Ak → List (List Wd)
  | _, _, [] => []
  | q, i, x :: r => lineG q i x :: linesG (q + 1) (lineN i x) r

theorem lns_lines : ∀ (L : List Ak) (acc : List (List Wd)) (q i : Nat), (∀ x ∈ L, 0 ≤ x.a ∧ 0 ≤ x.t ∧ 0 ≤ x.d) → (∀ g, acc.getLast? = some g → ∀ y, g.getLast? = some y → y.q < q) →
    (scan q false none i (L.flatMap lineT)).foldl lnStep acc = acc ++ linesG q i L := by
  intro L
  induction L with
  | nil => intro acc q i _ _; simp [scan, emit, linesG]
  | cons x r ih =>
    intro acc q i h hacc
    obtain ⟨ha, ht, hd⟩ := h x List.mem_cons_self
    rw [List.flatMap_cons, scan_req q i x _ ha ht hd, List.foldl_append]
    have e : (lineG q i x).foldl lnStep acc = acc ++ [lineG q i x] := by
      unfold lineG
      rw [List.foldl_cons]
      have e1 : lnStep acc ⟨i, q, ⟨(itoa x.a).toArray⟩⟩ = acc ++ [[⟨i, q, ⟨(itoa x.a).toArray⟩⟩]] := by
        unfold lnStep
        split
        · rename_i hn
          rw [List.getLast?_eq_none_iff] at hn
          rw [hn]
          rfl
        · rename_i g hg
          rw [if_neg]
          intro hq
          obtain ⟨y, hy, hyq⟩ := Option.map_eq_some_iff.1 hq
          have := hacc g hg y hy
          simp at hyq
          omega
      rw [e1, List.foldl_cons]
      simp [lnStep]
    rw [e, ih _ _ _ (fun y hy => h y (List.mem_cons_of_mem _ hy)) (fun g hg y hy => by
      simp at hg
      subst hg
      simp [lineG] at hy
      subst hy
      simp
      omega)]
    simp [linesG]

theorem lineV_of (q i : Nat) (x : Ak) (h : rightV x.a x.t x.d = true) : lineV (lineG q i x) = some x := by
  rw [rightV_iff] at h
  obtain ⟨⟨a1, a2⟩, ⟨t1, t2⟩, d1, d2⟩ := h
  obtain ⟨v1, o1⟩ := itoa_num x.a (by omega) 2147483648
  obtain ⟨v2, o2⟩ := itoa_num x.t (by omega) 99
  obtain ⟨v3, o3⟩ := itoa_num x.d (by omega) 1073741824
  unfold lineG
  rw [lineV_three]
  simp only []
  rw [v1, v2, v3, if_pos ⟨o1.2 a2, o2.2 t2, o3.2 d2, by omega, by omega⟩]
  obtain ⟨a, t, d⟩ := x
  simp only at *
  congr 2 <;> omega

theorem pv_lines : ∀ (L : List Ak) (acc : List Ak) (q i : Nat), L.all (fun x => rightV x.a x.t x.d) = true → sortedV (lastA acc) L = true → pv acc (linesG q i L) = (acc ++ L, none) := by
  intro L
  induction L with
  | nil => intro acc q i _ _; simp [linesG, pv]
  | cons x r ih =>
    intro acc q i hr hs
    simp only [List.all_cons, Bool.and_eq_true] at hr
    simp only [sortedV, Bool.and_eq_true, decide_eq_true_eq] at hs
    rw [linesG, pv_on (lineV_of q i x hr.1) (by omega), ih _ _ _ hr.2 (by rw [lastA_snoc]; exact hs.2)]
    simp

/-- A SCRIPT THAT IS RIGHT IS READ FROM ITS TEXT, THE SAME. -/
theorem read_back (L : List Ak) (hs : sortedV 0 L = true) (hr : L.all (fun x => rightV x.a x.t x.d) = true) : pv [] (lns (textW ⟨(sT [] 0 L).toArray⟩)) = (L, none) := by
  have e : sT [] 0 L = L.flatMap lineT := by rw [sT_eq, if_pos ⟨hs, hr⟩]; rfl
  have hb : ∀ x ∈ L, 0 ≤ x.a ∧ 0 ≤ x.t ∧ 0 ≤ x.d := fun x hx => by
    have := (rightV_iff _ _ _).1 (List.all_eq_true.1 hr x hx)
    omega
  rw [e, textW_scan]
  unfold lns
  simp only []
  rw [lns_lines L [] 1 0 hb (fun g hg => by simp at hg), List.nil_append, pv_lines L [] 1 0 hr hs]
  rfl

end Go.Proofs.YtnejkfccdnadcaaDoor
end

section
namespace Go.Proofs.YtnejkfccdnadcaaDoor.PRunBack
set_option linter.unusedVariables false
open Go.RowKit Go.Proofs.YtnejkfccdnadcaaDoorW.PrintWords

theorem same_f (L : List S46) (hl : L.length ≤ 100000) : Ev (fun k => ostinatoref23_Same.f k L L) true := by
  unfold ostinatoref23_Same.f
  refine Ev.ifp rfl ?_
  have key : ∀ (d i : Nat), i + d = L.length → Ev (fun k => ostinatoref23_Same.l0 k L L (i : Int)) true := by
    intro d
    induction d with
    | zero =>
      intro i hi
      exact Ev.step (fun k => by rw [ostinatoref23_Same.l0]) (Ev.ifn (by omega) (Ev.now _))
    | succ d ih =>
      intro i hi
      refine Ev.step (fun k => by rw [ostinatoref23_Same.l0]) (Ev.ifp (by omega) (Ev.ifp (by omega) (Ev.ifp (by omega) (Ev.ifn (by simp) ?_))))
      rw [wrap64_succ i (by omega)]
      exact ih (i + 1) (by omega)
  exact key L.length 0 (by omega)

theorem sortedV_of : ∀ (L : List S46) (last : Int), (∀ x ∈ L, last ≤ x.f0) → L.Pairwise (fun x y => x.f0 ≤ y.f0) → sortedV last (L.map akOf) = true := by
  intro L
  induction L with
  | nil => intro last _ _; rfl
  | cons x r ih =>
    intro last h hp
    obtain ⟨h1, h2⟩ := List.pairwise_cons.1 hp
    simp only [List.map_cons, sortedV, Bool.and_eq_true, decide_eq_true_eq]
    exact ⟨h x List.mem_cons_self, ih _ (fun y hy => h1 y hy) h2⟩

theorem lineT_len (x : Ak) (ha : -9223372036854775808 ≤ x.a ∧ x.a ≤ 9223372036854775807) (ht : -9223372036854775808 ≤ x.t ∧ x.t ≤ 9223372036854775807) (hd : -9223372036854775808 ≤ x.d ∧ x.d ≤ 9223372036854775807) : (lineT x).length ≤ 66 := by
  have h1 := itoa_len x.a ha.1 ha.2
  have h2 := itoa_len x.t ht.1 ht.2
  have h3 := itoa_len x.d hd.1 hd.2
  simp only [lineT, List.length_append, List.length_singleton]
  omega

theorem flat_len : ∀ L : List Ak, (∀ x ∈ L, (lineT x).length ≤ 66) → (L.flatMap lineT).length ≤ 66 * L.length := by
  intro L
  induction L with
  | nil => intro _; simp
  | cons x r ih =>
    intro h
    have h1 := h x List.mem_cons_self
    have h2 := ih (fun y hy => h y (List.mem_cons_of_mem _ hy))
    simp only [List.flatMap_cons, List.length_append, List.length_cons]
    omega

theorem akTo_akOf (L : List S46) : (L.map akOf).map akTo = L := by
  rw [List.map_map]
  exact List.map_id' L

theorem pure_RunBack (x0 : S24) (l1 : (List S51)) (ok0_ : ok24 x0) (ok1_ : (l1.length ≤ maxLen ∧ ∀ y ∈ l1, ok51 y)) : ∃ k, ostinatolaw23_RunBack.f k x0.f0 x0.f1 x0.f2 l1 = some true := by
  obtain ⟨s, rl, L, hm, hg⟩ := lawmade_f x0.f0 x0.f1 x0.f2
  obtain ⟨r, hs, hr⟩ := lawscript_f hg l1 30 (by decide)
  have hlen := hr.len
  have hall : ∀ x ∈ r.map akOf, (-9223372036854775808 ≤ x.a ∧ x.a ≤ 9223372036854775807) ∧ (-9223372036854775808 ≤ x.t ∧ x.t ≤ 9223372036854775807) ∧ (-9223372036854775808 ≤ x.d ∧ x.d ≤ 9223372036854775807) := fun x hx => by
    obtain ⟨y, hy, rfl⟩ := List.mem_map.1 hx
    have := hr.all y hy
    simp only [akOf]
    omega
  have hso : sortedV 0 (r.map akOf) = true := sortedV_of r 0 (fun x hx => (hr.all x hx).1) hr.sorted
  have hri : (r.map akOf).all (fun x => rightV x.a x.t x.d) = true := List.all_eq_true.2 (fun x hx => by
    obtain ⟨y, hy, rfl⟩ := List.mem_map.1 hx
    have := hr.all y hy
    rw [rightV_iff]
    simp only [akOf]
    omega)
  have hb := read_back (r.map akOf) hso hri
  have he : sT [] 0 (r.map akOf) = (r.map akOf).flatMap lineT := by rw [sT_eq, if_pos ⟨hso, hri⟩]; rfl
  have hfl := flat_len (r.map akOf) (fun x hx => lineT_len x (hall x hx).1 (hall x hx).2.1 (hall x hx).2.2)
  rw [List.length_map] at hfl
  have hsz : (⟨(sT [] 0 (r.map akOf)).toArray⟩ : ByteArray).size ≤ 65536 := by
    show (sT [] 0 (r.map akOf)).toArray.size ≤ 65536
    rw [he, List.size_toArray]
    omega
  have h1 : run_Script.f r = some ⟨(sT [] 0 (r.map akOf)).toArray⟩ := by
    unfold run_Script.f
    rw [if_pos (by omega), if_pos (List.all_eq_true.2 (fun x hx => by
      have := hr.all x hx
      simp only [Bool.and_eq_true, i64B_iff]
      omega))]
  have h2 : run_ParseScript.f ⟨(sT [] 0 (r.map akOf)).toArray⟩ = some (r, ((⟨(sT [] 0 (r.map akOf)).toArray⟩ : ByteArray).size : Int), true) := by
    unfold run_ParseScript.f
    rw [if_pos hsz, hb]
    show some ((r.map akOf).map akTo, (none : Option Int).getD _, (none : Option Int).isNone) = _
    rw [akTo_akOf]
    rfl
  have h3 : ((⟨(sT [] 0 (r.map akOf)).toArray⟩ : ByteArray).toList != ([] : List UInt8)) = decide ((r.length : Int) > 0) := by
    rw [Lib.toList_data, he]
    cases r with
    | nil => rfl
    | cons x t =>
      have : ((List.map akOf (x :: t)).flatMap lineT) ≠ [] := by simp [lineT]
      rw [show decide (((x :: t).length : Int) > 0) = true from decide_eq_true (by simp)]
      simpa using this
  refine Ev.rounds (r := true) ?_
  unfold ostinatolaw23_RunBack.f
  refine Ev.bindS (show ostinatolaw23_awake.f = some true from rfl) ?_
  refine Ev.bind hm ?_
  refine Ev.bind hs ?_
  refine Ev.bindS h1 ?_
  refine Ev.bindS h2 ?_
  refine Ev.bind (same_f r (by omega)) ?_
  refine Ev.ifp rfl (Ev.ifp rfl (Ev.ifp rfl (Ev.ifp rfl ?_)))
  rw [h3, beq_self_eq_true]
  exact Ev.now _

end Go.Proofs.YtnejkfccdnadcaaDoor.PRunBack
end

section
namespace Go.Proofs.YtnejkfccdnadcaaDoor
open Go.ChangeShapes Go.WideShapes Go.ChangeAt Go.RowKit

theorem laid_met (os : Os) (args : Array Value) : laidMetH Tryd.prog Rows.runReadsRow.laid ((World.laidAll Tryd.prog os Rows.runReadsRow.laid).forCall (fun _ _ => 0) ⟨#[], args, []⟩).memory := by
  rw [MakeChecks.laidMetH_plain _ _ _ (by kernel_rfl)]
  exact laidMet_laidAll _ (by kernel_rfl) (by kernel_rfl)

theorem handed_laid {H : Type} {enc : TypeId × Value → H} {C : Checked} {os : Os} {f : FuncId} {fn : Func} {s : ChangeSpec} {l : List (String × DataW Unit)}
    (own : ownKnob C.prog.godebug = none) (started : os.Started) (noInit : C.prog.inits.idxOf? f = none) (hfn : C.prog.funcs[f]? = some fn)
    (witness : ∃ (w : World) (tape : Tape) (i : Input), w.os = os ∧ (w.forCall tape i).Shaped C.prog ∧ i.vars = [] ∧ Input.okWide C.prog (w.forCall tape i) .any w.heap.size f i ∧
      ((s.pre enc C.prog fn [] false (w.forCall tape i).memory i.args ∧ laidMetH C.prog l (w.forCall tape i).memory) ∧ sizedMet enc C.prog fn (OpenSpec.ofChange s) false (w.forCall tape i).memory i.args) ∧ ({} : Assume).holds C.prog (lone (Frame.enter C.prog f i.args .normal) [] (w.forCall tape i)))
    (contract : ∀ (W : World) (base : Nat) (args : Array Value) (ds gs : List (DataW H)) (before : List MemPlace),
      (∀ (j : Nat) t v, fn.params[j]? = some t → args[j]? = some v → Value.okWide C.prog W .any base t v) →
      DataW.Whole enc C.prog fn.params.toList s.vars false W args.toList ds gs before → laidMetH C.prog l W → W.ShapedOpen C.prog →
      Calls C.prog f args W fun e W' => ∃ v, e = .returned v ∧ s.post enc C.prog fn false true false false W args v W') :
    ReturnsInHanded {} C os f .any (fun w args => (s.pre enc C.prog fn [] false w args ∧ laidMetH C.prog l w) ∧ sizedMet enc C.prog fn (OpenSpec.ofChange s) false w args) (s.post enc C.prog fn false true false false) := by
  refine returnsInHanded_of_calls own started noInit witness ?_
  intro w tape i _ hsh _ hok hpre _
  obtain ⟨_, _, _, fn', hfn', _, _, _, _, hval⟩ := hok
  obtain rfl : fn' = fn := Option.some.inj (hfn'.symm.trans hfn)
  obtain ⟨⟨⟨ds, gs, before, hw, _⟩, hl⟩, _⟩ := hpre
  have hw' := DataW.Whole.of_heap (w' := w.forCall tape i) (by rfl) hw
  refine (contract (w.forCall tape i) w.heap.size i.args ds gs before hval hw' (laidMetH.of_heap (by rfl) hl) hsh).mono fun e W' ⟨v, he, hp⟩ => ?_
  subst he
  exact ChangeSpec.post_blind hp

end Go.Proofs.YtnejkfccdnadcaaDoor
end

section
namespace Go.Proofs.YtnejkfccdnadcaaDoor
open Go.RowKit

theorem tab_of_laid {W : World} (h : laidMetH Tryd.prog Rows.runReadsRow.laid W) : Lib.TabIs Tryd.prog W "internal/strconv.uint64pow10" .u64 Lib.pow10Tab := by
  rw [MakeChecks.laidMetH_plain _ _ _ (by kernel_rfl)] at h
  have hm : ("internal/strconv.uint64pow10", Rows.laid_internal_strconv_uint64pow10) ∈ Rows.runReadsRow.laid := by
    unfold Rows.runReadsRow
    simp
  obtain ⟨g, t, cs, fuel, p, hg, ht, hv, hd⟩ := Lib.laidMet.reads h hm
  have hg0 : Tryd.prog.globalNamed "internal/strconv.uint64pow10" = some 0 := by kernel_rfl
  obtain rfl := Option.some.inj (hg0.symm.trans hg)
  have e : (Rows.laid_internal_strconv_uint64pow10 : DataW Unit) = Lib.tabData .u64 Lib.pow10Tab := by kernel_rfl
  rw [e] at hd
  have hty : (Tryd.prog.globals[0]?).map (·.type) = some 139 := by kernel_rfl
  obtain rfl := Option.some.inj (hty.symm.trans ht)
  unfold Lib.TabIs
  rw [hv, ← Lib.cells_of_tab Tryd.underlying139 Tryd.underlying100 (by kernel_rfl) (by kernel_rfl) hd]

end Go.Proofs.YtnejkfccdnadcaaDoor
end
