/- Texts of this claim, one behind the other: PRunBack3, PRunBack4. -/
import Derived.Test.YtnejkfccdnadcaaDoorZRunBack2

section
namespace Go.Proofs.YtnejkfccdnadcaaDoor.PRunBack
open Go.RowKit Go.Proofs.YtnejkfccdnadcaaDoorW.PrintWords Go.Proofs.YtnejkfccdnadcaaDoorW.PrintLast Go.Proofs.YtnejkfccdnadcaaDoorW.PrintMore
attribute [local go_sem] max2_int min2_int max_two min_two max_three min_three max_four min_four   -- for this text's walks alone
set_option linter.unusedVariables false
set_option linter.unusedSimpArgs false
noncomputable section

mutual
def ostinatoref20_Script.l0 : Nat → List (S50) → Int → List (S46) → Int → Int → Int → Int → List (S85) → Option ((List (S46)))
  | 0, _, _, _, _, _, _, _, _ => none
  | k + 1, x1, x2, x7, x8, x9, x117000, x117001, x117002 => if x9 < (x1.length : Int) then (ostinatoref20_Script.j1 k x1 x2 x7 x8 x9 (decide (x9 < x2)) x117000 x117001 x117002) else (ostinatoref20_Script.j1 k x1 x2 x7 x8 x9 false x117000 x117001 x117002)
def ostinatoref20_Script.j1 : Nat → List (S50) → Int → List (S46) → Int → Int → Bool → Int → Int → List (S85) → Option ((List (S46)))
  | 0, _, _, _, _, _, _, _, _, _ => none
  | k + 1, x1, x2, x7, x8, x9, x20, x117000, x117001, x117002 => if x20 = true then (ostinatoref20_Script.l1 k x1 x2 x7 x8 x9 0 x117000 x117001 x117002) else (some x7)
def ostinatoref20_Script.l1 : Nat → List (S50) → Int → List (S46) → Int → Int → Int → Int → Int → List (S85) → Option ((List (S46)))
  | 0, _, _, _, _, _, _, _, _, _ => none
  | k + 1, x1, x2, x7, x8, x9, x10, x117000, x117001, x117002 => if x10 < (x117002.length : Int) then (if 0 ≤ x9 then (if x9 < (x1.length : Int) then ((ostinatoref18_Act_Demand.f ((rd_T50 x1 x9).f0) ((rd_T50 x1 x9).f1) x117000 x117001 x117002 x10).bind fun t118 => (if t118 > 0 then (if 0 ≤ x10 then (if x7.length < 5864062014805 then (ostinatoref20_Script.l1 k x1 x2 (x7 ++ [(⟨x8, (rd_T85 x117002 x10).f0, t118⟩ : S46)]) x8 x9 (wrap64 (x10 + 1)) x117000 x117001 x117002) else (none)) else (none)) else (ostinatoref20_Script.l1 k x1 x2 x7 x8 x9 (wrap64 (x10 + 1)) x117000 x117001 x117002))) else (none)) else (none)) else (if 0 ≤ x9 then (if x9 < (x1.length : Int) then (ostinatoref20_Script.l0 k x1 x2 x7 (wrap64 ((wrap64 (x8 + 1)) + (Go.bits .and .i64 ((rd_T50 x1 x9).f1) 7))) (wrap64 (x9 + 1)) x117000 x117001 x117002) else (none)) else (none))
end
def ostinatoref20_Script.f (k : Nat) (a0_0 : Int) (a0_1 : Int) (l0_2 : List (S85)) (l1 : List (S50)) (a2 : Int) : Option ((List (S46))) := ostinatoref20_Script.l0 k l1 a2 ([] : List (S46)) 0 0 a0_0 a0_1 l0_2
def ostinatoref20_Script.T9 : Bool × List (List Nat × List Nat) := (true, [([], []), ([], []), ([0, 1], [0, 1]), ([2], [2]), ([], []), ([], []), ([3, 4, 5], [3, 4, 5]), ([6, 6, 0, 1, 2, 3, 4, 5, 6], [6])])
def ostinatoref20_Script.B9 : List Nat := [0, 0, 3, 7, 0, 0, 63, 127]
theorem ostinatoref20_Script.tab9 : rtab .any (opsOf Tryd.f15 9) = ostinatoref20_Script.T9 := by kernel_rfl
theorem ostinatoref20_Script.bits9 : waitsOk ostinatoref20_Script.T9.2 ostinatoref20_Script.B9 = true := by kernel_rfl
set_option maxHeartbeats 8000000 in
set_option maxRecDepth 100000 in
theorem ostinatoref20_Script.calls (k : Nat) (a0_0 : Int) (a0_1 : Int) (A0_2 : Option Addr) (c0_2 : Nat) (l0_2 : List (S85)) (A1 : Option Addr) (c1 : Nat) (l1 : List (S50)) (a2 : Int) (r : List (S46)) (w : World) (hr0_2 : Kd.C k85 w A0_2 l0_2.length l0_2) (hc0_2 : l0_2.length ≤ c0_2) (hr1 : Kd.C k50 w A1 l1.length l1) (hc1 : l1.length ≤ c1) (h : ostinatoref20_Script.f k a0_0 a0_1 l0_2 l1 a2 = some r) :
    Calls Tryd.prog 15 #[.agg #[.int .i64 a0_0, .int .i64 a0_1, .slice A0_2 l0_2.length c0_2], .slice A1 l1.length c1, .int .i64 a2] w fun e w' => ∃ v0_ : Value, e = .returned (v0_) ∧ Kd.R k46 46 w' w.heap.size (fun _ => True) v0_ r ∧ Below w.heap.size w w' := by
  have hu31 := Tryd.underlying31
  have hu50 := Tryd.underlying50
  have hu46 := Tryd.underlying46
  have HR0_2 := Aside0.mk hr0_2
  have HC0_2 := Aside0.mk hc0_2
  clear hr0_2 hc0_2
  have HR1 := Aside0.mk hr1
  have HC1 := Aside0.mk hc1
  clear hr1 hc1
  have HB := Aside0.mk (Below.refl w.heap.size w)
  have H : (ostinatoref20_Script.l0 k l1 a2 ([] : List (S46)) 0 0 a0_0 a0_1 l0_2) = some r := h
  clear h
  have H' := Aside0.mk H
  clear H
  go_enter Tryd.func15, Tryd.ntmps15
  go_wp2_with (first | ((with_reducible refine gate_dst (N := 3) rfl ?_); refine box_event ?hg (N := 3) ?hd (cs := #[.int .i64 a0_0, .int .i64 a0_1, .slice A0_2 l0_2.length c0_2]) (t := 31) ?hr ?_; (case hd => rfl); (case hg => rfl); (case hr => first | (go_simp; done) | (go_simp; rfl)); intro gb116 hg w4 hbox hb; have n0_ := Aside0.mk (below_step (by repeat (first | (with_reducible first | exact HB.out | apply below_alloc | apply pw_below_drewN | apply below_drew1) | exact HB.out)) hb); have n1_ := Aside0.mk (hbox); have n2_ := Aside0.mk ((by rw [hg]; exact (below_size (by repeat (first | (with_reducible first | exact HB.out | apply below_alloc | apply pw_below_drewN | apply below_drew1) | exact HB.out))) : w.heap.size ≤ gb116)); have n3_ := Aside0.mk ((by rw [hg]; exact (below_size (by repeat (first | (with_reducible first | exact HB.out | apply below_alloc | apply pw_below_drewN | apply below_drew1) | exact HB.out))) : w.heap.size ≤ gb116)); clear HB; have HB := n0_; have BK116 := n1_; have GW116 := n2_; have GE116 := n3_; clear n0_ n1_ n2_ n3_; clear hb hbox hg))
  go_loopg [7, 8, 9] k (fun kq v7 v8 v9 w' => ∃ (x7_1 : List (S46)) (x8_1 : Int) (x9_1 : Int), v8 = .int .i64 x8_1 ∧ v9 = .int .i64 x9_1 ∧ Aside0 (ostinatoref20_Script.l0 kq l1 a2 x7_1 x8_1 x9_1 a0_0 a0_1 l0_2 = some r) ∧ Aside0 (kq ≤ k) ∧ Aside0 (Kd.R k46 46 w' w.heap.size (fun _ => True) v7 x7_1) ∧ Aside0 (w'.heap[gb116]? = some (.cells #[.int .i64 a0_0, .int .i64 a0_1, (.slice A0_2 l0_2.length c0_2)] 31 (0, 0))) ∧ Aside0 (Below w.heap.size w w'))
  case atStart => exact ⟨(([] : List (S46))), (0), (0), (by first | rfl | (simp; done) | (simp [*]; done)), (by first | rfl | (simp; done) | (simp [*]; done)), H', ⟨Nat.le_refl _⟩, ⟨by first | exact Kd.R_nil _ _ _ _ _ | exact Kd.N_nil _ _ _ _ _ | exact Kd.V_nil _ _ _ _ _ | exact Kd.Q_nil _ _ _ _ _ | exact Kd.S_nil _ _ _ _ _⟩, ⟨by (with_reducible repeat (first | refine blk_drewN ?_ _ | refine blk_drew ?_ | refine blk_alloc ?_ _)); exact BK116.out⟩, ⟨by repeat (first | (with_reducible first | exact HB.out | apply below_alloc | apply pw_below_drewN | apply below_drew1 | refine below_set ?_ GE116.out) | exact HB.out)⟩⟩
  case round =>
    clear H'
    try clear c1
    try clear p2
    obtain ⟨x7_1, x8_1, x9_1, rfl, rfl, HA, HK1, HO_7, BK116, HB⟩ := hrel
    cases gk with
    | zero => exact absurd HA.out (by simp [ostinatoref20_Script.l0])
    | succ k1 =>
      have H := HA.out
      clear HA
      simp only [ostinatoref20_Script.l0] at H
      have HC5 := Aside0.mk H
      clear H
      go_upto_region 4 with (fail)
      go_cut [20] (fun v20 wc => ∃ (kq : Nat) (x20_4 : Bool), v20 = .bool x20_4 ∧ Aside0 (ostinatoref20_Script.j1 kq l1 a2 x7_1 x8_1 x9_1 x20_4 a0_0 a0_1 l0_2 = some r) ∧ Aside0 (kq ≤ k1) ∧ Aside0 (Kd.R k46 46 wc w.heap.size (fun _ => True) u7 x7_1) ∧ Aside0 (wc.heap[gb116]? = some (.cells #[.int .i64 a0_0, .int .i64 a0_1, (.slice A0_2 l0_2.length c0_2)] 31 (0, 0))) ∧ Aside0 (Below w.heap.size w wc))
      case first =>
        have H := HC5.out
        clear HC5
        by_cases c6 : x9_1 < (l1.length : Int)
        · rw [if_pos c6] at H
          have c6b0 : decide (x9_1 < (l1.length : Int)) = true := decide_eq_true c6
          clear c6
          (first | rw [c6b0] | (simp only [i64_w, i32_w]; rw [c6b0]) | skip)
          have H' := Aside0.mk H
          clear H
          go_wp2
          go_meet
          case rel => exact ⟨_, (decide (x9_1 < a2)), (by first | rfl | (simp; done) | (simp [*]; done)), H', ⟨by have := HK1.out; first | omega | exact Nat.le_refl _⟩, ⟨by (with_reducible repeat (first | apply Kd.R_alloc | apply Kd.R_drewN | apply Kd.R_drew)); exact HO_7.out⟩, ⟨by (with_reducible repeat (first | refine blk_drewN ?_ _ | refine blk_drew ?_ | refine blk_alloc ?_ _)); exact BK116.out⟩, ⟨by repeat (first | (with_reducible first | exact HB.out | apply below_alloc | apply pw_below_drewN | apply below_drew1 | refine below_set ?_ GE116.out) | exact HB.out)⟩⟩
        · rw [if_neg c6] at H
          have c6b0 : decide (x9_1 < (l1.length : Int)) = false := decide_eq_false c6
          clear c6
          (first | rw [c6b0] | (simp only [i64_w, i32_w]; rw [c6b0]) | skip)
          have H' := Aside0.mk H
          clear H
          go_wp2
          go_meet
          case rel => exact ⟨_, (false), (by first | rfl | (simp; done) | (simp [*]; done)), H', ⟨by have := HK1.out; first | omega | exact Nat.le_refl _⟩, ⟨by (with_reducible repeat (first | apply Kd.R_alloc | apply Kd.R_drewN | apply Kd.R_drew)); exact HO_7.out⟩, ⟨by (with_reducible repeat (first | refine blk_drewN ?_ _ | refine blk_drew ?_ | refine blk_alloc ?_ _)); exact BK116.out⟩, ⟨by repeat (first | (with_reducible first | exact HB.out | apply below_alloc | apply pw_below_drewN | apply below_drew1 | refine below_set ?_ GE116.out) | exact HB.out)⟩⟩
      case rest =>
        clear HC5
        try clear c1
        try clear p2
        try clear c6
        try clear c6b0
        try clear p2
        obtain ⟨kq, x20_4, rfl, HA, HJ4, HO_7, BK116, HB⟩ := hcut
        cases kq with
        | zero => exact absurd HA.out (by simp [ostinatoref20_Script.j1])
        | succ kj4 =>
          have H := HA.out
          clear HA
          simp only [ostinatoref20_Script.j1] at H
          by_cases c7 : x20_4 = true
          · subst c7
            have H1 : (ostinatoref20_Script.l1 kj4 l1 a2 x7_1 x8_1 x9_1 0 a0_0 a0_1 l0_2) = some r := by rw [if_pos rfl] at H; exact H
            clear H
            have H := H1
            clear H1
            have H' := Aside0.mk H
            clear H
            go_wp2
            go_loopg [7, 10] kj4 (fun kq v7 v10 w' => ∃ (x7_3 : List (S46)) (x10_3 : Int), v10 = .int .i64 x10_3 ∧ Aside0 (ostinatoref20_Script.l1 kq l1 a2 x7_3 x8_1 x9_1 x10_3 a0_0 a0_1 l0_2 = some r) ∧ Aside0 (kq ≤ kj4) ∧ Aside0 (Kd.R k46 46 w' w.heap.size (fun _ => True) v7 x7_3) ∧ Aside0 (w'.heap[gb116]? = some (.cells #[.int .i64 a0_0, .int .i64 a0_1, (.slice A0_2 l0_2.length c0_2)] 31 (0, 0))) ∧ Aside0 (Below w.heap.size w w'))
            case atStart => exact ⟨(x7_1), (0), (by first | rfl | (simp; done) | (simp [*]; done)), H', ⟨Nat.le_refl _⟩, ⟨by (with_reducible repeat (first | apply Kd.R_alloc | apply Kd.R_drewN | apply Kd.R_drew)); exact HO_7.out⟩, ⟨by (with_reducible repeat (first | refine blk_drewN ?_ _ | refine blk_drew ?_ | refine blk_alloc ?_ _)); exact BK116.out⟩, ⟨by repeat (first | (with_reducible first | exact HB.out | apply below_alloc | apply pw_below_drewN | apply below_drew1 | refine below_set ?_ GE116.out) | exact HB.out)⟩⟩
            case round =>
              clear H'
              try clear c1
              try clear p2
              try clear c6
              try clear c6b0
              try clear c7
              try clear p2
              obtain ⟨x7_3, x10_3, rfl, HA, HK3, HO_7, BK116, HB⟩ := hrel
              cases gk with
              | zero => exact absurd HA.out (by simp [ostinatoref20_Script.l1])
              | succ k3 =>
                have H := HA.out
                clear HA
                simp only [ostinatoref20_Script.l1] at H
                by_cases c8 : x10_3 < (l0_2.length : Int)
                · rw [if_pos c8] at H
                  have c8b0 : decide (x10_3 < (l0_2.length : Int)) = true := decide_eq_true c8
                  clear c8
                  by_cases c9 : 0 ≤ x9_1
                  · rw [if_pos c9] at H
                    have c9b0 : decide (0 ≤ x9_1) = true := decide_eq_true c9
                    clear c9
                    by_cases c10 : x9_1 < (l1.length : Int)
                    · rw [if_pos c10] at H
                      have c10b0 : decide (x9_1 < (l1.length : Int)) = true := decide_eq_true c10
                      clear c10
                      replace H := Option.bind_eq_some_iff.mp H
                      obtain ⟨t118, A110, H⟩ := H
                      replace H : (if t118 > 0 then (if 0 ≤ x10_3 then (if x7_3.length < 5864062014805 then (ostinatoref20_Script.l1 k3 l1 a2 (x7_3 ++ [(⟨x8_1, (rd_T85 l0_2 x10_3).f0, t118⟩ : S46)]) x8_1 x9_1 (wrap64 (x10_3 + 1)) a0_0 a0_1 l0_2) else (none)) else (none)) else (ostinatoref20_Script.l1 k3 l1 a2 x7_3 x8_1 x9_1 (wrap64 (x10_3 + 1)) a0_0 a0_1 l0_2)) = some r := H
                      have A11 := Aside0.mk A110
                      clear A110
                      by_cases c12 : t118 > 0
                      · rw [if_pos c12] at H
                        have c12b0 : decide (0 < t118) = true := decide_eq_true c12
                        clear c12
                        by_cases c13 : 0 ≤ x10_3
                        · rw [if_pos c13] at H
                          have c13b0 : decide (0 ≤ x10_3) = true := decide_eq_true c13
                          clear c13
                          by_cases c14 : x7_3.length < 5864062014805
                          · rw [if_pos c14] at H
                            have LMc14 := Aside0.mk c14
                            clear c14
                            obtain ⟨y120, hy120⟩ : ∃ y_ : List (S46), y_ = (x7_3 ++ [(⟨x8_1, (rd_T85 l0_2 x10_3).f0, t118⟩ : S46)]) := ⟨_, rfl⟩
                            replace H : (ostinatoref20_Script.l1 k3 l1 a2 y120 x8_1 x9_1 (wrap64 (x10_3 + 1)) a0_0 a0_1 l0_2) = some r := by first | (rw [hy120]; with_reducible exact H) | (have H2_ := (Option.bind_some _ _).symm.trans H; rw [hy120]; with_reducible exact H2_) | (have H2_ := (Option.bind_some _ _).symm.trans H; with_reducible exact H2_) | with_reducible exact H | (rw [hy120]; exact H) | exact H
                            have Ny120 := Aside0.mk hy120
                            clear hy120
                            have H' := Aside0.mk H
                            clear H
                            have hcz15_0 : wr.cell? ⟨gb116, 0, none⟩ = some (.int .i64 a0_0) := (blk_cell BK116.out 0).trans rfl
                            have hcz15_1 : wr.cell? ⟨gb116, 1, none⟩ = some (.int .i64 a0_1) := (blk_cell BK116.out 1).trans rfl
                            have hcz15_2 : wr.cell? ⟨gb116, 2, none⟩ = some (.slice A0_2 l0_2.length c0_2) := (blk_cell BK116.out 2).trans rfl
                            have hfz15_0 := blk_frozen BK116.out 0
                            have hfz15_1 := blk_frozen BK116.out 1
                            have hfz15_2 := blk_frozen BK116.out 2
                            try go_wp2
                            have n0_ := Aside0.mk (Kd.R_drew HO_7.out)
                            have n1_ := Aside0.mk (blk_drew BK116.out)
                            have n2_ := Aside0.mk (below_drew1 HB.out)
                            clear HO_7
                            clear BK116
                            clear HB
                            have HO_7 := n0_
                            have BK116 := n1_
                            have HB := n2_
                            clear n0_ n1_ n2_
                            have p117 : 0 ≤ (x9_1 : Int) := of_decide_eq_true (by first | (with_reducible assumption) | assumption)
                            have q117 : x9_1 < (l1.length : Int) := of_decide_eq_true (by first | (with_reducible assumption) | assumption)
                            obtain ⟨ad117, A117_0, c117_0, e117, hx117_0, hx117_1, hl117_0, hi117_0⟩ := at_T50 HR1.out x9_1 p117 q117
                            have hw117_1 := hx117_1
                            have hw117_0 := hx117_0
                            cases e117
                            replace hx117_0 := (HB.out.cell (World.block_lt_of_cell? w _ hx117_0)).trans hx117_0
                            replace hx117_1 := (HB.out.cell (World.block_lt_of_cell? w _ hx117_1)).trans hx117_1
                            have HR117_0 := Aside0.mk hi117_0
                            have HC117_0 := Aside0.mk hl117_0
                            clear hi117_0 hl117_0
                            replace p117 := eq_true p117
                            replace q117 := eq_true q117
                            refine start_ (n := 8) (S := fun w' => w'.cell? ⟨gb116, 0, none⟩ = some (.int .i64 a0_0) ∧ w'.cell? ⟨gb116, 1, none⟩ = some (.int .i64 a0_1) ∧ w'.cell? ⟨gb116, 2, none⟩ = some (.slice A0_2 l0_2.length c0_2) ∧ w'.cell? (ad117.add ((x9_1).toNat * 2)) = some (.slice A117_0 ((rd_T50 l1 x9_1).f0).length c117_0) ∧ w'.cell? ⟨(ad117.add ((x9_1).toNat * 2)).block, (ad117.add ((x9_1).toNat * 2)).off + 1, none⟩ = some (.int .i64 ((rd_T50 l1 x9_1).f1))) (ds := []) #[false, false, false, false, false, false, false, false] (by kernel_rfl) rfl rfl ⟨(blk_cell BK116.out 0).trans rfl, (blk_cell BK116.out 1).trans rfl, (blk_cell BK116.out 2).trans rfl, ((HB.out.cell (World.block_lt_of_cell? w _ hw117_0)).trans hw117_0), ((HB.out.cell (World.block_lt_of_cell? w _ hw117_1)).trans hw117_1)⟩ (fun hHeld => ?_); refine with_tabW ostinatoref20_Script.tab9 ostinatoref20_Script.bits9 (fun HT_ HW_ => ?_)
                            generalize wr.drew = w16 at HO_7 BK116 HB HR117_0 hx117_0 hx117_1 hHeld ⊢
                            refine pure_ (i := 0) (N := some 30) (v := ?_) (a' := ?_) #[true, false, false, false, false, false, false, false] rfl rfl (any_of HT_.out (by kernel_rfl)) (fun _ _ _ h => h) (Or.inl ⟨by rfl, ?_⟩) ?_ ?_
                            rotate_left
                            · intro w'
                              go_simp
                              with_reducible rfl
                            rotate_left
                            · simp only [Act.put, List.setIfInBounds_toArray, List.set_cons_zero, List.set_cons_succ, i64_w, i32_w]
                              rfl
                            refine pure_ (i := 1) (N := some 31) (v := ?_) (a' := ?_) #[true, true, false, false, false, false, false, false] rfl rfl (any_of HT_.out (by kernel_rfl)) (fun _ _ _ h => h) (Or.inl ⟨by rfl, ?_⟩) ?_ ?_
                            rotate_left
                            · intro w'
                              go_simp
                              with_reducible rfl
                            rotate_left
                            · simp only [Act.put, List.setIfInBounds_toArray, List.set_cons_zero, List.set_cons_succ, i64_w, i32_w]
                              rfl
                            refine pure_ (i := 2) (N := some 32) (v := ?_) (a' := ?_) #[true, true, true, false, false, false, false, false] rfl rfl (any_of HT_.out (by kernel_rfl)) (fun _ _ _ h => h) (Or.inl ⟨by rfl, ?_⟩) ?_ ?_
                            rotate_left
                            · intro w'
                              go_simp
                              with_reducible rfl
                            rotate_left
                            · simp only [Act.put, List.setIfInBounds_toArray, List.set_cons_zero, List.set_cons_succ, i64_w, i32_w]
                              rfl
                            refine pure_ (i := 5) (N := some 35) (v := ?_) (a' := ?_) #[true, true, true, false, false, true, false, false] rfl rfl (any_of HT_.out (by kernel_rfl)) (fun _ _ _ h => h) (Or.inl ⟨by rfl, ?_⟩) ?_ ?_
                            rotate_left
                            · intro w'
                              go_simp
                              with_reducible rfl
                            rotate_left
                            · simp only [Act.put, List.setIfInBounds_toArray, List.set_cons_zero, List.set_cons_succ, i64_w, i32_w]
                              rfl
                            refine take_ (i := 3) (N := some 33) (v := ?_) (a' := ?_) #[true, true, true, true, false, true, false, false] rfl rfl (take_ofW HT_.out HW_.out (by kernel_rfl)) (fun _ _ _ h => h) (Or.inl ⟨by rfl, ?_⟩) hHeld ?_ ?_
                            rotate_left
                            · rintro w' ⟨s0, s1, s2, s3, s4⟩
                              go_simp
                              with_reducible rfl
                            rotate_left
                            · simp only [Act.put, List.setIfInBounds_toArray, List.set_cons_zero, List.set_cons_succ, i64_w, i32_w]
                              rfl
                            refine take_ (i := 4) (N := some 34) (v := ?_) (a' := ?_) #[true, true, true, true, true, true, false, false] rfl rfl (take_ofW HT_.out HW_.out (by kernel_rfl)) (fun _ _ _ h => h) (Or.inl ⟨by rfl, ?_⟩) hHeld ?_ ?_
                            rotate_left
                            · rintro w' ⟨s0, s1, s2, s3, s4⟩
                              go_simp
                              with_reducible rfl
                            rotate_left
                            · simp only [Act.put, List.setIfInBounds_toArray, List.set_cons_zero, List.set_cons_succ, i64_w, i32_w]
                              rfl
                            refine one_ (i := 6) (N := some 36) #[true, true, true, true, true, true, true, false] rfl rfl (one_of HT_.out (by kernel_rfl)) (by decide) (fun K hK => ?_)
                            refine goes_ Tryd.func27 (by kernel_rfl) rfl #[.agg #[.slice A117_0 ((rd_T50 l1 x9_1).f0).length c117_0, .int .i64 ((rd_T50 l1 x9_1).f1)], .agg #[.int .i64 a0_0, .int .i64 a0_1, .slice A0_2 l0_2.length c0_2], .int .i64 x10_3] (by rfl) rfl rfl (by (try simp only [List.map_toArray, List.map_cons, List.map_nil]); first | done | rfl | (simp only [List.length_drop, List.length_take]; rfl)) ?_
                            with_reducible refine (ostinatoref18_Act_Demand.calls _ _ ((rd_T50 l1 x9_1).f0) ((rd_T50 l1 x9_1).f1) a0_0 a0_1 _ _ l0_2 x10_3 t118 _ ?side1 ?side2 ?side3 ?side4 A11.out).mono ?_
                            (case side1 => repeat (first | exact (Kd.C_below HR117_0.out HB.out) | (with_reducible refine Kd.C_alloc ?_ _) | (with_reducible refine Kd.C_drewN ?_ _) | (with_reducible refine Kd.C_drew ?_)))
                            (case side2 => exact HC117_0.out)
                            (case side3 => repeat (first | exact (Kd.C_below HR0_2.out HB.out) | (with_reducible refine Kd.C_alloc ?_ _) | (with_reducible refine Kd.C_drewN ?_ _) | (with_reducible refine Kd.C_drew ?_)))
                            (case side4 => exact HC0_2.out)
                            rintro e w17 ⟨rfl, hb⟩
                            refine ⟨_, rfl, ?_⟩
                            have n0_ := Aside0.mk (Kd.R_below (by (with_reducible repeat (first | apply Kd.R_alloc | apply Kd.R_drewN | apply Kd.R_drew)); exact HO_7.out) hb)
                            have n1_ := Aside0.mk (blk_below (g := gb116) (o := .cells #[.int .i64 a0_0, .int .i64 a0_1, .slice A0_2 l0_2.length c0_2] 31 (0, 0)) (by (with_reducible repeat (first | refine blk_drewN ?_ _ | refine blk_drew ?_ | refine blk_alloc ?_ _)); exact BK116.out) hb)
                            have n2_ := Aside0.mk (below_step (by repeat (first | (with_reducible first | exact HB.out | apply below_alloc | apply pw_below_drewN | apply below_drew1 | refine below_set ?_ GE116.out) | exact HB.out)) hb)
                            clear HO_7
                            clear BK116
                            clear HB
                            have HO_7 := n0_
                            have BK116 := n1_
                            have HB := n2_
                            clear n0_ n1_ n2_
                            (try clear hb)
                            (try clear hb2)
                            (try clear hk)
                            (try clear hi)
                            refine hK.out _ _ ⟨(blk_cell BK116.out 0).trans rfl, (blk_cell BK116.out 1).trans rfl, (blk_cell BK116.out 2).trans rfl, ((HB.out.cell (World.block_lt_of_cell? w _ hw117_0)).trans hw117_0), ((HB.out.cell (World.block_lt_of_cell? w _ hw117_1)).trans hw117_1)⟩ (fun hHeld => ?_)
                            clear hK K
                            refine norm_ (a' := ?_) ?_ ?_
                            rotate_left
                            · show Act.put _ (some 36) _ = _
                              simp only [Act.put, List.setIfInBounds_toArray, List.set_cons_zero, List.set_cons_succ, i64_w, i32_w]
                              rfl
                            refine pure_ (i := 7) (N := some 11) (v := ?_) (a' := ?_) #[true, true, true, true, true, true, true, true] rfl rfl (any_of HT_.out (by kernel_rfl)) (fun _ _ _ h => h) (Or.inl ⟨by rfl, ?_⟩) ?_ ?_
                            rotate_left
                            · intro w'
                              go_simp
                              with_reducible rfl
                            rotate_left
                            · simp only [Act.put, List.setIfInBounds_toArray, List.set_cons_zero, List.set_cons_succ, i64_w, i32_w]
                              rfl
                            refine done_ (done_of HT_.out (by kernel_rfl)) ?_
                            have hcz18_0 : w17.cell? ⟨gb116, 0, none⟩ = some (.int .i64 a0_0) := (blk_cell BK116.out 0).trans rfl
                            have hcz18_1 : w17.cell? ⟨gb116, 1, none⟩ = some (.int .i64 a0_1) := (blk_cell BK116.out 1).trans rfl
                            have hcz18_2 : w17.cell? ⟨gb116, 2, none⟩ = some (.slice A0_2 l0_2.length c0_2) := (blk_cell BK116.out 2).trans rfl
                            have hfz18_0 := blk_frozen BK116.out 0
                            have hfz18_1 := blk_frozen BK116.out 1
                            have hfz18_2 := blk_frozen BK116.out 2
                            have p119 : 0 ≤ (x10_3 : Int) := of_decide_eq_true (by first | (with_reducible assumption) | assumption)
                            have q119 : x10_3 < (l0_2.length : Int) := of_decide_eq_true (by first | (with_reducible assumption) | assumption)
                            obtain ⟨ad119, A119_5, c119_5, A119_6, c119_6, e119, hx119_0, hx119_1, hx119_2, hx119_3, hx119_4, hx119_5, hx119_6, hl119_5, hi119_5, hl119_6, hi119_6⟩ := at_T85 HR0_2.out x10_3 p119 q119
                            cases e119
                            replace hx119_0 := (HB.out.cell (World.block_lt_of_cell? w _ hx119_0)).trans hx119_0
                            replace hx119_1 := (HB.out.cell (World.block_lt_of_cell? w _ hx119_1)).trans hx119_1
                            replace hx119_2 := (HB.out.cell (World.block_lt_of_cell? w _ hx119_2)).trans hx119_2
                            replace hx119_3 := (HB.out.cell (World.block_lt_of_cell? w _ hx119_3)).trans hx119_3
                            replace hx119_4 := (HB.out.cell (World.block_lt_of_cell? w _ hx119_4)).trans hx119_4
                            replace hx119_5 := (HB.out.cell (World.block_lt_of_cell? w _ hx119_5)).trans hx119_5
                            replace hx119_6 := (HB.out.cell (World.block_lt_of_cell? w _ hx119_6)).trans hx119_6
                            have HR119_5 := Aside0.mk hi119_5
                            have HC119_5 := Aside0.mk hl119_5
                            clear hi119_5 hl119_5
                            have HR119_6 := Aside0.mk hi119_6
                            have HC119_6 := Aside0.mk hl119_6
                            clear hi119_6 hl119_6
                            replace p119 := eq_true p119
                            replace q119 := eq_true q119
                            try go_wp2_with (first | ((with_reducible refine gate_builtin (b := .append) (xs := #[.tmp 39, .tmp 49]) rfl ?_); at_builtin; refine Kd.R_append k46 (w0 := w) w.heap.size rfl (.tmp 39) (.tmp 49) 27 46 (.agg #[(.int .i64 0), (.int .i64 0), (.int .i64 0)]) 24 rfl Tryd.underlying27 info46 rfl (by decide) (by omega) u7 x7_3 (⟨x8_1, (rd_T85 l0_2 x10_3).f0, t118⟩ : S46) [.int .i64 x8_1, .int .i64 ((rd_T85 l0_2 x10_3).f0), .int .i64 t118] (fun _ => True) (fun _ => False) rfl rfl ?aP (fun _ hk => hk.elim) ?aF ?aO ?aB ?aS ?aL ?_; (case aP => exact k46_mkM _ _ _ (⟨x8_1, (rd_T85 l0_2 x10_3).f0, t118⟩ : S46)); (case aB => exact (by repeat (first | (with_reducible first | exact HB.out | apply below_alloc | apply pw_below_drewN | apply below_drew1 | refine below_set ?_ GE116.out) | exact HB.out))); (case aF => exact (fun _ _ => trivial)); (case aO => exact (by (with_reducible repeat (first | apply Kd.R_alloc | apply Kd.R_drewN | apply Kd.R_drew)); exact HO_7.out)); (case aS => exact (below_size (by repeat (first | (with_reducible first | exact HB.out | apply below_alloc | apply pw_below_drewN | apply below_drew1 | refine below_set ?_ GE116.out) | exact HB.out)))); (case aL => have := LMc14.out; omega); intro v121 w19 ho hb hg hat; rw [← Ny120.out] at ho; have n0_ := Aside0.mk (blk_grown (g := gb116) (o := .cells #[.int .i64 a0_0, .int .i64 a0_1, .slice (some ad119) l0_2.length c0_2] 31 (0, 0)) (by (with_reducible repeat (first | refine blk_drewN ?_ _ | refine blk_drew ?_ | refine blk_alloc ?_ _)); exact BK116.out) hg (Kd.R_ne HO_7.out BK116.out (by decide))); have n1_ := Aside0.mk (hb); have n2_ := Aside0.mk (ho); clear BK116; clear HB; clear HO_7; have BK116 := n0_; have HB := n1_; have HO122 := n2_; clear n0_ n1_ n2_; clear ho hb hg hat))
                            go_roundg k3
                            case measure => have := HK1.out; have := HJ4.out; have := HK3.out; omega
                            case rel => exact ⟨(y120), (wrap64 (x10_3 + 1)), (by first | rfl | (simp; done) | (simp [*]; done)), H', ⟨by have := HK1.out; have := HJ4.out; have := HK3.out; omega⟩, ⟨by (with_reducible repeat (first | apply Kd.R_alloc | apply Kd.R_drewN | apply Kd.R_drew)); exact HO122.out⟩, ⟨by (with_reducible repeat (first | refine blk_drewN ?_ _ | refine blk_drew ?_ | refine blk_alloc ?_ _)); exact BK116.out⟩, ⟨by repeat (first | (with_reducible first | exact HB.out | apply below_alloc | apply pw_below_drewN | apply below_drew1 | refine below_set ?_ GE116.out) | exact HB.out)⟩⟩
                          · rw [if_neg c14] at H
                            exact absurd H (by simp)
                        · rw [if_neg c13] at H
                          exact absurd H (by simp)
                      · rw [if_neg c12] at H
                        have c12b0 : decide (0 < t118) = false := decide_eq_false c12
                        clear c12
                        have H' := Aside0.mk H
                        clear H
                        have hcz20_0 : wr.cell? ⟨gb116, 0, none⟩ = some (.int .i64 a0_0) := (blk_cell BK116.out 0).trans rfl
                        have hcz20_1 : wr.cell? ⟨gb116, 1, none⟩ = some (.int .i64 a0_1) := (blk_cell BK116.out 1).trans rfl
                        have hcz20_2 : wr.cell? ⟨gb116, 2, none⟩ = some (.slice A0_2 l0_2.length c0_2) := (blk_cell BK116.out 2).trans rfl
                        have hfz20_0 := blk_frozen BK116.out 0
                        have hfz20_1 := blk_frozen BK116.out 1
                        have hfz20_2 := blk_frozen BK116.out 2
                        try go_wp2
                        have n0_ := Aside0.mk (Kd.R_drew HO_7.out)
                        have n1_ := Aside0.mk (blk_drew BK116.out)
                        have n2_ := Aside0.mk (below_drew1 HB.out)
                        clear HO_7
                        clear BK116
                        clear HB
                        have HO_7 := n0_
                        have BK116 := n1_
                        have HB := n2_
                        clear n0_ n1_ n2_
                        have p117 : 0 ≤ (x9_1 : Int) := of_decide_eq_true (by first | (with_reducible assumption) | assumption)
                        have q117 : x9_1 < (l1.length : Int) := of_decide_eq_true (by first | (with_reducible assumption) | assumption)
                        obtain ⟨ad117, A117_0, c117_0, e117, hx117_0, hx117_1, hl117_0, hi117_0⟩ := at_T50 HR1.out x9_1 p117 q117
                        have hw117_1 := hx117_1
                        have hw117_0 := hx117_0
                        cases e117
                        replace hx117_0 := (HB.out.cell (World.block_lt_of_cell? w _ hx117_0)).trans hx117_0
                        replace hx117_1 := (HB.out.cell (World.block_lt_of_cell? w _ hx117_1)).trans hx117_1
                        have HR117_0 := Aside0.mk hi117_0
                        have HC117_0 := Aside0.mk hl117_0
                        clear hi117_0 hl117_0
                        replace p117 := eq_true p117
                        replace q117 := eq_true q117
                        refine start_ (n := 8) (S := fun w' => w'.cell? ⟨gb116, 0, none⟩ = some (.int .i64 a0_0) ∧ w'.cell? ⟨gb116, 1, none⟩ = some (.int .i64 a0_1) ∧ w'.cell? ⟨gb116, 2, none⟩ = some (.slice A0_2 l0_2.length c0_2) ∧ w'.cell? (ad117.add ((x9_1).toNat * 2)) = some (.slice A117_0 ((rd_T50 l1 x9_1).f0).length c117_0) ∧ w'.cell? ⟨(ad117.add ((x9_1).toNat * 2)).block, (ad117.add ((x9_1).toNat * 2)).off + 1, none⟩ = some (.int .i64 ((rd_T50 l1 x9_1).f1))) (ds := []) #[false, false, false, false, false, false, false, false] (by kernel_rfl) rfl rfl ⟨(blk_cell BK116.out 0).trans rfl, (blk_cell BK116.out 1).trans rfl, (blk_cell BK116.out 2).trans rfl, ((HB.out.cell (World.block_lt_of_cell? w _ hw117_0)).trans hw117_0), ((HB.out.cell (World.block_lt_of_cell? w _ hw117_1)).trans hw117_1)⟩ (fun hHeld => ?_); refine with_tabW ostinatoref20_Script.tab9 ostinatoref20_Script.bits9 (fun HT_ HW_ => ?_)
                        generalize wr.drew = w21 at HO_7 BK116 HB HR117_0 hx117_0 hx117_1 hHeld ⊢
                        refine pure_ (i := 0) (N := some 30) (v := ?_) (a' := ?_) #[true, false, false, false, false, false, false, false] rfl rfl (any_of HT_.out (by kernel_rfl)) (fun _ _ _ h => h) (Or.inl ⟨by rfl, ?_⟩) ?_ ?_
                        rotate_left
                        · intro w'
                          go_simp
                          with_reducible rfl
                        rotate_left
                        · simp only [Act.put, List.setIfInBounds_toArray, List.set_cons_zero, List.set_cons_succ, i64_w, i32_w]
                          rfl
                        refine pure_ (i := 1) (N := some 31) (v := ?_) (a' := ?_) #[true, true, false, false, false, false, false, false] rfl rfl (any_of HT_.out (by kernel_rfl)) (fun _ _ _ h => h) (Or.inl ⟨by rfl, ?_⟩) ?_ ?_
                        rotate_left
                        · intro w'
                          go_simp
                          with_reducible rfl
                        rotate_left
                        · simp only [Act.put, List.setIfInBounds_toArray, List.set_cons_zero, List.set_cons_succ, i64_w, i32_w]
                          rfl
                        refine pure_ (i := 2) (N := some 32) (v := ?_) (a' := ?_) #[true, true, true, false, false, false, false, false] rfl rfl (any_of HT_.out (by kernel_rfl)) (fun _ _ _ h => h) (Or.inl ⟨by rfl, ?_⟩) ?_ ?_
                        rotate_left
                        · intro w'
                          go_simp
                          with_reducible rfl
                        rotate_left
                        · simp only [Act.put, List.setIfInBounds_toArray, List.set_cons_zero, List.set_cons_succ, i64_w, i32_w]
                          rfl
                        refine pure_ (i := 5) (N := some 35) (v := ?_) (a' := ?_) #[true, true, true, false, false, true, false, false] rfl rfl (any_of HT_.out (by kernel_rfl)) (fun _ _ _ h => h) (Or.inl ⟨by rfl, ?_⟩) ?_ ?_
                        rotate_left
                        · intro w'
                          go_simp
                          with_reducible rfl
                        rotate_left
                        · simp only [Act.put, List.setIfInBounds_toArray, List.set_cons_zero, List.set_cons_succ, i64_w, i32_w]
                          rfl
                        refine take_ (i := 3) (N := some 33) (v := ?_) (a' := ?_) #[true, true, true, true, false, true, false, false] rfl rfl (take_ofW HT_.out HW_.out (by kernel_rfl)) (fun _ _ _ h => h) (Or.inl ⟨by rfl, ?_⟩) hHeld ?_ ?_
                        rotate_left
                        · rintro w' ⟨s0, s1, s2, s3, s4⟩
                          go_simp
                          with_reducible rfl
                        rotate_left
                        · simp only [Act.put, List.setIfInBounds_toArray, List.set_cons_zero, List.set_cons_succ, i64_w, i32_w]
                          rfl
                        refine take_ (i := 4) (N := some 34) (v := ?_) (a' := ?_) #[true, true, true, true, true, true, false, false] rfl rfl (take_ofW HT_.out HW_.out (by kernel_rfl)) (fun _ _ _ h => h) (Or.inl ⟨by rfl, ?_⟩) hHeld ?_ ?_
                        rotate_left
                        · rintro w' ⟨s0, s1, s2, s3, s4⟩
                          go_simp
                          with_reducible rfl
                        rotate_left
                        · simp only [Act.put, List.setIfInBounds_toArray, List.set_cons_zero, List.set_cons_succ, i64_w, i32_w]
                          rfl
                        refine one_ (i := 6) (N := some 36) #[true, true, true, true, true, true, true, false] rfl rfl (one_of HT_.out (by kernel_rfl)) (by decide) (fun K hK => ?_)
                        refine goes_ Tryd.func27 (by kernel_rfl) rfl #[.agg #[.slice A117_0 ((rd_T50 l1 x9_1).f0).length c117_0, .int .i64 ((rd_T50 l1 x9_1).f1)], .agg #[.int .i64 a0_0, .int .i64 a0_1, .slice A0_2 l0_2.length c0_2], .int .i64 x10_3] (by rfl) rfl rfl (by (try simp only [List.map_toArray, List.map_cons, List.map_nil]); first | done | rfl | (simp only [List.length_drop, List.length_take]; rfl)) ?_
                        with_reducible refine (ostinatoref18_Act_Demand.calls _ _ ((rd_T50 l1 x9_1).f0) ((rd_T50 l1 x9_1).f1) a0_0 a0_1 _ _ l0_2 x10_3 t118 _ ?side1 ?side2 ?side3 ?side4 A11.out).mono ?_
                        (case side1 => repeat (first | exact (Kd.C_below HR117_0.out HB.out) | (with_reducible refine Kd.C_alloc ?_ _) | (with_reducible refine Kd.C_drewN ?_ _) | (with_reducible refine Kd.C_drew ?_)))
                        (case side2 => exact HC117_0.out)
                        (case side3 => repeat (first | exact (Kd.C_below HR0_2.out HB.out) | (with_reducible refine Kd.C_alloc ?_ _) | (with_reducible refine Kd.C_drewN ?_ _) | (with_reducible refine Kd.C_drew ?_)))
                        (case side4 => exact HC0_2.out)
                        rintro e w22 ⟨rfl, hb⟩
                        refine ⟨_, rfl, ?_⟩
                        have n0_ := Aside0.mk (Kd.R_below (by (with_reducible repeat (first | apply Kd.R_alloc | apply Kd.R_drewN | apply Kd.R_drew)); exact HO_7.out) hb)
                        have n1_ := Aside0.mk (blk_below (g := gb116) (o := .cells #[.int .i64 a0_0, .int .i64 a0_1, .slice A0_2 l0_2.length c0_2] 31 (0, 0)) (by (with_reducible repeat (first | refine blk_drewN ?_ _ | refine blk_drew ?_ | refine blk_alloc ?_ _)); exact BK116.out) hb)
                        have n2_ := Aside0.mk (below_step (by repeat (first | (with_reducible first | exact HB.out | apply below_alloc | apply pw_below_drewN | apply below_drew1 | refine below_set ?_ GE116.out) | exact HB.out)) hb)
                        clear HO_7
                        clear BK116
                        clear HB
                        have HO_7 := n0_
                        have BK116 := n1_
                        have HB := n2_
                        clear n0_ n1_ n2_
                        (try clear hb)
                        (try clear hb2)
                        (try clear hk)
                        (try clear hi)
                        refine hK.out _ _ ⟨(blk_cell BK116.out 0).trans rfl, (blk_cell BK116.out 1).trans rfl, (blk_cell BK116.out 2).trans rfl, ((HB.out.cell (World.block_lt_of_cell? w _ hw117_0)).trans hw117_0), ((HB.out.cell (World.block_lt_of_cell? w _ hw117_1)).trans hw117_1)⟩ (fun hHeld => ?_)
                        clear hK K
                        refine norm_ (a' := ?_) ?_ ?_
                        rotate_left
                        · show Act.put _ (some 36) _ = _
                          simp only [Act.put, List.setIfInBounds_toArray, List.set_cons_zero, List.set_cons_succ, i64_w, i32_w]
                          rfl
                        refine pure_ (i := 7) (N := some 11) (v := ?_) (a' := ?_) #[true, true, true, true, true, true, true, true] rfl rfl (any_of HT_.out (by kernel_rfl)) (fun _ _ _ h => h) (Or.inl ⟨by rfl, ?_⟩) ?_ ?_
                        rotate_left
                        · intro w'
                          go_simp
                          with_reducible rfl
                        rotate_left
                        · simp only [Act.put, List.setIfInBounds_toArray, List.set_cons_zero, List.set_cons_succ, i64_w, i32_w]
                          rfl
                        refine done_ (done_of HT_.out (by kernel_rfl)) ?_
                        try go_wp2
                        go_roundg k3
                        case measure => have := HK1.out; have := HJ4.out; have := HK3.out; omega
                        case rel => exact ⟨(x7_3), (wrap64 (x10_3 + 1)), (by first | rfl | (simp; done) | (simp [*]; done)), H', ⟨by have := HK1.out; have := HJ4.out; have := HK3.out; omega⟩, ⟨by (with_reducible repeat (first | apply Kd.R_alloc | apply Kd.R_drewN | apply Kd.R_drew)); exact HO_7.out⟩, ⟨by (with_reducible repeat (first | refine blk_drewN ?_ _ | refine blk_drew ?_ | refine blk_alloc ?_ _)); exact BK116.out⟩, ⟨by repeat (first | (with_reducible first | exact HB.out | apply below_alloc | apply pw_below_drewN | apply below_drew1 | refine below_set ?_ GE116.out) | exact HB.out)⟩⟩
                    · rw [if_neg c10] at H
                      exact absurd H (by simp)
                  · rw [if_neg c9] at H
                    exact absurd H (by simp)
                · rw [if_neg c8] at H
                  have c8b0 : decide (x10_3 < (l0_2.length : Int)) = false := decide_eq_false c8
                  clear c8
                  by_cases c23 : 0 ≤ x9_1
                  · rw [if_pos c23] at H
                    have c23b0 : decide (0 ≤ x9_1) = true := decide_eq_true c23
                    clear c23
                    by_cases c24 : x9_1 < (l1.length : Int)
                    · rw [if_pos c24] at H
                      have c24b0 : decide (x9_1 < (l1.length : Int)) = true := decide_eq_true c24
                      clear c24
                      have H' := Aside0.mk H
                      clear H
                      have hcz25_0 : wr.cell? ⟨gb116, 0, none⟩ = some (.int .i64 a0_0) := (blk_cell BK116.out 0).trans rfl
                      have hcz25_1 : wr.cell? ⟨gb116, 1, none⟩ = some (.int .i64 a0_1) := (blk_cell BK116.out 1).trans rfl
                      have hcz25_2 : wr.cell? ⟨gb116, 2, none⟩ = some (.slice A0_2 l0_2.length c0_2) := (blk_cell BK116.out 2).trans rfl
                      have hfz25_0 := blk_frozen BK116.out 0
                      have hfz25_1 := blk_frozen BK116.out 1
                      have hfz25_2 := blk_frozen BK116.out 2
                      have p123 : 0 ≤ (x9_1 : Int) := of_decide_eq_true (by first | (with_reducible assumption) | assumption)
                      have q123 : x9_1 < (l1.length : Int) := of_decide_eq_true (by first | (with_reducible assumption) | assumption)
                      obtain ⟨ad123, A123_0, c123_0, e123, hx123_0, hx123_1, hl123_0, hi123_0⟩ := at_T50 HR1.out x9_1 p123 q123
                      cases e123
                      replace hx123_0 := (HB.out.cell (World.block_lt_of_cell? w _ hx123_0)).trans hx123_0
                      replace hx123_1 := (HB.out.cell (World.block_lt_of_cell? w _ hx123_1)).trans hx123_1
                      have HR123_0 := Aside0.mk hi123_0
                      have HC123_0 := Aside0.mk hl123_0
                      clear hi123_0 hl123_0
                      replace p123 := eq_true p123
                      replace q123 := eq_true q123
                      go_wp2
                      go_roundg k3
                      case measure => have := HK1.out; have := HJ4.out; have := HK3.out; omega
                      case rel => exact ⟨(x7_3), (wrap64 ((wrap64 (x8_1 + 1)) + (Go.bits .and .i64 ((rd_T50 l1 x9_1).f1) 7))), (wrap64 (x9_1 + 1)), (by first | rfl | (simp; done) | (simp [*]; done)), (by first | rfl | (simp; done) | (simp [*]; done)), H', ⟨by have := HK1.out; have := HJ4.out; have := HK3.out; omega⟩, ⟨by (with_reducible repeat (first | apply Kd.R_alloc | apply Kd.R_drewN | apply Kd.R_drew)); exact HO_7.out⟩, ⟨by (with_reducible repeat (first | refine blk_drewN ?_ _ | refine blk_drew ?_ | refine blk_alloc ?_ _)); exact BK116.out⟩, ⟨by repeat (first | (with_reducible first | exact HB.out | apply below_alloc | apply pw_below_drewN | apply below_drew1 | refine below_set ?_ GE116.out) | exact HB.out)⟩⟩
                    · rw [if_neg c24] at H
                      exact absurd H (by simp)
                  · rw [if_neg c23] at H
                    exact absurd H (by simp)
          · replace c7 := Bool.eq_false_iff.mpr c7
            subst c7
            have H1 : (some x7_1) = some r := by rw [if_neg (show ¬ (false = true) by decide)] at H; exact H
            clear H
            have H := H1
            clear H1
            obtain rfl := Option.some.inj H
            go_wp2
            go_ret
            exact ⟨_, by first | rfl | (simp [errW_none, errW_some] <;> rfl) | (simp [bneNil, bneNilU] <;> rfl) | (simp [*, errW_none, errW_some] <;> rfl), by (with_reducible repeat (first | apply Kd.R_alloc | apply Kd.R_drewN | apply Kd.R_drew)); exact HO_7.out, by repeat (first | (with_reducible first | exact HB.out | apply below_alloc | apply pw_below_drewN | apply below_drew1 | refine below_set ?_ GE116.out) | exact HB.out)⟩

def ostinatolaw23_script.l0 : Nat → List (S51) → Int → List (S50) → Int → Int → Int → List (S85) → Option ((List (S46)))
  | 0, _, _, _, _, _, _, _ => none
  | k + 1, x1, x2, x7, x8, x125000, x125001, x125002 => if x8 < (x1.length : Int) then (if x8 < x2 then (if 0 ≤ x8 then (if x7.length < 4398046511104 then (ostinatolaw23_script.l0 k x1 x2 (x7 ++ [(⟨(rd_T51 x1 x8).f0, (rd_T51 x1 x8).f1⟩ : S50)]) (wrap64 (x8 + 1)) x125000 x125001 x125002) else (none)) else (none)) else ((ostinatoref20_Script.f k x125000 x125001 x125002 x7 x2).bind fun t129 => (some t129))) else ((ostinatoref20_Script.f k x125000 x125001 x125002 x7 x2).bind fun t132 => (some t132))
def ostinatolaw23_script.f (k : Nat) (a0_0 : Int) (a0_1 : Int) (l0_2 : List (S85)) (l1 : List (S51)) (a2 : Int) : Option ((List (S46))) := ostinatolaw23_script.l0 k l1 a2 ([] : List (S50)) 0 a0_0 a0_1 l0_2
set_option maxHeartbeats 8000000 in
set_option maxRecDepth 100000 in
theorem ostinatolaw23_script.calls (k : Nat) (a0_0 : Int) (a0_1 : Int) (A0_2 : Option Addr) (c0_2 : Nat) (l0_2 : List (S85)) (P1_ : Nat → Prop) (A1 : Option Addr) (c1 : Nat) (l1 : List (S51)) (a2 : Int) (r : List (S46)) (w : World) (hr0_2 : Kd.C k85 w A0_2 l0_2.length l0_2) (hc0_2 : l0_2.length ≤ c0_2) (hs1 : Kd.V k51 51 w w.heap.size (fun k_ => P1_ k_) (.slice A1 l1.length c1) l1) (h : ostinatolaw23_script.f k a0_0 a0_1 l0_2 l1 a2 = some r) :
    Calls Tryd.prog 6 #[.agg #[.int .i64 a0_0, .int .i64 a0_1, .slice A0_2 l0_2.length c0_2], .slice A1 l1.length c1, .int .i64 a2] w fun e w' => ∃ v0_ : Value, e = .returned (v0_) ∧ Kd.R k46 46 w' w.heap.size (fun k_ => (w.heap.size ≤ k_)) v0_ r ∧ Below w.heap.size w w' := by
  have hu31 := Tryd.underlying31
  have hu51 := Tryd.underlying51
  have HR0_2 := Aside0.mk hr0_2
  have HC0_2 := Aside0.mk hc0_2
  clear hr0_2 hc0_2
  have HO1 := Aside0.mk (show Kd.V k51 51 w w.heap.size (fun k_ => (P1_ k_ ∨ w.heap.size ≤ k_)) (.slice A1 l1.length c1) l1 from Kd.V_mono hs1 (fun k_ hk => .inl hk))
  have HB := Aside0.mk (Below.refl w.heap.size w)
  have H : (ostinatolaw23_script.l0 k l1 a2 ([] : List (S50)) 0 a0_0 a0_1 l0_2) = some r := h
  clear h
  have H' := Aside0.mk H
  clear H
  go_enter Tryd.func6, Tryd.ntmps6
  go_wp2_with (first | ((with_reducible refine gate_dst (N := 3) rfl ?_); refine box_event ?hg (N := 3) ?hd (cs := #[.int .i64 a0_0, .int .i64 a0_1, .slice A0_2 l0_2.length c0_2]) (t := 31) ?hr ?_; (case hd => rfl); (case hg => rfl); (case hr => first | (go_simp; done) | (go_simp; rfl)); intro gb124 hg w4 hbox hb; have n0_ := Aside0.mk (Kd.V_below (Kd.V_elderB (by (with_reducible repeat (first | apply Kd.V_alloc | apply Kd.V_drewN | apply Kd.V_drew)); exact HO1.out) gb124 (Nat.le_of_eq hg.symm)) hb); have n1_ := Aside0.mk (below_step (by repeat (first | (with_reducible first | exact HB.out | apply below_alloc | apply pw_below_drewN | apply below_drew1) | exact HB.out)) hb); have n2_ := Aside0.mk (hbox); have n3_ := Aside0.mk ((by rw [hg]; exact (below_size (by repeat (first | (with_reducible first | exact HB.out | apply below_alloc | apply pw_below_drewN | apply below_drew1) | exact HB.out))) : w.heap.size ≤ gb124)); have n4_ := Aside0.mk ((by rw [hg]; exact (below_size (by repeat (first | (with_reducible first | exact HB.out | apply below_alloc | apply pw_below_drewN | apply below_drew1) | exact HB.out))) : w.heap.size ≤ gb124)); clear HO1; clear HB; have HO1 := n0_; have HB := n1_; have BK124 := n2_; have GW124 := n3_; have GE124 := n4_; clear n0_ n1_ n2_ n3_ n4_; clear hb hbox hg))
  go_loopg [7, 8] k (fun kq v7 v8 w' => ∃ (x7_1 : List (S50)) (x8_1 : Int), v8 = .int .i64 x8_1 ∧ Aside0 (ostinatolaw23_script.l0 kq l1 a2 x7_1 x8_1 a0_0 a0_1 l0_2 = some r) ∧ Aside0 (kq ≤ k) ∧ Aside0 (Kd.V k51 51 w' w.heap.size (fun k_ => (P1_ k_ ∨ w.heap.size ≤ k_) ∧ some k_ ≠ (v7 : Value).ownBlock ∧ k_ ≠ gb124) (.slice A1 l1.length c1) l1) ∧ Aside0 (Kd.N k50 50 w' w.heap.size (fun k_ => (P1_ k_ ∨ w.heap.size ≤ k_) ∧ k_ ≠ gb124) v7 x7_1) ∧ Aside0 (w'.heap[gb124]? = some (.cells #[.int .i64 a0_0, .int .i64 a0_1, (.slice A0_2 l0_2.length c0_2)] 31 (0, 0))) ∧ Aside0 (Below w.heap.size w w'))
  case atStart => exact ⟨(([] : List (S50))), (0), (by first | rfl | (simp; done) | (simp [*]; done)), H', ⟨Nat.le_refl _⟩, ⟨by (with_reducible repeat (first | apply Kd.V_alloc | apply Kd.V_drewN | apply Kd.V_drew)); exact Kd.V_mono HO1.out (fun _ hk => ⟨hk.1, ⟨(by simp [Value.ownBlock]), hk.2⟩⟩)⟩, ⟨by first | exact Kd.S_nil _ _ _ _ _ | exact Kd.N_nil _ _ _ _ _ | exact Kd.V_nil _ _ _ _ _ | exact Kd.Q_nil _ _ _ _ _ | exact Kd.R_nil _ _ _ _ _⟩, ⟨by (with_reducible repeat (first | refine blk_drewN ?_ _ | refine blk_drew ?_ | refine blk_alloc ?_ _)); exact BK124.out⟩, ⟨by repeat (first | (with_reducible first | exact HB.out | apply below_alloc | apply pw_below_drewN | apply below_drew1 | refine below_set ?_ GE124.out) | exact HB.out)⟩⟩
  case round =>
    clear H'
    try clear c1
    try clear p2
    obtain ⟨x7_1, x8_1, rfl, HA, HK1, HO_1, HO_7, BK124, HB⟩ := hrel
    cases gk with
    | zero => exact absurd HA.out (by simp [ostinatolaw23_script.l0])
    | succ k1 =>
      have H := HA.out
      clear HA
      simp only [ostinatolaw23_script.l0] at H
      by_cases c5 : x8_1 < (l1.length : Int)
      · rw [if_pos c5] at H
        have c5b0 : decide (x8_1 < (l1.length : Int)) = true := decide_eq_true c5
        clear c5
        by_cases c6 : x8_1 < a2
        · rw [if_pos c6] at H
          have c6b0 : decide (x8_1 < a2) = true := decide_eq_true c6
          clear c6
          by_cases c7 : 0 ≤ x8_1
          · rw [if_pos c7] at H
            have c7b0 : decide (0 ≤ x8_1) = true := decide_eq_true c7
            clear c7
            by_cases c8 : x7_1.length < 4398046511104
            · rw [if_pos c8] at H
              have LMc8 := Aside0.mk c8
              clear c8
              obtain ⟨y126, hy126⟩ : ∃ y_ : List (S50), y_ = (x7_1 ++ [(⟨(rd_T51 l1 x8_1).f0, (rd_T51 l1 x8_1).f1⟩ : S50)]) := ⟨_, rfl⟩
              replace H : (ostinatolaw23_script.l0 k1 l1 a2 y126 (wrap64 (x8_1 + 1)) a0_0 a0_1 l0_2) = some r := by first | (rw [hy126]; with_reducible exact H) | (have H2_ := (Option.bind_some _ _).symm.trans H; rw [hy126]; with_reducible exact H2_) | (have H2_ := (Option.bind_some _ _).symm.trans H; with_reducible exact H2_) | with_reducible exact H | (rw [hy126]; exact H) | exact H
              have Ny126 := Aside0.mk hy126
              clear hy126
              have H' := Aside0.mk H
              clear H
              have p125 : 0 ≤ (x8_1 : Int) := of_decide_eq_true (by first | (with_reducible assumption) | assumption)
              have q125 : x8_1 < (l1.length : Int) := of_decide_eq_true (by first | (with_reducible assumption) | assumption)
              obtain ⟨ad125, A125_0, c125_0, e125, hx125_0, hx125_1, hl125_0, hi125_0⟩ := at_T51 (Kd.V_reads' HO_1.out).2.2 x8_1 p125 q125
              cases e125
              obtain ⟨ce125, hce125, hMe125, hcc125⟩ := Kd.V_get HO_1.out z51 x8_1 p125 (by first | exact q125 | exact of_decide_eq_true (by first | (with_reducible assumption) | assumption) | (have e_ := (Kd.V_reads' HO_1.out).1; omega))
              obtain ⟨ua125_0, uc125_0, rfl, ul125_0, ge125_0⟩ := k51_openF hMe125
              have hv125_0 := hcc125 0 _ rfl
              rw [Nat.add_zero] at hv125_0
              replace hv125_0 := Option.some.inj (hv125_0.symm.trans hx125_0)
              injection hv125_0 with hva_ hvn_ hvc_
              rw [hva_] at ge125_0
              rw [hvc_] at ul125_0
              have HL125_0 := Aside0.mk (show Kd.V (Kd.int .i64) 3 _ w.heap.size _ _ ((rd_T51 l1 x8_1).f0) from Kd.V_mk ul125_0 ge125_0)
              clear hva_ hvn_ hvc_ ge125_0 ul125_0
              clear hcc125 hce125
              have HR125_0 := Aside0.mk hi125_0
              have HC125_0 := Aside0.mk hl125_0
              clear hi125_0 hl125_0
              replace p125 := eq_true p125
              replace q125 := eq_true q125
              go_wp2_with (first | ((with_reducible refine gate_builtin (b := .append) (xs := #[.tmp 20, .tmp 25]) rfl ?_); at_builtin; refine Kd.N_append k50 (w0 := w) w.heap.size rfl (.tmp 20) (.tmp 25) 47 50 (.agg #[(.slice none 0 0), (.int .i64 0)]) 32 rfl Tryd.underlying47 info50 rfl (by decide) (by omega) u7 x7_1 (⟨(rd_T51 l1 x8_1).f0, (rd_T51 l1 x8_1).f1⟩ : S50) [.slice A125_0 ((rd_T51 l1 x8_1).f0).length c125_0, .int .i64 ((rd_T51 l1 x8_1).f1)] (fun k_ => (P1_ k_ ∨ w.heap.size ≤ k_) ∧ k_ ≠ gb124) (fun k_ => ((fun k_ => (P1_ k_ ∨ w.heap.size ≤ k_) ∧ k_ ≠ gb124)) k_ ∧ some k_ ≠ (u7 : Value).ownBlock) rfl rfl ?aP (fun _ hk => hk) ?aF ?aO ?aB ?aS ?aL ?_; (case aP => exact (k50_mkF _ _ (⟨(rd_T51 l1 x8_1).f0, (rd_T51 l1 x8_1).f1⟩ : S50) (Kd.V_reads' (Kd.V_mono (ok' := (fun k_ => ((fun k_ => (P1_ k_ ∨ w.heap.size ≤ k_) ∧ k_ ≠ gb124)) k_ ∧ some k_ ≠ (u7 : Value).ownBlock)) (HL125_0.out) (fun k_ hk => ⟨⟨hk.1, hk.2.2⟩, hk.2.1⟩))).2.1 (Kd.V_F (Kd.V_mono (ok' := (fun k_ => ((fun k_ => (P1_ k_ ∨ w.heap.size ≤ k_) ∧ k_ ≠ gb124)) k_ ∧ some k_ ≠ (u7 : Value).ownBlock)) (HL125_0.out) (fun k_ hk => ⟨⟨hk.1, hk.2.2⟩, hk.2.1⟩))))); (case aB => exact (by repeat (first | (with_reducible first | exact HB.out | apply below_alloc | apply pw_below_drewN | apply below_drew1 | refine below_set ?_ GE124.out) | exact HB.out))); (case aF => exact (fun k_ hk => ⟨(.inr (Nat.le_trans (below_size (by repeat (first | (with_reducible first | exact HB.out | apply below_alloc | apply pw_below_drewN | apply below_drew1 | refine below_set ?_ GE124.out) | exact HB.out))) hk)), Kd.freshB (g := gb124) (o := .cells #[.int .i64 a0_0, .int .i64 a0_1, .slice A0_2 l0_2.length c0_2] 31 (0, 0)) (by (with_reducible repeat (first | refine blk_drewN ?_ _ | refine blk_drew ?_ | refine blk_alloc ?_ _)); exact BK124.out) k_ hk⟩)); (case aO => exact (by (with_reducible repeat (first | apply Kd.N_alloc | apply Kd.N_drewN | apply Kd.N_drew)); exact HO_7.out)); (case aS => exact (below_size (by repeat (first | (with_reducible first | exact HB.out | apply below_alloc | apply pw_below_drewN | apply below_drew1 | refine below_set ?_ GE124.out) | exact HB.out)))); (case aL => have := LMc8.out; omega); intro v127 w9 ho hb hg hat; rw [← Ny126.out] at ho; have n0_ := Aside0.mk (Kd.V_afterv (ok := (fun k_ => (P1_ k_ ∨ w.heap.size ≤ k_) ∧ k_ ≠ gb124)) (by (with_reducible repeat (first | apply Kd.V_alloc | apply Kd.V_drewN | apply Kd.V_drew)); exact Kd.V_mono HO_1.out (fun _ hk => ⟨⟨hk.1, hk.2.2⟩, hk.2.1⟩)) hg hat); have n1_ := Aside0.mk (blk_grown (g := gb124) (o := .cells #[.int .i64 a0_0, .int .i64 a0_1, .slice A0_2 l0_2.length c0_2] 31 (0, 0)) (by (with_reducible repeat (first | refine blk_drewN ?_ _ | refine blk_drew ?_ | refine blk_alloc ?_ _)); exact BK124.out) hg (Kd.N_ne HO_7.out BK124.out (by decide))); have n2_ := Aside0.mk (Kd.V_afterv (ok := (fun k_ => (P1_ k_ ∨ w.heap.size ≤ k_) ∧ k_ ≠ gb124)) (by (with_reducible repeat (first | apply Kd.V_alloc | apply Kd.V_drewN | apply Kd.V_drew)); exact Kd.V_mono HL125_0.out (fun _ hk => ⟨⟨hk.1, hk.2.2⟩, hk.2.1⟩)) hg hat); have n3_ := Aside0.mk (hb); have n4_ := Aside0.mk (ho); clear HO_1; clear BK124; clear HL125_0; clear HB; clear HO_7; have HO_1 := n0_; have BK124 := n1_; have HL125_0 := n2_; have HB := n3_; have HO128 := n4_; clear n0_ n1_ n2_ n3_ n4_; clear ho hb hg hat))
              go_roundg k1
              case measure => have := HK1.out; omega
              case rel => exact ⟨(y126), (wrap64 (x8_1 + 1)), (by first | rfl | (simp; done) | (simp [*]; done)), H', ⟨by have := HK1.out; omega⟩, ⟨by (with_reducible repeat (first | apply Kd.V_alloc | apply Kd.V_drewN | apply Kd.V_drew)); exact Kd.V_mono HO_1.out (fun _ hk => ⟨hk.1.1, ⟨hk.2, hk.1.2⟩⟩)⟩, ⟨by (with_reducible repeat (first | apply Kd.N_alloc | apply Kd.N_drewN | apply Kd.N_drew)); exact HO128.out⟩, ⟨by (with_reducible repeat (first | refine blk_drewN ?_ _ | refine blk_drew ?_ | refine blk_alloc ?_ _)); exact BK124.out⟩, ⟨by repeat (first | (with_reducible first | exact HB.out | apply below_alloc | apply pw_below_drewN | apply below_drew1 | refine below_set ?_ GE124.out) | exact HB.out)⟩⟩
            · rw [if_neg c8] at H
              exact absurd H (by simp)
          · rw [if_neg c7] at H
            exact absurd H (by simp)
        · rw [if_neg c6] at H
          have c6b0 : decide (x8_1 < a2) = false := decide_eq_false c6
          clear c6
          replace H := Option.bind_eq_some_iff.mp H
          obtain ⟨t129, A100, H⟩ := H
          replace H : (some t129) = some r := H
          have A10 := Aside0.mk A100
          clear A100
          obtain rfl := Option.some.inj H
          have hcz11_0 : wr.cell? ⟨gb124, 0, none⟩ = some (.int .i64 a0_0) := (blk_cell BK124.out 0).trans rfl
          have hcz11_1 : wr.cell? ⟨gb124, 1, none⟩ = some (.int .i64 a0_1) := (blk_cell BK124.out 1).trans rfl
          have hcz11_2 : wr.cell? ⟨gb124, 2, none⟩ = some (.slice A0_2 l0_2.length c0_2) := (blk_cell BK124.out 2).trans rfl
          have hfz11_0 := blk_frozen BK124.out 0
          have hfz11_1 := blk_frozen BK124.out 1
          have hfz11_2 := blk_frozen BK124.out 2
          obtain ⟨Ao12, co12, eo12⟩ := Kd.N_slice HO_7.out
          subst eo12
          go_wp2_with (first | ((with_reducible refine gate_callee (f := 15) rfl ?_); refine goesL_ (some 30) rfl rfl Tryd.func15 (by kernel_rfl) rfl #[.agg #[.int .i64 a0_0, .int .i64 a0_1, .slice A0_2 l0_2.length c0_2], .slice Ao12 x7_1.length co12, .int .i64 a2] rfl (by (try simp only [List.map_toArray, List.map_cons, List.map_nil]); first | done | rfl | (simp only [List.length_drop, List.length_take]; rfl)) ?_; (with_reducible refine (ostinatoref20_Script.calls k1 a0_0 a0_1 _ _ l0_2 _ _ x7_1 a2 t129 _ ?side1 ?side2 ?side3 ?side4 A10.out).mono ?_); (case side1 => repeat (first | exact (Kd.C_below HR0_2.out HB.out) | (with_reducible refine Kd.C_alloc ?_ _) | (with_reducible refine Kd.C_drewN ?_ _) | (with_reducible refine Kd.C_drew ?_))); (case side2 => exact HC0_2.out); (case side3 => repeat (first | exact (Kd.N_reads' HO_7.out).2.2 | (with_reducible refine Kd.C_alloc ?_ _) | (with_reducible refine Kd.C_drewN ?_ _) | (with_reducible refine Kd.C_drew ?_))); (case side4 => exact (Kd.N_reads' HO_7.out).2.1); rintro e w13 ⟨v130, rfl, ho0, hb⟩; refine ⟨_, rfl, ?_⟩; have n0_ := Aside0.mk (Kd.V_elder' (by (with_reducible repeat (first | apply Kd.V_alloc | apply Kd.V_drewN | apply Kd.V_drew)); exact HO_1.out) (Kd.R_base ho0) hb); have n1_ := Aside0.mk (Kd.N_elder' (by (with_reducible repeat (first | apply Kd.N_alloc | apply Kd.N_drewN | apply Kd.N_drew)); exact HO_7.out) (Kd.R_base ho0) hb); have n2_ := Aside0.mk (Kd.R_lower (Kd.R_newM (M := fun k_ => (w.heap.size ≤ k_)) ho0 (below_size (by repeat (first | (with_reducible first | exact HB.out | apply below_alloc | apply pw_below_drewN | apply below_drew1 | refine below_set ?_ GE124.out) | exact HB.out))) (fun k_ h_ => h_)) (below_size (by repeat (first | (with_reducible first | exact HB.out | apply below_alloc | apply pw_below_drewN | apply below_drew1 | refine below_set ?_ GE124.out) | exact HB.out)))); have n3_ := Aside0.mk (blk_below (g := gb124) (o := .cells #[.int .i64 a0_0, .int .i64 a0_1, .slice A0_2 l0_2.length c0_2] 31 (0, 0)) (by (with_reducible repeat (first | refine blk_drewN ?_ _ | refine blk_drew ?_ | refine blk_alloc ?_ _)); exact BK124.out) hb); have n4_ := Aside0.mk (below_step (by repeat (first | (with_reducible first | exact HB.out | apply below_alloc | apply pw_below_drewN | apply below_drew1 | refine below_set ?_ GE124.out) | exact HB.out)) hb); clear HO_1; clear HO_7; clear BK124; clear HB; have HO_1 := n0_; have HO_7 := n1_; have HO131 := n2_; have BK124 := n3_; have HB := n4_; clear n0_ n1_ n2_ n3_ n4_; (try clear hb); (try clear hb2); (try clear hk); (try clear hi); (try clear ho0)))
          go_ret
          exact ⟨_, by first | rfl | (simp [errW_none, errW_some] <;> rfl) | (simp [bneNil, bneNilU] <;> rfl) | (simp [*, errW_none, errW_some] <;> rfl), by (with_reducible repeat (first | apply Kd.R_alloc | apply Kd.R_drewN | apply Kd.R_drew)); exact Kd.R_mono HO131.out (fun _ hk => hk.1), by repeat (first | (with_reducible first | exact HB.out | apply below_alloc | apply pw_below_drewN | apply below_drew1 | refine below_set ?_ GE124.out) | exact HB.out)⟩
      · rw [if_neg c5] at H
        have c5b0 : decide (x8_1 < (l1.length : Int)) = false := decide_eq_false c5
        clear c5
        replace H := Option.bind_eq_some_iff.mp H
        obtain ⟨t132, A140, H⟩ := H
        replace H : (some t132) = some r := H
        have A14 := Aside0.mk A140
        clear A140
        obtain rfl := Option.some.inj H
        have hcz15_0 : wr.cell? ⟨gb124, 0, none⟩ = some (.int .i64 a0_0) := (blk_cell BK124.out 0).trans rfl
        have hcz15_1 : wr.cell? ⟨gb124, 1, none⟩ = some (.int .i64 a0_1) := (blk_cell BK124.out 1).trans rfl
        have hcz15_2 : wr.cell? ⟨gb124, 2, none⟩ = some (.slice A0_2 l0_2.length c0_2) := (blk_cell BK124.out 2).trans rfl
        have hfz15_0 := blk_frozen BK124.out 0
        have hfz15_1 := blk_frozen BK124.out 1
        have hfz15_2 := blk_frozen BK124.out 2
        obtain ⟨Ao16, co16, eo16⟩ := Kd.N_slice HO_7.out
        subst eo16
        go_wp2_with (first | ((with_reducible refine gate_callee (f := 15) rfl ?_); refine goesL_ (some 30) rfl rfl Tryd.func15 (by kernel_rfl) rfl #[.agg #[.int .i64 a0_0, .int .i64 a0_1, .slice A0_2 l0_2.length c0_2], .slice Ao16 x7_1.length co16, .int .i64 a2] rfl (by (try simp only [List.map_toArray, List.map_cons, List.map_nil]); first | done | rfl | (simp only [List.length_drop, List.length_take]; rfl)) ?_; (with_reducible refine (ostinatoref20_Script.calls k1 a0_0 a0_1 _ _ l0_2 _ _ x7_1 a2 t132 _ ?side1 ?side2 ?side3 ?side4 A14.out).mono ?_); (case side1 => repeat (first | exact (Kd.C_below HR0_2.out HB.out) | (with_reducible refine Kd.C_alloc ?_ _) | (with_reducible refine Kd.C_drewN ?_ _) | (with_reducible refine Kd.C_drew ?_))); (case side2 => exact HC0_2.out); (case side3 => repeat (first | exact (Kd.N_reads' HO_7.out).2.2 | (with_reducible refine Kd.C_alloc ?_ _) | (with_reducible refine Kd.C_drewN ?_ _) | (with_reducible refine Kd.C_drew ?_))); (case side4 => exact (Kd.N_reads' HO_7.out).2.1); rintro e w17 ⟨v133, rfl, ho0, hb⟩; refine ⟨_, rfl, ?_⟩; have n0_ := Aside0.mk (Kd.V_elder' (by (with_reducible repeat (first | apply Kd.V_alloc | apply Kd.V_drewN | apply Kd.V_drew)); exact HO_1.out) (Kd.R_base ho0) hb); have n1_ := Aside0.mk (Kd.N_elder' (by (with_reducible repeat (first | apply Kd.N_alloc | apply Kd.N_drewN | apply Kd.N_drew)); exact HO_7.out) (Kd.R_base ho0) hb); have n2_ := Aside0.mk (Kd.R_lower (Kd.R_newM (M := fun k_ => (w.heap.size ≤ k_)) ho0 (below_size (by repeat (first | (with_reducible first | exact HB.out | apply below_alloc | apply pw_below_drewN | apply below_drew1 | refine below_set ?_ GE124.out) | exact HB.out))) (fun k_ h_ => h_)) (below_size (by repeat (first | (with_reducible first | exact HB.out | apply below_alloc | apply pw_below_drewN | apply below_drew1 | refine below_set ?_ GE124.out) | exact HB.out)))); have n3_ := Aside0.mk (blk_below (g := gb124) (o := .cells #[.int .i64 a0_0, .int .i64 a0_1, .slice A0_2 l0_2.length c0_2] 31 (0, 0)) (by (with_reducible repeat (first | refine blk_drewN ?_ _ | refine blk_drew ?_ | refine blk_alloc ?_ _)); exact BK124.out) hb); have n4_ := Aside0.mk (below_step (by repeat (first | (with_reducible first | exact HB.out | apply below_alloc | apply pw_below_drewN | apply below_drew1 | refine below_set ?_ GE124.out) | exact HB.out)) hb); clear HO_1; clear HO_7; clear BK124; clear HB; have HO_1 := n0_; have HO_7 := n1_; have HO134 := n2_; have BK124 := n3_; have HB := n4_; clear n0_ n1_ n2_ n3_ n4_; (try clear hb); (try clear hb2); (try clear hk); (try clear hi); (try clear ho0)))
        go_ret
        exact ⟨_, by first | rfl | (simp [errW_none, errW_some] <;> rfl) | (simp [bneNil, bneNilU] <;> rfl) | (simp [*, errW_none, errW_some] <;> rfl), by (with_reducible repeat (first | apply Kd.R_alloc | apply Kd.R_drewN | apply Kd.R_drew)); exact Kd.R_mono HO134.out (fun _ hk => hk.1), by repeat (first | (with_reducible first | exact HB.out | apply below_alloc | apply pw_below_drewN | apply below_drew1 | refine below_set ?_ GE124.out) | exact HB.out)⟩

def ostinatoref05_rest.f (a0 : Int) (a1 : Int) : Option (Int) := if a1 = 0 then (none) else (some (Int.tmod (wrap64 ((Int.tmod a0 a1) + a1)) a1))
set_option maxHeartbeats 8000000 in
set_option maxRecDepth 100000 in
theorem ostinatoref05_rest.calls (a0 : Int) (a1 : Int) (r : Int) (w : World) (h : ostinatoref05_rest.f a0 a1 = some r) :
    Calls Tryd.prog 28 #[.int .i64 a0, .int .i64 a1] w fun e w' => e = .returned (.int .i64 r) ∧ Drawn0 w w' := by
  have H : (if a1 = 0 then (none) else (some (Int.tmod (wrap64 ((Int.tmod a0 a1) + a1)) a1))) = some r := h
  clear h
  by_cases c3 : a1 = 0
  · rw [if_pos c3] at H
    exact absurd H (by simp)
  · rw [if_neg c3] at H
    have c3b0 : (a1 == 0) = false := beq_eq_false_iff_ne.mpr c3
    have c3b1 : (a1 != 0) = true := bne_iff_ne.mpr c3
    obtain rfl := Option.some.inj H
    go_enter Tryd.func28, Tryd.ntmps28
    go_wp2
    go_ret
    exact ⟨by first | rfl | (simp; done) | (simp [*]; done), by repeat (first | exact Drawn0.refl _ | apply Drawn0.step)⟩

end
end Go.Proofs.YtnejkfccdnadcaaDoor.PRunBack
end

section
namespace Go.Proofs.YtnejkfccdnadcaaDoor.PRunBack
open Go.RowKit Go.Proofs.YtnejkfccdnadcaaDoorW.PrintWords Go.Proofs.YtnejkfccdnadcaaDoorW.PrintLast Go.Proofs.YtnejkfccdnadcaaDoorW.PrintMore
attribute [local go_sem] max2_int min2_int max_two min_two max_three min_three max_four min_four   -- for this text's walks alone
set_option linter.unusedVariables false
set_option linter.unusedSimpArgs false
noncomputable section

mutual
def ostinatoref05_Num_task.l0 : Nat → Int → Int → Int → Int → Int → Int → Int → Int → Int → List Int → Int → Int → Int → Int → Int → List Int → Option (Int × Int × Int × Int × Int × List Int × List Int)
  | 0, _, _, _, _, _, _, _, _, _, _, _, _, _, _, _, _ => none
  | k + 1, x2, x10, x12, x13, x136000, x136001, x136002, x136003, x136004, x136005, x143000, x143001, x143002, x143003, x143004, x143005 => if x13 < x10 then (if 0 ≤ (IntKind.u64.wrap (x13)) then (if (Go.bits .and .i64 (shr .i64 x136004 (IntKind.u64.wrap (x13))) 1) = 1 then (if x143005.length < 17592186044416 then (ostinatoref05_Num_task.l0 k x2 x10 x13 (wrap64 (x13 + 1)) x136000 x136001 x136002 x136003 x136004 x136005 x143000 x143001 x143002 x143003 x143004 (x143005 ++ [wrap64 (x13 - x12)])) else (none)) else (ostinatoref05_Num_task.l0 k x2 x10 x12 (wrap64 (x13 + 1)) x136000 x136001 x136002 x136003 x136004 x136005 x143000 x143001 x143002 x143003 x143004 x143005)) else (none)) else (if x12 > 0 then (if x143005.length < 17592186044416 then (ostinatoref05_Num_task.j1 k x2 x136000 x136001 x136002 x136003 x136004 x136005 x143000 x143001 x143002 x143003 x143004 (x143005 ++ [wrap64 (x10 - x12)])) else (none)) else (ostinatoref05_Num_task.j1 k x2 x136000 x136001 x136002 x136003 x136004 x136005 x143000 x143001 x143002 x143003 x143004 x143005))
def ostinatoref05_Num_task.j1 : Nat → Int → Int → Int → Int → Int → Int → List Int → Int → Int → Int → Int → Int → List Int → Option (Int × Int × Int × Int × Int × List Int × List Int)
  | 0, _, _, _, _, _, _, _, _, _, _, _, _, _ => none
  | k + 1, x2, x136000, x136001, x136002, x136003, x136004, x136005, x143000, x143001, x143002, x143003, x143004, x143005 => ostinatoref05_Num_task.l1 k x2 0 x136000 x136001 x136002 x136003 x136004 x136005 x143000 x143001 x143002 x143003 x143004 x143005 ([] : List Int)
def ostinatoref05_Num_task.l1 : Nat → Int → Int → Int → Int → Int → Int → Int → List Int → Int → Int → Int → Int → Int → List Int → List Int → Option (Int × Int × Int × Int × Int × List Int × List Int)
  | 0, _, _, _, _, _, _, _, _, _, _, _, _, _, _, _ => none
  | k + 1, x2, x14, x136000, x136001, x136002, x136003, x136004, x136005, x143000, x143001, x143002, x143003, x143004, x143005, x143006 => if x14 < (x136005.length : Int) then (if x14 < 5 then (if 0 ≤ x14 then ((ostinatoref05_rest.f (rd x136005 x14) x2).bind fun t150 => (if x143006.length < 17592186044416 then (ostinatoref05_Num_task.l1 k x2 (wrap64 (x14 + 1)) x136000 x136001 x136002 x136003 x136004 x136005 x143000 x143001 x143002 x143003 x143004 x143005 (x143006 ++ [t150])) else (none))) else (none)) else (some (x143000, x143001, x143002, x143003, x143004, x143005, x143006))) else (some (x143000, x143001, x143002, x143003, x143004, x143005, x143006))
end
def ostinatoref05_Num_task.f (k : Nat) (a0_0 : Int) (a0_1 : Int) (a0_2 : Int) (a0_3 : Int) (a0_4 : Int) (l0_5 : List Int) (a1 : Int) (a2 : Int) : Option (Int × Int × Int × Int × Int × List Int × List Int) := if 0 ≤ (Go.bits .and .i64 a0_2 7) then (if (Go.bits .and .i64 a0_2 7) < 8 then ((ostinatoref05_rest.f a0_1 (rd [4, 5, 6, 8, 10, 12, 20, 24] (Go.bits .and .i64 a0_2 7))).bind fun t139 => ((ostinatoref05_rest.f a0_0 (wrap64 (1 + t139))).bind fun t140 => ((ostinatoref05_rest.f a0_3 9).bind fun t141 => (ostinatoref05_Num_task.l0 k a2 (wrap64 (1 + t140)) 0 1 a0_0 a0_1 a0_2 a0_3 a0_4 l0_5 (wrap64 (a1 + 1)) (wrap64 (1 + t140)) (wrap64 (1 + t139)) (rd [4, 5, 6, 8, 10, 12, 20, 24] (Go.bits .and .i64 a0_2 7)) (wrap64 ((wrap64 (10 * (wrap64 (1 + t141)))) + a1)) ([] : List Int))))) else (none)) else (none)
def ostinatoref05_Num_task.T18 : Bool × List (List Nat × List Nat) := (true, [([], []), ([0], [0]), ([], []), ([2], [2]), ([], []), ([3, 4], [3, 4]), ([5], [5]), ([], []), ([6, 7], [6, 7]), ([8], [8]), ([1, 9, 8], [1, 9]), ([0, 1, 2, 3, 4, 5, 6, 7, 8, 9, 10], []), ([11, 10, 10, 0, 1, 2, 3, 4, 5, 6, 7, 8, 9, 10], [10, 11])])
def ostinatoref05_Num_task.B18 : List Nat := [0, 1, 0, 4, 0, 28, 60, 0, 252, 508, 1023, 2047, 4095]
theorem ostinatoref05_Num_task.tab18 : rtab .any (opsOf Tryd.f29 18) = ostinatoref05_Num_task.T18 := by kernel_rfl
theorem ostinatoref05_Num_task.bits18 : waitsOk ostinatoref05_Num_task.T18.2 ostinatoref05_Num_task.B18 = true := by kernel_rfl
set_option maxHeartbeats 8000000 in
set_option maxRecDepth 100000 in
theorem ostinatoref05_Num_task.calls (k : Nat) (a0_0 : Int) (a0_1 : Int) (a0_2 : Int) (a0_3 : Int) (a0_4 : Int) (A0_5 : Option Addr) (c0_5 : Nat) (l0_5 : List Int) (a1 : Int) (a2 : Int) (r1 : Int) (r2 : Int) (r3 : Int) (r4 : Int) (r5 : Int) (r6 : List Int) (r7 : List Int) (w : World) (hr0_5 : Kd.C (Kd.int .i64) w A0_5 l0_5.length l0_5) (hc0_5 : l0_5.length ≤ c0_5) (h : ostinatoref05_Num_task.f k a0_0 a0_1 a0_2 a0_3 a0_4 l0_5 a1 a2 = some (r1, r2, r3, r4, r5, r6, r7)) :
    Calls Tryd.prog 29 #[.agg #[.int .i64 a0_0, .int .i64 a0_1, .int .i64 a0_2, .int .i64 a0_3, .int .i64 a0_4, .slice A0_5 l0_5.length c0_5], .int .i64 a1, .int .i64 a2] w fun e w' => ∃ v5_ v6_ : Value, e = .returned (.agg #[.int .i64 r1, .int .i64 r2, .int .i64 r3, .int .i64 r4, .int .i64 r5, v5_, v6_]) ∧ Kd.R (Kd.int .i64) 2 w' w.heap.size (fun _ => True) v5_ r6 ∧ Kd.R (Kd.int .i64) 3 w' w.heap.size (fun _ => True) v6_ r7 ∧ Below w.heap.size w w' := by
  have hu57 := Tryd.underlying57
  have hu85 := Tryd.underlying85
  have hu101 := Tryd.underlying101
  have HR0_5 := Aside0.mk hr0_5
  have HC0_5 := Aside0.mk hc0_5
  clear hr0_5 hc0_5
  have HB := Aside0.mk (Below.refl w.heap.size w)
  have H : (if 0 ≤ (Go.bits .and .i64 a0_2 7) then (if (Go.bits .and .i64 a0_2 7) < 8 then ((ostinatoref05_rest.f a0_1 (rd [4, 5, 6, 8, 10, 12, 20, 24] (Go.bits .and .i64 a0_2 7))).bind fun t139 => ((ostinatoref05_rest.f a0_0 (wrap64 (1 + t139))).bind fun t140 => ((ostinatoref05_rest.f a0_3 9).bind fun t141 => (ostinatoref05_Num_task.l0 k a2 (wrap64 (1 + t140)) 0 1 a0_0 a0_1 a0_2 a0_3 a0_4 l0_5 (wrap64 (a1 + 1)) (wrap64 (1 + t140)) (wrap64 (1 + t139)) (rd [4, 5, 6, 8, 10, 12, 20, 24] (Go.bits .and .i64 a0_2 7)) (wrap64 ((wrap64 (10 * (wrap64 (1 + t141)))) + a1)) ([] : List Int))))) else (none)) else (none)) = some (r1, r2, r3, r4, r5, r6, r7) := h
  clear h
  by_cases c4 : 0 ≤ (Go.bits .and .i64 a0_2 7)
  · rw [if_pos c4] at H
    have c4b0 : decide (0 ≤ (Go.bits .and .i64 a0_2 7)) = true := decide_eq_true c4
    clear c4
    by_cases c5 : (Go.bits .and .i64 a0_2 7) < 8
    · rw [if_pos c5] at H
      have c5b0 : decide ((Go.bits .and .i64 a0_2 7) < 8) = true := decide_eq_true c5
      clear c5
      replace H := Option.bind_eq_some_iff.mp H
      obtain ⟨t139, A60, H⟩ := H
      replace H : ((ostinatoref05_rest.f a0_0 (wrap64 (1 + t139))).bind fun t140 => ((ostinatoref05_rest.f a0_3 9).bind fun t141 => (ostinatoref05_Num_task.l0 k a2 (wrap64 (1 + t140)) 0 1 a0_0 a0_1 a0_2 a0_3 a0_4 l0_5 (wrap64 (a1 + 1)) (wrap64 (1 + t140)) (wrap64 (1 + t139)) (rd [4, 5, 6, 8, 10, 12, 20, 24] (Go.bits .and .i64 a0_2 7)) (wrap64 ((wrap64 (10 * (wrap64 (1 + t141)))) + a1)) ([] : List Int)))) = some (r1, r2, r3, r4, r5, r6, r7) := H
      have A6 := Aside0.mk A60
      clear A60
      replace H := Option.bind_eq_some_iff.mp H
      obtain ⟨t140, A70, H⟩ := H
      replace H : ((ostinatoref05_rest.f a0_3 9).bind fun t141 => (ostinatoref05_Num_task.l0 k a2 (wrap64 (1 + t140)) 0 1 a0_0 a0_1 a0_2 a0_3 a0_4 l0_5 (wrap64 (a1 + 1)) (wrap64 (1 + t140)) (wrap64 (1 + t139)) (rd [4, 5, 6, 8, 10, 12, 20, 24] (Go.bits .and .i64 a0_2 7)) (wrap64 ((wrap64 (10 * (wrap64 (1 + t141)))) + a1)) ([] : List Int))) = some (r1, r2, r3, r4, r5, r6, r7) := H
      have A7 := Aside0.mk A70
      clear A70
      replace H := Option.bind_eq_some_iff.mp H
      obtain ⟨t141, A80, H⟩ := H
      replace H : (ostinatoref05_Num_task.l0 k a2 (wrap64 (1 + t140)) 0 1 a0_0 a0_1 a0_2 a0_3 a0_4 l0_5 (wrap64 (a1 + 1)) (wrap64 (1 + t140)) (wrap64 (1 + t139)) (rd [4, 5, 6, 8, 10, 12, 20, 24] (Go.bits .and .i64 a0_2 7)) (wrap64 ((wrap64 (10 * (wrap64 (1 + t141)))) + a1)) ([] : List Int)) = some (r1, r2, r3, r4, r5, r6, r7) := H
      have A8 := Aside0.mk A80
      clear A80
      have H' := Aside0.mk H
      clear H
      go_enter Tryd.func29, Tryd.ntmps29
      go_wp2_with (first | ((with_reducible refine gate_dst (N := 3) rfl ?_); refine box_event ?hg (N := 3) ?hd (cs := #[.int .i64 a0_0, .int .i64 a0_1, .int .i64 a0_2, .int .i64 a0_3, .int .i64 a0_4, .slice A0_5 l0_5.length c0_5]) (t := 57) ?hr ?_; (case hd => rfl); (case hg => rfl); (case hr => first | (go_simp; done) | (go_simp; rfl)); intro gb135 hg w9 hbox hb; have n0_ := Aside0.mk (below_step (by repeat (first | (with_reducible first | exact HB.out | apply below_alloc | apply pw_below_drewN | apply below_drew1) | exact HB.out)) hb); have n1_ := Aside0.mk (hbox); have n2_ := Aside0.mk ((by rw [hg]; exact (below_size (by repeat (first | (with_reducible first | exact HB.out | apply below_alloc | apply pw_below_drewN | apply below_drew1) | exact HB.out))) : w.heap.size ≤ gb135)); have n3_ := Aside0.mk ((by rw [hg]; exact (below_size (by repeat (first | (with_reducible first | exact HB.out | apply below_alloc | apply pw_below_drewN | apply below_drew1) | exact HB.out))) : w.heap.size ≤ gb135)); clear HB; have HB := n0_; have BK135 := n1_; have GW135 := n2_; have GE135 := n3_; clear n0_ n1_ n2_ n3_; clear hb hbox hg) | ((with_reducible refine gate_dst (N := 6) rfl ?_); refine box_event ?hg (N := 6) ?hd (cs := #[.int .i64 0, .int .i64 0, .int .i64 0, .int .i64 0, .int .i64 0, .slice none 0 0, .slice none 0 0]) (t := 85) ?hr ?_; (case hd => rfl); (case hg => rfl); (case hr => first | (go_simp; done) | (go_simp; rfl)); intro gb136 hg w10 hbox hb; have n0_ := Aside0.mk (blk_below (g := gb135) (o := .cells #[.int .i64 a0_0, .int .i64 a0_1, .int .i64 a0_2, .int .i64 a0_3, .int .i64 a0_4, .slice A0_5 l0_5.length c0_5] 57 (0, 0)) (by (with_reducible repeat (first | refine blk_drewN ?_ _ | refine blk_drew ?_ | refine blk_alloc ?_ _)); exact BK135.out) hb); have n1_ := Aside0.mk (below_step (by repeat (first | (with_reducible first | exact HB.out | apply below_alloc | apply pw_below_drewN | apply below_drew1 | refine below_set ?_ GE135.out) | exact HB.out)) hb); have n2_ := Aside0.mk (hbox); have n3_ := Aside0.mk ((by rw [hg]; exact (below_size (by repeat (first | (with_reducible first | exact HB.out | apply below_alloc | apply pw_below_drewN | apply below_drew1 | refine below_set ?_ GE135.out) | exact HB.out))) : w.heap.size ≤ gb136)); have n4_ := Aside0.mk ((by rw [hg]; exact (below_size (by repeat (first | (with_reducible first | exact HB.out | apply below_alloc | apply pw_below_drewN | apply below_drew1 | refine below_set ?_ GE135.out) | exact HB.out))) : w.heap.size ≤ gb136)); have n5_ := Aside0.mk ((by rw [hg]; exact Nat.ne_of_lt (blk_lt (g := gb135) (o := .cells #[.int .i64 a0_0, .int .i64 a0_1, .int .i64 a0_2, .int .i64 a0_3, .int .i64 a0_4, .slice A0_5 l0_5.length c0_5] 57 (0, 0)) (by (with_reducible repeat (first | refine blk_drewN ?_ _ | refine blk_drew ?_ | refine blk_alloc ?_ _)); exact BK135.out)) : gb135 ≠ gb136)); have n6_ := Aside0.mk ((by rw [hg]; exact Nat.ne_of_gt (blk_lt (g := gb135) (o := .cells #[.int .i64 a0_0, .int .i64 a0_1, .int .i64 a0_2, .int .i64 a0_3, .int .i64 a0_4, .slice A0_5 l0_5.length c0_5] 57 (0, 0)) (by (with_reducible repeat (first | refine blk_drewN ?_ _ | refine blk_drew ?_ | refine blk_alloc ?_ _)); exact BK135.out)) : gb136 ≠ gb135)); clear BK135; clear HB; have BK135 := n0_; have HB := n1_; have BK136 := n2_; have GW136 := n3_; have GE136 := n4_; have NB135_136 := n5_; have NB136_135 := n6_; clear n0_ n1_ n2_ n3_ n4_ n5_ n6_; clear hb hbox hg) | ((with_reducible refine gate_dst (N := 7) rfl ?_); refine box_event ?hg (N := 7) ?hd (cs := #[.int .i64 0, .int .i64 0, .int .i64 0, .int .i64 0, .int .i64 0, .int .i64 0, .int .i64 0, .int .i64 0]) (t := 101) ?hr ?_; (case hd => rfl); (case hg => rfl); (case hr => first | (go_simp; done) | (go_simp; rfl)); intro gb137 hg w11 hbox hb; have n0_ := Aside0.mk (blk_below (g := gb135) (o := .cells #[.int .i64 a0_0, .int .i64 a0_1, .int .i64 a0_2, .int .i64 a0_3, .int .i64 a0_4, .slice A0_5 l0_5.length c0_5] 57 (0, 0)) (by (with_reducible repeat (first | refine blk_drewN ?_ _ | refine blk_drew ?_ | refine blk_alloc ?_ _)); exact BK135.out) hb); have n1_ := Aside0.mk (blk_below (g := gb136) (o := .cells #[.int .i64 0, .int .i64 0, .int .i64 0, .int .i64 0, .int .i64 0, .slice none 0 0, .slice none 0 0] 85 (0, 0)) (by (with_reducible repeat (first | refine blk_drewN ?_ _ | refine blk_drew ?_ | refine blk_alloc ?_ _)); exact BK136.out) hb); have n2_ := Aside0.mk (below_step (by repeat (first | (with_reducible first | exact HB.out | apply below_alloc | apply pw_below_drewN | apply below_drew1 | refine below_set ?_ GE135.out | refine below_set ?_ GE136.out) | exact HB.out)) hb); have n3_ := Aside0.mk (hbox); have n4_ := Aside0.mk ((by rw [hg]; exact (below_size (by repeat (first | (with_reducible first | exact HB.out | apply below_alloc | apply pw_below_drewN | apply below_drew1 | refine below_set ?_ GE135.out | refine below_set ?_ GE136.out) | exact HB.out))) : w.heap.size ≤ gb137)); have n5_ := Aside0.mk ((by rw [hg]; exact (below_size (by repeat (first | (with_reducible first | exact HB.out | apply below_alloc | apply pw_below_drewN | apply below_drew1 | refine below_set ?_ GE135.out | refine below_set ?_ GE136.out) | exact HB.out))) : w.heap.size ≤ gb137)); have n6_ := Aside0.mk ((by rw [hg]; exact Nat.ne_of_lt (blk_lt (g := gb135) (o := .cells #[.int .i64 a0_0, .int .i64 a0_1, .int .i64 a0_2, .int .i64 a0_3, .int .i64 a0_4, .slice A0_5 l0_5.length c0_5] 57 (0, 0)) (by (with_reducible repeat (first | refine blk_drewN ?_ _ | refine blk_drew ?_ | refine blk_alloc ?_ _)); exact BK135.out)) : gb135 ≠ gb137)); have n7_ := Aside0.mk ((by rw [hg]; exact Nat.ne_of_gt (blk_lt (g := gb135) (o := .cells #[.int .i64 a0_0, .int .i64 a0_1, .int .i64 a0_2, .int .i64 a0_3, .int .i64 a0_4, .slice A0_5 l0_5.length c0_5] 57 (0, 0)) (by (with_reducible repeat (first | refine blk_drewN ?_ _ | refine blk_drew ?_ | refine blk_alloc ?_ _)); exact BK135.out)) : gb137 ≠ gb135)); have n8_ := Aside0.mk ((by rw [hg]; exact Nat.ne_of_lt (blk_lt (g := gb136) (o := .cells #[.int .i64 0, .int .i64 0, .int .i64 0, .int .i64 0, .int .i64 0, .slice none 0 0, .slice none 0 0] 85 (0, 0)) (by (with_reducible repeat (first | refine blk_drewN ?_ _ | refine blk_drew ?_ | refine blk_alloc ?_ _)); exact BK136.out)) : gb136 ≠ gb137)); have n9_ := Aside0.mk ((by rw [hg]; exact Nat.ne_of_gt (blk_lt (g := gb136) (o := .cells #[.int .i64 0, .int .i64 0, .int .i64 0, .int .i64 0, .int .i64 0, .slice none 0 0, .slice none 0 0] 85 (0, 0)) (by (with_reducible repeat (first | refine blk_drewN ?_ _ | refine blk_drew ?_ | refine blk_alloc ?_ _)); exact BK136.out)) : gb137 ≠ gb136)); clear BK135; clear BK136; clear HB; have BK135 := n0_; have BK136 := n1_; have HB := n2_; have BK137 := n3_; have GW137 := n4_; have GE137 := n5_; have NB135_137 := n6_; have NB137_135 := n7_; have NB136_137 := n8_; have NB137_136 := n9_; clear n0_ n1_ n2_ n3_ n4_ n5_ n6_ n7_ n8_ n9_; clear hb hbox hg; have hnb12 := NB137_135.out; have hnc12 := NB135_137.out; have hnb13 := NB137_136.out; have hnc13 := NB136_137.out; have hcz14_0 : w11.cell? ⟨gb137, 0, none⟩ = some (.int .i64 0) := (blk_cell BK137.out 0).trans rfl; have hcz14_1 : w11.cell? ⟨gb137, 1, none⟩ = some (.int .i64 0) := (blk_cell BK137.out 1).trans rfl; have hcz14_2 : w11.cell? ⟨gb137, 2, none⟩ = some (.int .i64 0) := (blk_cell BK137.out 2).trans rfl; have hcz14_3 : w11.cell? ⟨gb137, 3, none⟩ = some (.int .i64 0) := (blk_cell BK137.out 3).trans rfl; have hcz14_4 : w11.cell? ⟨gb137, 4, none⟩ = some (.int .i64 0) := (blk_cell BK137.out 4).trans rfl; have hcz14_5 : w11.cell? ⟨gb137, 5, none⟩ = some (.int .i64 0) := (blk_cell BK137.out 5).trans rfl; have hcz14_6 : w11.cell? ⟨gb137, 6, none⟩ = some (.int .i64 0) := (blk_cell BK137.out 6).trans rfl; have hcz14_7 : w11.cell? ⟨gb137, 7, none⟩ = some (.int .i64 0) := (blk_cell BK137.out 7).trans rfl; have hfz14_0 := blk_frozen BK137.out 0; have hfz14_1 := blk_frozen BK137.out 1; have hfz14_2 := blk_frozen BK137.out 2; have hfz14_3 := blk_frozen BK137.out 3; have hfz14_4 := blk_frozen BK137.out 4; have hfz14_5 := blk_frozen BK137.out 5; have hfz14_6 := blk_frozen BK137.out 6; have hfz14_7 := blk_frozen BK137.out 7) | ((with_reducible refine gate_store (t := 101) (p := 7) rfl ?_); refine store_event (t := 101) (p := 7) (v := ?vo_w15) (w1 := ((((((((w11.setCell ⟨gb137, 0, none⟩ (.int .i64 4)).setCell ⟨gb137, 1, none⟩ (.int .i64 5)).setCell ⟨gb137, 2, none⟩ (.int .i64 6)).setCell ⟨gb137, 3, none⟩ (.int .i64 8)).setCell ⟨gb137, 4, none⟩ (.int .i64 10)).setCell ⟨gb137, 5, none⟩ (.int .i64 12)).setCell ⟨gb137, 6, none⟩ (.int .i64 20)).setCell ⟨gb137, 7, none⟩ (.int .i64 24))) ?hg ?ho ?hn ?hr ?_; (case ho => rfl); (case hg => rfl); (case hn => rfl); (case hr => first | (go_simp; done) | (go_simp; rfl)); intro w15 hw; have n0_ : Aside0 (w15.heap[gb135]? = some (.cells #[.int .i64 a0_0, .int .i64 a0_1, .int .i64 a0_2, .int .i64 a0_3, .int .i64 a0_4, .slice A0_5 l0_5.length c0_5] 57 (0, 0))) := ⟨(by rw [hw]; exact (by (with_reducible repeat (first | refine blk_drewN ?_ _ | refine blk_drew ?_ | refine blk_alloc ?_ _)); refine blk_far ?_ NB135_137.out _; (with_reducible repeat (first | refine blk_drewN ?_ _ | refine blk_drew ?_ | refine blk_alloc ?_ _)); refine blk_far ?_ NB135_137.out _; (with_reducible repeat (first | refine blk_drewN ?_ _ | refine blk_drew ?_ | refine blk_alloc ?_ _)); refine blk_far ?_ NB135_137.out _; (with_reducible repeat (first | refine blk_drewN ?_ _ | refine blk_drew ?_ | refine blk_alloc ?_ _)); refine blk_far ?_ NB135_137.out _; (with_reducible repeat (first | refine blk_drewN ?_ _ | refine blk_drew ?_ | refine blk_alloc ?_ _)); refine blk_far ?_ NB135_137.out _; (with_reducible repeat (first | refine blk_drewN ?_ _ | refine blk_drew ?_ | refine blk_alloc ?_ _)); refine blk_far ?_ NB135_137.out _; (with_reducible repeat (first | refine blk_drewN ?_ _ | refine blk_drew ?_ | refine blk_alloc ?_ _)); refine blk_far ?_ NB135_137.out _; (with_reducible repeat (first | refine blk_drewN ?_ _ | refine blk_drew ?_ | refine blk_alloc ?_ _)); refine blk_far ?_ NB135_137.out _; (with_reducible repeat (first | refine blk_drewN ?_ _ | refine blk_drew ?_ | refine blk_alloc ?_ _)); exact BK135.out))⟩; have n1_ : Aside0 (w15.heap[gb136]? = some (.cells #[.int .i64 0, .int .i64 0, .int .i64 0, .int .i64 0, .int .i64 0, .slice none 0 0, .slice none 0 0] 85 (0, 0))) := ⟨(by rw [hw]; exact (by (with_reducible repeat (first | refine blk_drewN ?_ _ | refine blk_drew ?_ | refine blk_alloc ?_ _)); refine blk_far ?_ NB136_137.out _; (with_reducible repeat (first | refine blk_drewN ?_ _ | refine blk_drew ?_ | refine blk_alloc ?_ _)); refine blk_far ?_ NB136_137.out _; (with_reducible repeat (first | refine blk_drewN ?_ _ | refine blk_drew ?_ | refine blk_alloc ?_ _)); refine blk_far ?_ NB136_137.out _; (with_reducible repeat (first | refine blk_drewN ?_ _ | refine blk_drew ?_ | refine blk_alloc ?_ _)); refine blk_far ?_ NB136_137.out _; (with_reducible repeat (first | refine blk_drewN ?_ _ | refine blk_drew ?_ | refine blk_alloc ?_ _)); refine blk_far ?_ NB136_137.out _; (with_reducible repeat (first | refine blk_drewN ?_ _ | refine blk_drew ?_ | refine blk_alloc ?_ _)); refine blk_far ?_ NB136_137.out _; (with_reducible repeat (first | refine blk_drewN ?_ _ | refine blk_drew ?_ | refine blk_alloc ?_ _)); refine blk_far ?_ NB136_137.out _; (with_reducible repeat (first | refine blk_drewN ?_ _ | refine blk_drew ?_ | refine blk_alloc ?_ _)); refine blk_far ?_ NB136_137.out _; (with_reducible repeat (first | refine blk_drewN ?_ _ | refine blk_drew ?_ | refine blk_alloc ?_ _)); exact BK136.out))⟩; have n2_ : Aside0 (w15.heap[gb137]? = some (.cells #[.int .i64 4, .int .i64 5, .int .i64 6, .int .i64 8, .int .i64 10, .int .i64 12, .int .i64 20, .int .i64 24] 101 (0, 0))) := ⟨(by rw [hw]; exact (by (with_reducible repeat (first | refine blk_drewN ?_ _ | refine blk_drew ?_ | refine blk_alloc ?_ _)); refine blk_put (cs := #[.int .i64 4, .int .i64 5, .int .i64 6, .int .i64 8, .int .i64 10, .int .i64 12, .int .i64 20, .int .i64 0]) ?_ 7 _ rfl; (with_reducible repeat (first | refine blk_drewN ?_ _ | refine blk_drew ?_ | refine blk_alloc ?_ _)); refine blk_put (cs := #[.int .i64 4, .int .i64 5, .int .i64 6, .int .i64 8, .int .i64 10, .int .i64 12, .int .i64 0, .int .i64 0]) ?_ 6 _ rfl; (with_reducible repeat (first | refine blk_drewN ?_ _ | refine blk_drew ?_ | refine blk_alloc ?_ _)); refine blk_put (cs := #[.int .i64 4, .int .i64 5, .int .i64 6, .int .i64 8, .int .i64 10, .int .i64 0, .int .i64 0, .int .i64 0]) ?_ 5 _ rfl; (with_reducible repeat (first | refine blk_drewN ?_ _ | refine blk_drew ?_ | refine blk_alloc ?_ _)); refine blk_put (cs := #[.int .i64 4, .int .i64 5, .int .i64 6, .int .i64 8, .int .i64 0, .int .i64 0, .int .i64 0, .int .i64 0]) ?_ 4 _ rfl; (with_reducible repeat (first | refine blk_drewN ?_ _ | refine blk_drew ?_ | refine blk_alloc ?_ _)); refine blk_put (cs := #[.int .i64 4, .int .i64 5, .int .i64 6, .int .i64 0, .int .i64 0, .int .i64 0, .int .i64 0, .int .i64 0]) ?_ 3 _ rfl; (with_reducible repeat (first | refine blk_drewN ?_ _ | refine blk_drew ?_ | refine blk_alloc ?_ _)); refine blk_put (cs := #[.int .i64 4, .int .i64 5, .int .i64 0, .int .i64 0, .int .i64 0, .int .i64 0, .int .i64 0, .int .i64 0]) ?_ 2 _ rfl; (with_reducible repeat (first | refine blk_drewN ?_ _ | refine blk_drew ?_ | refine blk_alloc ?_ _)); refine blk_put (cs := #[.int .i64 4, .int .i64 0, .int .i64 0, .int .i64 0, .int .i64 0, .int .i64 0, .int .i64 0, .int .i64 0]) ?_ 1 _ rfl; (with_reducible repeat (first | refine blk_drewN ?_ _ | refine blk_drew ?_ | refine blk_alloc ?_ _)); refine blk_put (cs := #[.int .i64 0, .int .i64 0, .int .i64 0, .int .i64 0, .int .i64 0, .int .i64 0, .int .i64 0, .int .i64 0]) ?_ 0 _ rfl; (with_reducible repeat (first | refine blk_drewN ?_ _ | refine blk_drew ?_ | refine blk_alloc ?_ _)); exact BK137.out))⟩; have n3_ : Aside0 (Below w.heap.size w w15) := ⟨(by rw [hw]; exact (by repeat (first | (with_reducible first | exact HB.out | apply below_alloc | apply pw_below_drewN | apply below_drew1 | refine below_set ?_ GE135.out | refine below_set ?_ GE136.out | refine below_set ?_ GE137.out) | exact HB.out)))⟩; clear hw; clear BK135; clear BK136; clear BK137; clear HB; have BK135 := n0_; have BK136 := n1_; have BK137 := n2_; have HB := n3_; clear n0_ n1_ n2_ n3_; have hnb16 := NB135_136.out; have hnc16 := NB136_135.out; have hcz17_0 : w15.cell? ⟨gb135, 0, none⟩ = some (.int .i64 a0_0) := (blk_cell BK135.out 0).trans rfl; have hcz17_1 : w15.cell? ⟨gb135, 1, none⟩ = some (.int .i64 a0_1) := (blk_cell BK135.out 1).trans rfl; have hcz17_2 : w15.cell? ⟨gb135, 2, none⟩ = some (.int .i64 a0_2) := (blk_cell BK135.out 2).trans rfl; have hcz17_3 : w15.cell? ⟨gb135, 3, none⟩ = some (.int .i64 a0_3) := (blk_cell BK135.out 3).trans rfl; have hcz17_4 : w15.cell? ⟨gb135, 4, none⟩ = some (.int .i64 a0_4) := (blk_cell BK135.out 4).trans rfl; have hcz17_5 : w15.cell? ⟨gb135, 5, none⟩ = some (.slice A0_5 l0_5.length c0_5) := (blk_cell BK135.out 5).trans rfl; have hfz17_0 := blk_frozen BK135.out 0; have hfz17_1 := blk_frozen BK135.out 1; have hfz17_2 := blk_frozen BK135.out 2; have hfz17_3 := blk_frozen BK135.out 3; have hfz17_4 := blk_frozen BK135.out 4; have hfz17_5 := blk_frozen BK135.out 5; have hcz18_0 : w15.cell? ⟨gb137, 0, none⟩ = some (.int .i64 4) := (blk_cell BK137.out 0).trans rfl; have hcz18_1 : w15.cell? ⟨gb137, 1, none⟩ = some (.int .i64 5) := (blk_cell BK137.out 1).trans rfl; have hcz18_2 : w15.cell? ⟨gb137, 2, none⟩ = some (.int .i64 6) := (blk_cell BK137.out 2).trans rfl; have hcz18_3 : w15.cell? ⟨gb137, 3, none⟩ = some (.int .i64 8) := (blk_cell BK137.out 3).trans rfl; have hcz18_4 : w15.cell? ⟨gb137, 4, none⟩ = some (.int .i64 10) := (blk_cell BK137.out 4).trans rfl; have hcz18_5 : w15.cell? ⟨gb137, 5, none⟩ = some (.int .i64 12) := (blk_cell BK137.out 5).trans rfl; have hcz18_6 : w15.cell? ⟨gb137, 6, none⟩ = some (.int .i64 20) := (blk_cell BK137.out 6).trans rfl; have hcz18_7 : w15.cell? ⟨gb137, 7, none⟩ = some (.int .i64 24) := (blk_cell BK137.out 7).trans rfl; have hfz18_0 := blk_frozen BK137.out 0; have hfz18_1 := blk_frozen BK137.out 1; have hfz18_2 := blk_frozen BK137.out 2; have hfz18_3 := blk_frozen BK137.out 3; have hfz18_4 := blk_frozen BK137.out 4; have hfz18_5 := blk_frozen BK137.out 5; have hfz18_6 := blk_frozen BK137.out 6; have hfz18_7 := blk_frozen BK137.out 7; have p138 : 0 ≤ (Go.bits .and .i64 a0_2 7 : Int) := of_decide_eq_true (by first | (with_reducible assumption) | assumption); have q138 : (Go.bits .and .i64 a0_2 7) < (8 : Int) := of_decide_eq_true (by first | (with_reducible assumption) | assumption); have hx138 : w15.cell? ⟨gb137, (Go.bits .and .i64 a0_2 7).toNat, none⟩ = some (.int .i64 (rd [4, 5, 6, 8, 10, 12, 20, 24] (Go.bits .and .i64 a0_2 7))) := arrRead (xs := [4, 5, 6, 8, 10, 12, 20, 24]) BK137.out (Go.bits .and .i64 a0_2 7) p138 q138; replace p138 := eq_true p138; replace q138 := eq_true q138) | ((with_reducible refine gate_callee (f := 28) rfl ?_); refine goesL_ (some 24) rfl rfl Tryd.func28 (by kernel_rfl) rfl #[.int .i64 a0_1, .int .i64 (rd [4, 5, 6, 8, 10, 12, 20, 24] (Go.bits .and .i64 a0_2 7))] rfl (by (try simp only [List.map_toArray, List.map_cons, List.map_nil]); first | done | rfl | (simp only [List.length_drop, List.length_take]; rfl)) ?_; (with_reducible refine (ostinatoref05_rest.calls a0_1 (rd [4, 5, 6, 8, 10, 12, 20, 24] (Go.bits .and .i64 a0_2 7)) t139 _ A6.out).mono ?_); rintro e w' ⟨rfl, ⟨nd, rfl⟩⟩; refine ⟨_, rfl, ?_⟩; (try (rw [drewN_self w15]; generalize hq_ : World.drewN w15 _ = w15; have n0_ : Aside0 (w15.heap[gb135]? = some (.cells #[.int .i64 a0_0, .int .i64 a0_1, .int .i64 a0_2, .int .i64 a0_3, .int .i64 a0_4, .slice A0_5 l0_5.length c0_5] 57 (0, 0))) := ⟨by rw [← hq_]; exact (by (with_reducible repeat (first | refine blk_drewN ?_ _ | refine blk_drew ?_ | refine blk_alloc ?_ _)); exact BK135.out)⟩; have n1_ : Aside0 (w15.heap[gb136]? = some (.cells #[.int .i64 0, .int .i64 0, .int .i64 0, .int .i64 0, .int .i64 0, .slice none 0 0, .slice none 0 0] 85 (0, 0))) := ⟨by rw [← hq_]; exact (by (with_reducible repeat (first | refine blk_drewN ?_ _ | refine blk_drew ?_ | refine blk_alloc ?_ _)); exact BK136.out)⟩; have n2_ : Aside0 (w15.heap[gb137]? = some (.cells #[.int .i64 4, .int .i64 5, .int .i64 6, .int .i64 8, .int .i64 10, .int .i64 12, .int .i64 20, .int .i64 24] 101 (0, 0))) := ⟨by rw [← hq_]; exact (by (with_reducible repeat (first | refine blk_drewN ?_ _ | refine blk_drew ?_ | refine blk_alloc ?_ _)); exact BK137.out)⟩; have n3_ : Aside0 (Below w.heap.size w w15) := ⟨by rw [← hq_]; exact (by repeat (first | (with_reducible first | exact HB.out | apply below_alloc | apply pw_below_drewN | apply below_drew1 | refine below_set ?_ GE135.out | refine below_set ?_ GE136.out | refine below_set ?_ GE137.out) | exact HB.out))⟩; clear BK135 BK136 BK137 HB hq_; have BK135 := n0_; have BK136 := n1_; have BK137 := n2_; have HB := n3_; clear n0_ n1_ n2_ n3_)); have hcz19_0 : w15.cell? ⟨gb135, 0, none⟩ = some (.int .i64 a0_0) := (blk_cell BK135.out 0).trans rfl; have hcz19_1 : w15.cell? ⟨gb135, 1, none⟩ = some (.int .i64 a0_1) := (blk_cell BK135.out 1).trans rfl; have hcz19_2 : w15.cell? ⟨gb135, 2, none⟩ = some (.int .i64 a0_2) := (blk_cell BK135.out 2).trans rfl; have hcz19_3 : w15.cell? ⟨gb135, 3, none⟩ = some (.int .i64 a0_3) := (blk_cell BK135.out 3).trans rfl; have hcz19_4 : w15.cell? ⟨gb135, 4, none⟩ = some (.int .i64 a0_4) := (blk_cell BK135.out 4).trans rfl; have hcz19_5 : w15.cell? ⟨gb135, 5, none⟩ = some (.slice A0_5 l0_5.length c0_5) := (blk_cell BK135.out 5).trans rfl; have hfz19_0 := blk_frozen BK135.out 0; have hfz19_1 := blk_frozen BK135.out 1; have hfz19_2 := blk_frozen BK135.out 2; have hfz19_3 := blk_frozen BK135.out 3; have hfz19_4 := blk_frozen BK135.out 4; have hfz19_5 := blk_frozen BK135.out 5) | ((with_reducible refine gate_callee (f := 28) rfl ?_); refine goesL_ (some 29) rfl rfl Tryd.func28 (by kernel_rfl) rfl #[.int .i64 a0_0, .int .i64 (wrap64 (1 + t139))] rfl (by (try simp only [List.map_toArray, List.map_cons, List.map_nil]); first | done | rfl | (simp only [List.length_drop, List.length_take]; rfl)) ?_; (with_reducible refine (ostinatoref05_rest.calls a0_0 (wrap64 (1 + t139)) t140 _ A7.out).mono ?_); rintro e w' ⟨rfl, ⟨nd, rfl⟩⟩; refine ⟨_, rfl, ?_⟩; (try (rw [drewN_self w15]; generalize hq_ : World.drewN w15 _ = w15; have n0_ : Aside0 (w15.heap[gb135]? = some (.cells #[.int .i64 a0_0, .int .i64 a0_1, .int .i64 a0_2, .int .i64 a0_3, .int .i64 a0_4, .slice A0_5 l0_5.length c0_5] 57 (0, 0))) := ⟨by rw [← hq_]; exact (by (with_reducible repeat (first | refine blk_drewN ?_ _ | refine blk_drew ?_ | refine blk_alloc ?_ _)); exact BK135.out)⟩; have n1_ : Aside0 (w15.heap[gb136]? = some (.cells #[.int .i64 0, .int .i64 0, .int .i64 0, .int .i64 0, .int .i64 0, .slice none 0 0, .slice none 0 0] 85 (0, 0))) := ⟨by rw [← hq_]; exact (by (with_reducible repeat (first | refine blk_drewN ?_ _ | refine blk_drew ?_ | refine blk_alloc ?_ _)); exact BK136.out)⟩; have n2_ : Aside0 (w15.heap[gb137]? = some (.cells #[.int .i64 4, .int .i64 5, .int .i64 6, .int .i64 8, .int .i64 10, .int .i64 12, .int .i64 20, .int .i64 24] 101 (0, 0))) := ⟨by rw [← hq_]; exact (by (with_reducible repeat (first | refine blk_drewN ?_ _ | refine blk_drew ?_ | refine blk_alloc ?_ _)); exact BK137.out)⟩; have n3_ : Aside0 (Below w.heap.size w w15) := ⟨by rw [← hq_]; exact (by repeat (first | (with_reducible first | exact HB.out | apply below_alloc | apply pw_below_drewN | apply below_drew1 | refine below_set ?_ GE135.out | refine below_set ?_ GE136.out | refine below_set ?_ GE137.out) | exact HB.out))⟩; clear BK135 BK136 BK137 HB hq_; have BK135 := n0_; have BK136 := n1_; have BK137 := n2_; have HB := n3_; clear n0_ n1_ n2_ n3_)); have hcz20_0 : w15.cell? ⟨gb135, 0, none⟩ = some (.int .i64 a0_0) := (blk_cell BK135.out 0).trans rfl; have hcz20_1 : w15.cell? ⟨gb135, 1, none⟩ = some (.int .i64 a0_1) := (blk_cell BK135.out 1).trans rfl; have hcz20_2 : w15.cell? ⟨gb135, 2, none⟩ = some (.int .i64 a0_2) := (blk_cell BK135.out 2).trans rfl; have hcz20_3 : w15.cell? ⟨gb135, 3, none⟩ = some (.int .i64 a0_3) := (blk_cell BK135.out 3).trans rfl; have hcz20_4 : w15.cell? ⟨gb135, 4, none⟩ = some (.int .i64 a0_4) := (blk_cell BK135.out 4).trans rfl; have hcz20_5 : w15.cell? ⟨gb135, 5, none⟩ = some (.slice A0_5 l0_5.length c0_5) := (blk_cell BK135.out 5).trans rfl; have hfz20_0 := blk_frozen BK135.out 0; have hfz20_1 := blk_frozen BK135.out 1; have hfz20_2 := blk_frozen BK135.out 2; have hfz20_3 := blk_frozen BK135.out 3; have hfz20_4 := blk_frozen BK135.out 4; have hfz20_5 := blk_frozen BK135.out 5) | ((with_reducible refine gate_callee (f := 28) rfl ?_); refine goesL_ (some 38) rfl rfl Tryd.func28 (by kernel_rfl) rfl #[.int .i64 a0_3, .int .i64 9] rfl (by (try simp only [List.map_toArray, List.map_cons, List.map_nil]); first | done | rfl | (simp only [List.length_drop, List.length_take]; rfl)) ?_; (with_reducible refine (ostinatoref05_rest.calls a0_3 9 t141 _ A8.out).mono ?_); rintro e w' ⟨rfl, ⟨nd, rfl⟩⟩; refine ⟨_, rfl, ?_⟩; (try (rw [drewN_self w15]; generalize hq_ : World.drewN w15 _ = w15; have n0_ : Aside0 (w15.heap[gb135]? = some (.cells #[.int .i64 a0_0, .int .i64 a0_1, .int .i64 a0_2, .int .i64 a0_3, .int .i64 a0_4, .slice A0_5 l0_5.length c0_5] 57 (0, 0))) := ⟨by rw [← hq_]; exact (by (with_reducible repeat (first | refine blk_drewN ?_ _ | refine blk_drew ?_ | refine blk_alloc ?_ _)); exact BK135.out)⟩; have n1_ : Aside0 (w15.heap[gb136]? = some (.cells #[.int .i64 0, .int .i64 0, .int .i64 0, .int .i64 0, .int .i64 0, .slice none 0 0, .slice none 0 0] 85 (0, 0))) := ⟨by rw [← hq_]; exact (by (with_reducible repeat (first | refine blk_drewN ?_ _ | refine blk_drew ?_ | refine blk_alloc ?_ _)); exact BK136.out)⟩; have n2_ : Aside0 (w15.heap[gb137]? = some (.cells #[.int .i64 4, .int .i64 5, .int .i64 6, .int .i64 8, .int .i64 10, .int .i64 12, .int .i64 20, .int .i64 24] 101 (0, 0))) := ⟨by rw [← hq_]; exact (by (with_reducible repeat (first | refine blk_drewN ?_ _ | refine blk_drew ?_ | refine blk_alloc ?_ _)); exact BK137.out)⟩; have n3_ : Aside0 (Below w.heap.size w w15) := ⟨by rw [← hq_]; exact (by repeat (first | (with_reducible first | exact HB.out | apply below_alloc | apply pw_below_drewN | apply below_drew1 | refine below_set ?_ GE135.out | refine below_set ?_ GE136.out | refine below_set ?_ GE137.out) | exact HB.out))⟩; clear BK135 BK136 BK137 HB hq_; have BK135 := n0_; have BK136 := n1_; have BK137 := n2_; have HB := n3_; clear n0_ n1_ n2_ n3_))) | ((with_reducible refine gate_dst (N := 11) rfl ?_); refine box_event ?hg (N := 11) ?hd (cs := #[.int .i64 0, .int .i64 0, .int .i64 0, .int .i64 0, .int .i64 0, .slice none 0 0, .slice none 0 0]) (t := 85) ?hr ?_; (case hd => rfl); (case hg => rfl); (case hr => first | (go_simp; done) | (go_simp; rfl)); intro gb142 hg w21 hbox hb; have n0_ := Aside0.mk (blk_below (g := gb135) (o := .cells #[.int .i64 a0_0, .int .i64 a0_1, .int .i64 a0_2, .int .i64 a0_3, .int .i64 a0_4, .slice A0_5 l0_5.length c0_5] 57 (0, 0)) (by (with_reducible repeat (first | refine blk_drewN ?_ _ | refine blk_drew ?_ | refine blk_alloc ?_ _)); exact BK135.out) hb); have n1_ := Aside0.mk (blk_below (g := gb136) (o := .cells #[.int .i64 0, .int .i64 0, .int .i64 0, .int .i64 0, .int .i64 0, .slice none 0 0, .slice none 0 0] 85 (0, 0)) (by (with_reducible repeat (first | refine blk_drewN ?_ _ | refine blk_drew ?_ | refine blk_alloc ?_ _)); exact BK136.out) hb); have n2_ := Aside0.mk (blk_below (g := gb137) (o := .cells #[.int .i64 4, .int .i64 5, .int .i64 6, .int .i64 8, .int .i64 10, .int .i64 12, .int .i64 20, .int .i64 24] 101 (0, 0)) (by (with_reducible repeat (first | refine blk_drewN ?_ _ | refine blk_drew ?_ | refine blk_alloc ?_ _)); exact BK137.out) hb); have n3_ := Aside0.mk (below_step (by repeat (first | (with_reducible first | exact HB.out | apply below_alloc | apply pw_below_drewN | apply below_drew1 | refine below_set ?_ GE135.out | refine below_set ?_ GE136.out | refine below_set ?_ GE137.out) | exact HB.out)) hb); have n4_ := Aside0.mk (hbox); have n5_ := Aside0.mk ((by rw [hg]; exact (below_size (by repeat (first | (with_reducible first | exact HB.out | apply below_alloc | apply pw_below_drewN | apply below_drew1 | refine below_set ?_ GE135.out | refine below_set ?_ GE136.out | refine below_set ?_ GE137.out) | exact HB.out))) : w.heap.size ≤ gb142)); have n6_ := Aside0.mk ((by rw [hg]; exact (below_size (by repeat (first | (with_reducible first | exact HB.out | apply below_alloc | apply pw_below_drewN | apply below_drew1 | refine below_set ?_ GE135.out | refine below_set ?_ GE136.out | refine below_set ?_ GE137.out) | exact HB.out))) : w.heap.size ≤ gb142)); have n7_ := Aside0.mk ((by rw [hg]; exact Nat.ne_of_lt (blk_lt (g := gb135) (o := .cells #[.int .i64 a0_0, .int .i64 a0_1, .int .i64 a0_2, .int .i64 a0_3, .int .i64 a0_4, .slice A0_5 l0_5.length c0_5] 57 (0, 0)) (by (with_reducible repeat (first | refine blk_drewN ?_ _ | refine blk_drew ?_ | refine blk_alloc ?_ _)); exact BK135.out)) : gb135 ≠ gb142)); have n8_ := Aside0.mk ((by rw [hg]; exact Nat.ne_of_gt (blk_lt (g := gb135) (o := .cells #[.int .i64 a0_0, .int .i64 a0_1, .int .i64 a0_2, .int .i64 a0_3, .int .i64 a0_4, .slice A0_5 l0_5.length c0_5] 57 (0, 0)) (by (with_reducible repeat (first | refine blk_drewN ?_ _ | refine blk_drew ?_ | refine blk_alloc ?_ _)); exact BK135.out)) : gb142 ≠ gb135)); have n9_ := Aside0.mk ((by rw [hg]; exact Nat.ne_of_lt (blk_lt (g := gb136) (o := .cells #[.int .i64 0, .int .i64 0, .int .i64 0, .int .i64 0, .int .i64 0, .slice none 0 0, .slice none 0 0] 85 (0, 0)) (by (with_reducible repeat (first | refine blk_drewN ?_ _ | refine blk_drew ?_ | refine blk_alloc ?_ _)); exact BK136.out)) : gb136 ≠ gb142)); have n10_ := Aside0.mk ((by rw [hg]; exact Nat.ne_of_gt (blk_lt (g := gb136) (o := .cells #[.int .i64 0, .int .i64 0, .int .i64 0, .int .i64 0, .int .i64 0, .slice none 0 0, .slice none 0 0] 85 (0, 0)) (by (with_reducible repeat (first | refine blk_drewN ?_ _ | refine blk_drew ?_ | refine blk_alloc ?_ _)); exact BK136.out)) : gb142 ≠ gb136)); have n11_ := Aside0.mk ((by rw [hg]; exact Nat.ne_of_lt (blk_lt (g := gb137) (o := .cells #[.int .i64 4, .int .i64 5, .int .i64 6, .int .i64 8, .int .i64 10, .int .i64 12, .int .i64 20, .int .i64 24] 101 (0, 0)) (by (with_reducible repeat (first | refine blk_drewN ?_ _ | refine blk_drew ?_ | refine blk_alloc ?_ _)); exact BK137.out)) : gb137 ≠ gb142)); have n12_ := Aside0.mk ((by rw [hg]; exact Nat.ne_of_gt (blk_lt (g := gb137) (o := .cells #[.int .i64 4, .int .i64 5, .int .i64 6, .int .i64 8, .int .i64 10, .int .i64 12, .int .i64 20, .int .i64 24] 101 (0, 0)) (by (with_reducible repeat (first | refine blk_drewN ?_ _ | refine blk_drew ?_ | refine blk_alloc ?_ _)); exact BK137.out)) : gb142 ≠ gb137)); clear BK135; clear BK136; clear BK137; clear HB; have BK135 := n0_; have BK136 := n1_; have BK137 := n2_; have HB := n3_; have BK142 := n4_; have GW142 := n5_; have GE142 := n6_; have NB135_142 := n7_; have NB142_135 := n8_; have NB136_142 := n9_; have NB142_136 := n10_; have NB137_142 := n11_; have NB142_137 := n12_; clear n0_ n1_ n2_ n3_ n4_ n5_ n6_ n7_ n8_ n9_ n10_ n11_ n12_; clear hb hbox hg; have hnb22 := NB142_135.out; have hnc22 := NB135_142.out; have hnb23 := NB142_136.out; have hnc23 := NB136_142.out; have hnb24 := NB142_137.out; have hnc24 := NB137_142.out; have hcz25_0 : w21.cell? ⟨gb142, 0, none⟩ = some (.int .i64 0) := (blk_cell BK142.out 0).trans rfl; have hcz25_1 : w21.cell? ⟨gb142, 1, none⟩ = some (.int .i64 0) := (blk_cell BK142.out 1).trans rfl; have hcz25_2 : w21.cell? ⟨gb142, 2, none⟩ = some (.int .i64 0) := (blk_cell BK142.out 2).trans rfl; have hcz25_3 : w21.cell? ⟨gb142, 3, none⟩ = some (.int .i64 0) := (blk_cell BK142.out 3).trans rfl; have hcz25_4 : w21.cell? ⟨gb142, 4, none⟩ = some (.int .i64 0) := (blk_cell BK142.out 4).trans rfl; have hcz25_5 : w21.cell? ⟨gb142, 5, none⟩ = some (.slice none 0 0) := (blk_cell BK142.out 5).trans rfl; have hcz25_6 : w21.cell? ⟨gb142, 6, none⟩ = some (.slice none 0 0) := (blk_cell BK142.out 6).trans rfl; have hfz25_0 := blk_frozen BK142.out 0; have hfz25_1 := blk_frozen BK142.out 1; have hfz25_2 := blk_frozen BK142.out 2; have hfz25_3 := blk_frozen BK142.out 3; have hfz25_4 := blk_frozen BK142.out 4; have hfz25_5 := blk_frozen BK142.out 5; have hfz25_6 := blk_frozen BK142.out 6))
      go_loopg [12, 13] k (fun kq v12 v13 w' => ∃ (x12_1 : Int) (x13_1 : Int) (x143005_1 : List Int) (u143005 : Value), v12 = .int .i64 x12_1 ∧ v13 = .int .i64 x13_1 ∧ Aside0 (ostinatoref05_Num_task.l0 kq a2 (wrap64 (1 + t140)) x12_1 x13_1 a0_0 a0_1 a0_2 a0_3 a0_4 l0_5 (wrap64 (a1 + 1)) (wrap64 (1 + t140)) (wrap64 (1 + t139)) (rd [4, 5, 6, 8, 10, 12, 20, 24] (Go.bits .and .i64 a0_2 7)) (wrap64 ((wrap64 (10 * (wrap64 (1 + t141)))) + a1)) x143005_1 = some (r1, r2, r3, r4, r5, r6, r7)) ∧ Aside0 (kq ≤ k) ∧ Aside0 (Kd.R (Kd.int .i64) 2 w' w.heap.size (fun _ => True) u143005 x143005_1) ∧ Aside0 (w'.heap[gb135]? = some (.cells #[.int .i64 a0_0, .int .i64 a0_1, .int .i64 a0_2, .int .i64 a0_3, .int .i64 a0_4, (.slice A0_5 l0_5.length c0_5)] 57 (0, 0))) ∧ Aside0 (w'.heap[gb136]? = some (.cells #[.int .i64 0, .int .i64 0, .int .i64 0, .int .i64 0, .int .i64 0, (.slice none 0 0), (.slice none 0 0)] 85 (0, 0))) ∧ Aside0 (w'.heap[gb137]? = some (.cells #[.int .i64 4, .int .i64 5, .int .i64 6, .int .i64 8, .int .i64 10, .int .i64 12, .int .i64 20, .int .i64 24] 101 (0, 0))) ∧ Aside0 (w'.heap[gb142]? = some (.cells #[.int .i64 (wrap64 (a1 + 1)), .int .i64 (wrap64 (1 + t140)), .int .i64 (wrap64 (1 + t139)), .int .i64 (rd [4, 5, 6, 8, 10, 12, 20, 24] (Go.bits .and .i64 a0_2 7)), .int .i64 (wrap64 ((wrap64 (10 * (wrap64 (1 + t141)))) + a1)), u143005, (.slice none 0 0)] 85 (0, 0))) ∧ Aside0 (Below w.heap.size w w'))
      case atStart => exact ⟨(0), (1), (([] : List Int)), (.slice none 0 0), (by first | rfl | (simp; done) | (simp [*]; done)), (by first | rfl | (simp; done) | (simp [*]; done)), H', ⟨Nat.le_refl _⟩, ⟨by first | exact Kd.R_nil _ _ _ _ _ | exact Kd.N_nil _ _ _ _ _ | exact Kd.V_nil _ _ _ _ _ | exact Kd.Q_nil _ _ _ _ _ | exact Kd.S_nil _ _ _ _ _⟩, ⟨by (with_reducible repeat (first | refine blk_drewN ?_ _ | refine blk_drew ?_ | refine blk_alloc ?_ _)); refine blk_far ?_ NB135_142.out _; (with_reducible repeat (first | refine blk_drewN ?_ _ | refine blk_drew ?_ | refine blk_alloc ?_ _)); refine blk_far ?_ NB135_142.out _; (with_reducible repeat (first | refine blk_drewN ?_ _ | refine blk_drew ?_ | refine blk_alloc ?_ _)); refine blk_far ?_ NB135_142.out _; (with_reducible repeat (first | refine blk_drewN ?_ _ | refine blk_drew ?_ | refine blk_alloc ?_ _)); refine blk_far ?_ NB135_142.out _; (with_reducible repeat (first | refine blk_drewN ?_ _ | refine blk_drew ?_ | refine blk_alloc ?_ _)); refine blk_far ?_ NB135_142.out _; (with_reducible repeat (first | refine blk_drewN ?_ _ | refine blk_drew ?_ | refine blk_alloc ?_ _)); refine blk_far ?_ NB135_142.out _; (with_reducible repeat (first | refine blk_drewN ?_ _ | refine blk_drew ?_ | refine blk_alloc ?_ _)); refine blk_far ?_ NB135_142.out _; (with_reducible repeat (first | refine blk_drewN ?_ _ | refine blk_drew ?_ | refine blk_alloc ?_ _)); exact BK135.out⟩, ⟨by (with_reducible repeat (first | refine blk_drewN ?_ _ | refine blk_drew ?_ | refine blk_alloc ?_ _)); refine blk_far ?_ NB136_142.out _; (with_reducible repeat (first | refine blk_drewN ?_ _ | refine blk_drew ?_ | refine blk_alloc ?_ _)); refine blk_far ?_ NB136_142.out _; (with_reducible repeat (first | refine blk_drewN ?_ _ | refine blk_drew ?_ | refine blk_alloc ?_ _)); refine blk_far ?_ NB136_142.out _; (with_reducible repeat (first | refine blk_drewN ?_ _ | refine blk_drew ?_ | refine blk_alloc ?_ _)); refine blk_far ?_ NB136_142.out _; (with_reducible repeat (first | refine blk_drewN ?_ _ | refine blk_drew ?_ | refine blk_alloc ?_ _)); refine blk_far ?_ NB136_142.out _; (with_reducible repeat (first | refine blk_drewN ?_ _ | refine blk_drew ?_ | refine blk_alloc ?_ _)); refine blk_far ?_ NB136_142.out _; (with_reducible repeat (first | refine blk_drewN ?_ _ | refine blk_drew ?_ | refine blk_alloc ?_ _)); refine blk_far ?_ NB136_142.out _; (with_reducible repeat (first | refine blk_drewN ?_ _ | refine blk_drew ?_ | refine blk_alloc ?_ _)); exact BK136.out⟩, ⟨by (with_reducible repeat (first | refine blk_drewN ?_ _ | refine blk_drew ?_ | refine blk_alloc ?_ _)); refine blk_far ?_ NB137_142.out _; (with_reducible repeat (first | refine blk_drewN ?_ _ | refine blk_drew ?_ | refine blk_alloc ?_ _)); refine blk_far ?_ NB137_142.out _; (with_reducible repeat (first | refine blk_drewN ?_ _ | refine blk_drew ?_ | refine blk_alloc ?_ _)); refine blk_far ?_ NB137_142.out _; (with_reducible repeat (first | refine blk_drewN ?_ _ | refine blk_drew ?_ | refine blk_alloc ?_ _)); refine blk_far ?_ NB137_142.out _; (with_reducible repeat (first | refine blk_drewN ?_ _ | refine blk_drew ?_ | refine blk_alloc ?_ _)); refine blk_far ?_ NB137_142.out _; (with_reducible repeat (first | refine blk_drewN ?_ _ | refine blk_drew ?_ | refine blk_alloc ?_ _)); refine blk_far ?_ NB137_142.out _; (with_reducible repeat (first | refine blk_drewN ?_ _ | refine blk_drew ?_ | refine blk_alloc ?_ _)); refine blk_far ?_ NB137_142.out _; (with_reducible repeat (first | refine blk_drewN ?_ _ | refine blk_drew ?_ | refine blk_alloc ?_ _)); exact BK137.out⟩, ⟨by (with_reducible repeat (first | refine blk_drewN ?_ _ | refine blk_drew ?_ | refine blk_alloc ?_ _)); refine blk_put (cs := #[.int .i64 (wrap64 (a1 + 1)), .int .i64 (wrap64 (1 + t140)), .int .i64 (wrap64 (1 + t139)), .int .i64 (rd [4, 5, 6, 8, 10, 12, 20, 24] (Go.bits .and .i64 a0_2 7)), .int .i64 (wrap64 ((wrap64 (10 * (wrap64 (1 + t141)))) + a1)), .slice none 0 0, .slice none 0 0]) ?_ 6 _ rfl; (with_reducible repeat (first | refine blk_drewN ?_ _ | refine blk_drew ?_ | refine blk_alloc ?_ _)); refine blk_put (cs := #[.int .i64 (wrap64 (a1 + 1)), .int .i64 (wrap64 (1 + t140)), .int .i64 (wrap64 (1 + t139)), .int .i64 (rd [4, 5, 6, 8, 10, 12, 20, 24] (Go.bits .and .i64 a0_2 7)), .int .i64 (wrap64 ((wrap64 (10 * (wrap64 (1 + t141)))) + a1)), .slice none 0 0, .slice none 0 0]) ?_ 5 _ rfl; (with_reducible repeat (first | refine blk_drewN ?_ _ | refine blk_drew ?_ | refine blk_alloc ?_ _)); refine blk_put (cs := #[.int .i64 (wrap64 (a1 + 1)), .int .i64 (wrap64 (1 + t140)), .int .i64 (wrap64 (1 + t139)), .int .i64 (rd [4, 5, 6, 8, 10, 12, 20, 24] (Go.bits .and .i64 a0_2 7)), .int .i64 0, .slice none 0 0, .slice none 0 0]) ?_ 4 _ rfl; (with_reducible repeat (first | refine blk_drewN ?_ _ | refine blk_drew ?_ | refine blk_alloc ?_ _)); refine blk_put (cs := #[.int .i64 (wrap64 (a1 + 1)), .int .i64 (wrap64 (1 + t140)), .int .i64 (wrap64 (1 + t139)), .int .i64 0, .int .i64 0, .slice none 0 0, .slice none 0 0]) ?_ 3 _ rfl; (with_reducible repeat (first | refine blk_drewN ?_ _ | refine blk_drew ?_ | refine blk_alloc ?_ _)); refine blk_put (cs := #[.int .i64 (wrap64 (a1 + 1)), .int .i64 (wrap64 (1 + t140)), .int .i64 0, .int .i64 0, .int .i64 0, .slice none 0 0, .slice none 0 0]) ?_ 2 _ rfl; (with_reducible repeat (first | refine blk_drewN ?_ _ | refine blk_drew ?_ | refine blk_alloc ?_ _)); refine blk_put (cs := #[.int .i64 (wrap64 (a1 + 1)), .int .i64 0, .int .i64 0, .int .i64 0, .int .i64 0, .slice none 0 0, .slice none 0 0]) ?_ 1 _ rfl; (with_reducible repeat (first | refine blk_drewN ?_ _ | refine blk_drew ?_ | refine blk_alloc ?_ _)); refine blk_put (cs := #[.int .i64 0, .int .i64 0, .int .i64 0, .int .i64 0, .int .i64 0, .slice none 0 0, .slice none 0 0]) ?_ 0 _ rfl; (with_reducible repeat (first | refine blk_drewN ?_ _ | refine blk_drew ?_ | refine blk_alloc ?_ _)); exact BK142.out⟩, ⟨by repeat (first | (with_reducible first | exact HB.out | apply below_alloc | apply pw_below_drewN | apply below_drew1 | refine below_set ?_ GE135.out | refine below_set ?_ GE136.out | refine below_set ?_ GE137.out | refine below_set ?_ GE142.out) | exact HB.out)⟩⟩
      case round =>
        clear H'
        try clear c1
        try clear p1
        try clear q1
        try clear hx1
        try clear c2
        try clear p2
        try clear c4
        try clear c4b0
        try clear c5
        try clear c5b0
        try clear p6
        try clear c12
        try clear c13
        try clear p13
        try clear q13
        try clear hx13
        try clear c16
        try clear c22
        try clear c23
        try clear c24
        try clear hcz14_0
        try clear hcz14_1
        try clear hcz14_2
        try clear hcz14_3
        try clear hcz14_4
        try clear hcz14_5
        try clear hcz14_6
        try clear hcz14_7
        try clear hcz17_0
        try clear hcz17_1
        try clear hcz17_2
        try clear hcz17_3
        try clear hcz17_4
        try clear hcz17_5
        try clear hcz18_0
        try clear hcz18_1
        try clear hcz18_2
        try clear hcz18_3
        try clear hcz18_4
        try clear hcz18_5
        try clear hcz18_6
        try clear hcz18_7
        try clear hcz19_0
        try clear hcz19_1
        try clear hcz19_2
        try clear hcz19_3
        try clear hcz19_4
        try clear hcz19_5
        try clear hcz20_0
        try clear hcz20_1
        try clear hcz20_2
        try clear hcz20_3
        try clear hcz20_4
        try clear hcz20_5
        try clear hcz25_0
        try clear hcz25_1
        try clear hcz25_2
        try clear hcz25_3
        try clear hcz25_4
        try clear hcz25_5
        try clear hcz25_6
        try clear hfz14_0
        try clear hfz14_1
        try clear hfz14_2
        try clear hfz14_3
        try clear hfz14_4
        try clear hfz14_5
        try clear hfz14_6
        try clear hfz14_7
        try clear hfz17_0
        try clear hfz17_1
        try clear hfz17_2
        try clear hfz17_3
        try clear hfz17_4
        try clear hfz17_5
        try clear hfz18_0
        try clear hfz18_1
        try clear hfz18_2
        try clear hfz18_3
        try clear hfz18_4
        try clear hfz18_5
        try clear hfz18_6
        try clear hfz18_7
        try clear hfz19_0
        try clear hfz19_1
        try clear hfz19_2
        try clear hfz19_3
        try clear hfz19_4
        try clear hfz19_5
        try clear hfz20_0
        try clear hfz20_1
        try clear hfz20_2
        try clear hfz20_3
        try clear hfz20_4
        try clear hfz20_5
        try clear hfz25_0
        try clear hfz25_1
        try clear hfz25_2
        try clear hfz25_3
        try clear hfz25_4
        try clear hfz25_5
        try clear hfz25_6
        try clear p138
        try clear q138
        obtain ⟨x12_1, x13_1, x143005_1, u143005, rfl, rfl, HA, HK1, HO_143005, BK135, BK136, BK137, BK142, HB⟩ := hrel
        cases gk with
        | zero => exact absurd HA.out (by simp [ostinatoref05_Num_task.l0])
        | succ k1 =>
          have H := HA.out
          clear HA
          simp only [ostinatoref05_Num_task.l0] at H
          by_cases c26 : x13_1 < (wrap64 (1 + t140))
          · rw [if_pos c26] at H
            have c26b0 : decide (x13_1 < (wrap64 (1 + t140))) = true := decide_eq_true c26
            clear c26
            obtain ⟨ji27, hji27⟩ : ∃ j_ : Int, (IntKind.u64.wrap (x13_1)) = j_ := ⟨_, rfl⟩
            replace H : (if 0 ≤ (ji27) then (if (Go.bits .and .i64 (shr .i64 a0_4 (ji27)) 1) = 1 then (if x143005_1.length < 17592186044416 then (ostinatoref05_Num_task.l0 k1 a2 (wrap64 (1 + t140)) x13_1 (wrap64 (x13_1 + 1)) a0_0 a0_1 a0_2 a0_3 a0_4 l0_5 (wrap64 (a1 + 1)) (wrap64 (1 + t140)) (wrap64 (1 + t139)) (rd [4, 5, 6, 8, 10, 12, 20, 24] (Go.bits .and .i64 a0_2 7)) (wrap64 ((wrap64 (10 * (wrap64 (1 + t141)))) + a1)) (x143005_1 ++ [wrap64 (x13_1 - x12_1)])) else (none)) else (ostinatoref05_Num_task.l0 k1 a2 (wrap64 (1 + t140)) x12_1 (wrap64 (x13_1 + 1)) a0_0 a0_1 a0_2 a0_3 a0_4 l0_5 (wrap64 (a1 + 1)) (wrap64 (1 + t140)) (wrap64 (1 + t139)) (rd [4, 5, 6, 8, 10, 12, 20, 24] (Go.bits .and .i64 a0_2 7)) (wrap64 ((wrap64 (10 * (wrap64 (1 + t141)))) + a1)) x143005_1)) else (none)) = some (r1, r2, r3, r4, r5, r6, r7) := by first | (rw [hji27] at H; exact H) | (simp only [hji27] at H ⊢; exact H)
            by_cases c28 : 0 ≤ (ji27)
            · rw [if_pos c28] at H
              have c28b0 := eq_true c28
              have c28b1 : decide (0 ≤ (ji27)) = true := decide_eq_true c28
              clear c28
              obtain ⟨ji29, hji29⟩ : ∃ j_ : Int, (shr .i64 a0_4 (ji27)) = j_ := ⟨_, rfl⟩
              replace H : (if (Go.bits .and .i64 (ji29) 1) = 1 then (if x143005_1.length < 17592186044416 then (ostinatoref05_Num_task.l0 k1 a2 (wrap64 (1 + t140)) x13_1 (wrap64 (x13_1 + 1)) a0_0 a0_1 a0_2 a0_3 a0_4 l0_5 (wrap64 (a1 + 1)) (wrap64 (1 + t140)) (wrap64 (1 + t139)) (rd [4, 5, 6, 8, 10, 12, 20, 24] (Go.bits .and .i64 a0_2 7)) (wrap64 ((wrap64 (10 * (wrap64 (1 + t141)))) + a1)) (x143005_1 ++ [wrap64 (x13_1 - x12_1)])) else (none)) else (ostinatoref05_Num_task.l0 k1 a2 (wrap64 (1 + t140)) x12_1 (wrap64 (x13_1 + 1)) a0_0 a0_1 a0_2 a0_3 a0_4 l0_5 (wrap64 (a1 + 1)) (wrap64 (1 + t140)) (wrap64 (1 + t139)) (rd [4, 5, 6, 8, 10, 12, 20, 24] (Go.bits .and .i64 a0_2 7)) (wrap64 ((wrap64 (10 * (wrap64 (1 + t141)))) + a1)) x143005_1)) = some (r1, r2, r3, r4, r5, r6, r7) := by first | (rw [hji29] at H; exact H) | (simp only [hji29] at H ⊢; exact H)
              have hji29_ : (a0_4 / 2 ^ min (ji27).toNat 64) = ji29 := hji29
              have hji29z : (ji27) ≤ 64 → (a0_4 / 2 ^ (ji27).toNat) = ji29 := shr_small hji29
              by_cases c30 : (Go.bits .and .i64 (ji29) 1) = 1
              · rw [if_pos c30] at H
                have c30b0 : ((Go.bits .and .i64 (ji29) 1) == 1) = true := beq_iff_eq.mpr c30
                have c30b1 : ((Go.bits .and .i64 (ji29) 1) != 1) = false := bne_eq_false_iff_eq.mpr c30
                clear c30
                by_cases c31 : x143005_1.length < 17592186044416
                · rw [if_pos c31] at H
                  have LMc31 := Aside0.mk c31
                  clear c31
                  obtain ⟨y143, hy143⟩ : ∃ y_ : List Int, y_ = (x143005_1 ++ [wrap64 (x13_1 - x12_1)]) := ⟨_, rfl⟩
                  replace H : (ostinatoref05_Num_task.l0 k1 a2 (wrap64 (1 + t140)) x13_1 (wrap64 (x13_1 + 1)) a0_0 a0_1 a0_2 a0_3 a0_4 l0_5 (wrap64 (a1 + 1)) (wrap64 (1 + t140)) (wrap64 (1 + t139)) (rd [4, 5, 6, 8, 10, 12, 20, 24] (Go.bits .and .i64 a0_2 7)) (wrap64 ((wrap64 (10 * (wrap64 (1 + t141)))) + a1)) y143) = some (r1, r2, r3, r4, r5, r6, r7) := by first | (rw [hy143]; with_reducible exact H) | (have H2_ := (Option.bind_some _ _).symm.trans H; rw [hy143]; with_reducible exact H2_) | (have H2_ := (Option.bind_some _ _).symm.trans H; with_reducible exact H2_) | with_reducible exact H | (rw [hy143]; exact H) | exact H
                  have Ny143 := Aside0.mk hy143
                  clear hy143
                  have H' := Aside0.mk H
                  clear H
                  have hnb32 := NB135_136.out
                  have hnc32 := NB136_135.out
                  have hnb33 := NB135_137.out
                  have hnc33 := NB137_135.out
                  have hnb34 := NB135_142.out
                  have hnc34 := NB142_135.out
                  have hcz35_0 : wr.cell? ⟨gb135, 0, none⟩ = some (.int .i64 a0_0) := (blk_cell BK135.out 0).trans rfl
                  have hcz35_1 : wr.cell? ⟨gb135, 1, none⟩ = some (.int .i64 a0_1) := (blk_cell BK135.out 1).trans rfl
                  have hcz35_2 : wr.cell? ⟨gb135, 2, none⟩ = some (.int .i64 a0_2) := (blk_cell BK135.out 2).trans rfl
                  have hcz35_3 : wr.cell? ⟨gb135, 3, none⟩ = some (.int .i64 a0_3) := (blk_cell BK135.out 3).trans rfl
                  have hcz35_4 : wr.cell? ⟨gb135, 4, none⟩ = some (.int .i64 a0_4) := (blk_cell BK135.out 4).trans rfl
                  have hcz35_5 : wr.cell? ⟨gb135, 5, none⟩ = some (.slice A0_5 l0_5.length c0_5) := (blk_cell BK135.out 5).trans rfl
                  have hfz35_0 := blk_frozen BK135.out 0
                  have hfz35_1 := blk_frozen BK135.out 1
                  have hfz35_2 := blk_frozen BK135.out 2
                  have hfz35_3 := blk_frozen BK135.out 3
                  have hfz35_4 := blk_frozen BK135.out 4
                  have hfz35_5 := blk_frozen BK135.out 5
                  have hnb36 := NB142_136.out
                  have hnc36 := NB136_142.out
                  have hnb37 := NB142_137.out
                  have hnc37 := NB137_142.out
                  have hcz38_0 : wr.cell? ⟨gb142, 0, none⟩ = some (.int .i64 (wrap64 (a1 + 1))) := (blk_cell BK142.out 0).trans rfl
                  have hcz38_1 : wr.cell? ⟨gb142, 1, none⟩ = some (.int .i64 (wrap64 (1 + t140))) := (blk_cell BK142.out 1).trans rfl
                  have hcz38_2 : wr.cell? ⟨gb142, 2, none⟩ = some (.int .i64 (wrap64 (1 + t139))) := (blk_cell BK142.out 2).trans rfl
                  have hcz38_3 : wr.cell? ⟨gb142, 3, none⟩ = some (.int .i64 (rd [4, 5, 6, 8, 10, 12, 20, 24] (Go.bits .and .i64 a0_2 7))) := (blk_cell BK142.out 3).trans rfl
                  have hcz38_4 : wr.cell? ⟨gb142, 4, none⟩ = some (.int .i64 (wrap64 ((wrap64 (10 * (wrap64 (1 + t141)))) + a1))) := (blk_cell BK142.out 4).trans rfl
                  have hcz38_5 : wr.cell? ⟨gb142, 5, none⟩ = some (u143005) := (blk_cell BK142.out 5).trans rfl
                  have hcz38_6 : wr.cell? ⟨gb142, 6, none⟩ = some (.slice none 0 0) := (blk_cell BK142.out 6).trans rfl
                  have hfz38_0 := blk_frozen BK142.out 0
                  have hfz38_1 := blk_frozen BK142.out 1
                  have hfz38_2 := blk_frozen BK142.out 2
                  have hfz38_3 := blk_frozen BK142.out 3
                  have hfz38_4 := blk_frozen BK142.out 4
                  have hfz38_5 := blk_frozen BK142.out 5
                  have hfz38_6 := blk_frozen BK142.out 6
                  go_wp2_with (first | ((with_reducible refine gate_builtin (b := .append) (xs := #[.tmp 57, .tmp 61]) rfl ?_); at_builtin; refine Kd.R_append (Kd.int .i64) (w0 := w) w.heap.size rfl (.tmp 57) (.tmp 61) 83 2 (.int .i64 0) 8 rfl Tryd.underlying83 info2 rfl (by decide) (by omega) u143005 x143005_1 (wrap64 (x13_1 - x12_1)) [.int .i64 (wrap64 (x13_1 - x12_1))] (fun _ => True) (fun _ => False) rfl rfl ?aP (fun _ hk => hk.elim) ?aF ?aO ?aB ?aS ?aL ?_; (case aP => exact rfl); (case aB => exact (by repeat (first | (with_reducible first | exact HB.out | apply below_alloc | apply pw_below_drewN | apply below_drew1 | refine below_set ?_ GE135.out | refine below_set ?_ GE136.out | refine below_set ?_ GE137.out | refine below_set ?_ GE142.out) | exact HB.out))); (case aF => exact (fun _ _ => trivial)); (case aO => exact (by (with_reducible repeat (first | apply Kd.R_alloc | apply Kd.R_drewN | apply Kd.R_drew)); exact HO_143005.out)); (case aS => exact (below_size (by repeat (first | (with_reducible first | exact HB.out | apply below_alloc | apply pw_below_drewN | apply below_drew1 | refine below_set ?_ GE135.out | refine below_set ?_ GE136.out | refine below_set ?_ GE137.out | refine below_set ?_ GE142.out) | exact HB.out)))); (case aL => have := LMc31.out; omega); intro v144 w39 ho hb hg hat; rw [← Ny143.out] at ho; have n0_ := Aside0.mk (blk_grown (g := gb135) (o := .cells #[.int .i64 a0_0, .int .i64 a0_1, .int .i64 a0_2, .int .i64 a0_3, .int .i64 a0_4, .slice A0_5 l0_5.length c0_5] 57 (0, 0)) (by (with_reducible repeat (first | refine blk_drewN ?_ _ | refine blk_drew ?_ | refine blk_alloc ?_ _)); exact BK135.out) hg (Kd.R_ne HO_143005.out BK135.out (by decide))); have n1_ := Aside0.mk (blk_grown (g := gb136) (o := .cells #[.int .i64 0, .int .i64 0, .int .i64 0, .int .i64 0, .int .i64 0, .slice none 0 0, .slice none 0 0] 85 (0, 0)) (by (with_reducible repeat (first | refine blk_drewN ?_ _ | refine blk_drew ?_ | refine blk_alloc ?_ _)); exact BK136.out) hg (Kd.R_ne HO_143005.out BK136.out (by decide))); have n2_ := Aside0.mk (blk_grown (g := gb137) (o := .cells #[.int .i64 4, .int .i64 5, .int .i64 6, .int .i64 8, .int .i64 10, .int .i64 12, .int .i64 20, .int .i64 24] 101 (0, 0)) (by (with_reducible repeat (first | refine blk_drewN ?_ _ | refine blk_drew ?_ | refine blk_alloc ?_ _)); exact BK137.out) hg (Kd.R_ne HO_143005.out BK137.out (by decide))); have n3_ := Aside0.mk (blk_grown (g := gb142) (o := .cells #[.int .i64 (wrap64 (a1 + 1)), .int .i64 (wrap64 (1 + t140)), .int .i64 (wrap64 (1 + t139)), .int .i64 (rd [4, 5, 6, 8, 10, 12, 20, 24] (Go.bits .and .i64 a0_2 7)), .int .i64 (wrap64 ((wrap64 (10 * (wrap64 (1 + t141)))) + a1)), u143005, .slice none 0 0] 85 (0, 0)) (by (with_reducible repeat (first | refine blk_drewN ?_ _ | refine blk_drew ?_ | refine blk_alloc ?_ _)); exact BK142.out) hg (Kd.R_ne HO_143005.out BK142.out (by decide))); have n4_ := Aside0.mk (hb); have n5_ := Aside0.mk (ho); clear BK135; clear BK136; clear BK137; clear BK142; clear HB; clear HO_143005; have BK135 := n0_; have BK136 := n1_; have BK137 := n2_; have BK142 := n3_; have HB := n4_; have HO145 := n5_; clear n0_ n1_ n2_ n3_ n4_ n5_; clear ho hb hg hat; obtain ⟨Ao40, co40, eo40⟩ := Kd.R_slice HO145.out; subst eo40; have hcz41_0 : w39.cell? ⟨gb142, 0, none⟩ = some (.int .i64 (wrap64 (a1 + 1))) := (blk_cell BK142.out 0).trans rfl; have hcz41_1 : w39.cell? ⟨gb142, 1, none⟩ = some (.int .i64 (wrap64 (1 + t140))) := (blk_cell BK142.out 1).trans rfl; have hcz41_2 : w39.cell? ⟨gb142, 2, none⟩ = some (.int .i64 (wrap64 (1 + t139))) := (blk_cell BK142.out 2).trans rfl; have hcz41_3 : w39.cell? ⟨gb142, 3, none⟩ = some (.int .i64 (rd [4, 5, 6, 8, 10, 12, 20, 24] (Go.bits .and .i64 a0_2 7))) := (blk_cell BK142.out 3).trans rfl; have hcz41_4 : w39.cell? ⟨gb142, 4, none⟩ = some (.int .i64 (wrap64 ((wrap64 (10 * (wrap64 (1 + t141)))) + a1))) := (blk_cell BK142.out 4).trans rfl; have hcz41_5 : w39.cell? ⟨gb142, 5, none⟩ = some (u143005) := (blk_cell BK142.out 5).trans rfl; have hcz41_6 : w39.cell? ⟨gb142, 6, none⟩ = some (.slice none 0 0) := (blk_cell BK142.out 6).trans rfl; have hfz41_0 := blk_frozen BK142.out 0; have hfz41_1 := blk_frozen BK142.out 1; have hfz41_2 := blk_frozen BK142.out 2; have hfz41_3 := blk_frozen BK142.out 3; have hfz41_4 := blk_frozen BK142.out 4; have hfz41_5 := blk_frozen BK142.out 5; have hfz41_6 := blk_frozen BK142.out 6))
                  go_roundg k1
                  case measure => have := HK1.out; omega
                  case rel => exact ⟨(x13_1), (wrap64 (x13_1 + 1)), (y143), (.slice Ao40 y143.length co40), (by first | rfl | (simp; done) | (simp [*]; done)), (by first | rfl | (simp; done) | (simp [*]; done)), H', ⟨by have := HK1.out; omega⟩, ⟨by (with_reducible repeat (first | apply Kd.R_alloc | apply Kd.R_drewN | apply Kd.R_drew)); exact Kd.R_mono (Kd.R_far (p := ⟨gb142, 5, none⟩) (Kd.R_types HO145.out BK142.out (by decide)) (fun _ hk => hk.2) (.slice Ao40 y143.length co40)) (fun _ hk => trivial)⟩, ⟨by (with_reducible repeat (first | refine blk_drewN ?_ _ | refine blk_drew ?_ | refine blk_alloc ?_ _)); refine blk_far ?_ NB135_142.out _; (with_reducible repeat (first | refine blk_drewN ?_ _ | refine blk_drew ?_ | refine blk_alloc ?_ _)); exact BK135.out⟩, ⟨by (with_reducible repeat (first | refine blk_drewN ?_ _ | refine blk_drew ?_ | refine blk_alloc ?_ _)); refine blk_far ?_ NB136_142.out _; (with_reducible repeat (first | refine blk_drewN ?_ _ | refine blk_drew ?_ | refine blk_alloc ?_ _)); exact BK136.out⟩, ⟨by (with_reducible repeat (first | refine blk_drewN ?_ _ | refine blk_drew ?_ | refine blk_alloc ?_ _)); refine blk_far ?_ NB137_142.out _; (with_reducible repeat (first | refine blk_drewN ?_ _ | refine blk_drew ?_ | refine blk_alloc ?_ _)); exact BK137.out⟩, ⟨by (with_reducible repeat (first | refine blk_drewN ?_ _ | refine blk_drew ?_ | refine blk_alloc ?_ _)); refine blk_put (cs := #[.int .i64 (wrap64 (a1 + 1)), .int .i64 (wrap64 (1 + t140)), .int .i64 (wrap64 (1 + t139)), .int .i64 (rd [4, 5, 6, 8, 10, 12, 20, 24] (Go.bits .and .i64 a0_2 7)), .int .i64 (wrap64 ((wrap64 (10 * (wrap64 (1 + t141)))) + a1)), u143005, .slice none 0 0]) ?_ 5 _ rfl; (with_reducible repeat (first | refine blk_drewN ?_ _ | refine blk_drew ?_ | refine blk_alloc ?_ _)); exact BK142.out⟩, ⟨by repeat (first | (with_reducible first | exact HB.out | apply below_alloc | apply pw_below_drewN | apply below_drew1 | refine below_set ?_ GE135.out | refine below_set ?_ GE136.out | refine below_set ?_ GE137.out | refine below_set ?_ GE142.out) | exact HB.out)⟩⟩
                · rw [if_neg c31] at H
                  exact absurd H (by simp)
              · rw [if_neg c30] at H
                have c30b0 : ((Go.bits .and .i64 (ji29) 1) == 1) = false := beq_eq_false_iff_ne.mpr c30
                have c30b1 : ((Go.bits .and .i64 (ji29) 1) != 1) = true := bne_iff_ne.mpr c30
                have H' := Aside0.mk H
                clear H
                have hnb42 := NB135_136.out
                have hnc42 := NB136_135.out
                have hnb43 := NB135_137.out
                have hnc43 := NB137_135.out
                have hnb44 := NB135_142.out
                have hnc44 := NB142_135.out
                have hcz45_0 : wr.cell? ⟨gb135, 0, none⟩ = some (.int .i64 a0_0) := (blk_cell BK135.out 0).trans rfl
                have hcz45_1 : wr.cell? ⟨gb135, 1, none⟩ = some (.int .i64 a0_1) := (blk_cell BK135.out 1).trans rfl
                have hcz45_2 : wr.cell? ⟨gb135, 2, none⟩ = some (.int .i64 a0_2) := (blk_cell BK135.out 2).trans rfl
                have hcz45_3 : wr.cell? ⟨gb135, 3, none⟩ = some (.int .i64 a0_3) := (blk_cell BK135.out 3).trans rfl
                have hcz45_4 : wr.cell? ⟨gb135, 4, none⟩ = some (.int .i64 a0_4) := (blk_cell BK135.out 4).trans rfl
                have hcz45_5 : wr.cell? ⟨gb135, 5, none⟩ = some (.slice A0_5 l0_5.length c0_5) := (blk_cell BK135.out 5).trans rfl
                have hfz45_0 := blk_frozen BK135.out 0
                have hfz45_1 := blk_frozen BK135.out 1
                have hfz45_2 := blk_frozen BK135.out 2
                have hfz45_3 := blk_frozen BK135.out 3
                have hfz45_4 := blk_frozen BK135.out 4
                have hfz45_5 := blk_frozen BK135.out 5
                go_wp2
                go_roundg k1
                case measure => have := HK1.out; omega
                case rel => exact ⟨(x12_1), (wrap64 (x13_1 + 1)), (x143005_1), (u143005), (by first | rfl | (simp; done) | (simp [*]; done)), (by first | rfl | (simp; done) | (simp [*]; done)), H', ⟨by have := HK1.out; omega⟩, ⟨by (with_reducible repeat (first | apply Kd.R_alloc | apply Kd.R_drewN | apply Kd.R_drew)); exact HO_143005.out⟩, ⟨by (with_reducible repeat (first | refine blk_drewN ?_ _ | refine blk_drew ?_ | refine blk_alloc ?_ _)); exact BK135.out⟩, ⟨by (with_reducible repeat (first | refine blk_drewN ?_ _ | refine blk_drew ?_ | refine blk_alloc ?_ _)); exact BK136.out⟩, ⟨by (with_reducible repeat (first | refine blk_drewN ?_ _ | refine blk_drew ?_ | refine blk_alloc ?_ _)); exact BK137.out⟩, ⟨by (with_reducible repeat (first | refine blk_drewN ?_ _ | refine blk_drew ?_ | refine blk_alloc ?_ _)); exact BK142.out⟩, ⟨by repeat (first | (with_reducible first | exact HB.out | apply below_alloc | apply pw_below_drewN | apply below_drew1 | refine below_set ?_ GE135.out | refine below_set ?_ GE136.out | refine below_set ?_ GE137.out | refine below_set ?_ GE142.out) | exact HB.out)⟩⟩
            · rw [if_neg c28] at H
              exact absurd H (by simp)
          · rw [if_neg c26] at H
            have c26b0 : decide (x13_1 < (wrap64 (1 + t140))) = false := decide_eq_false c26
            clear c26
            have HC46 := Aside0.mk H
            clear H
            go_upto_if 66 with (fail)
            go_cut [] (fun wc => ∃ (kq : Nat) (x143005_45 : List Int) (u143005 : Value), Aside0 (ostinatoref05_Num_task.j1 kq a2 a0_0 a0_1 a0_2 a0_3 a0_4 l0_5 (wrap64 (a1 + 1)) (wrap64 (1 + t140)) (wrap64 (1 + t139)) (rd [4, 5, 6, 8, 10, 12, 20, 24] (Go.bits .and .i64 a0_2 7)) (wrap64 ((wrap64 (10 * (wrap64 (1 + t141)))) + a1)) x143005_45 = some (r1, r2, r3, r4, r5, r6, r7)) ∧ Aside0 (kq ≤ k1) ∧ Aside0 (Kd.R (Kd.int .i64) 2 wc w.heap.size (fun _ => True) u143005 x143005_45) ∧ Aside0 (wc.heap[gb135]? = some (.cells #[.int .i64 a0_0, .int .i64 a0_1, .int .i64 a0_2, .int .i64 a0_3, .int .i64 a0_4, (.slice A0_5 l0_5.length c0_5)] 57 (0, 0))) ∧ Aside0 (wc.heap[gb136]? = some (.cells #[.int .i64 0, .int .i64 0, .int .i64 0, .int .i64 0, .int .i64 0, (.slice none 0 0), (.slice none 0 0)] 85 (0, 0))) ∧ Aside0 (wc.heap[gb137]? = some (.cells #[.int .i64 4, .int .i64 5, .int .i64 6, .int .i64 8, .int .i64 10, .int .i64 12, .int .i64 20, .int .i64 24] 101 (0, 0))) ∧ Aside0 (wc.heap[gb142]? = some (.cells #[.int .i64 (wrap64 (a1 + 1)), .int .i64 (wrap64 (1 + t140)), .int .i64 (wrap64 (1 + t139)), .int .i64 (rd [4, 5, 6, 8, 10, 12, 20, 24] (Go.bits .and .i64 a0_2 7)), .int .i64 (wrap64 ((wrap64 (10 * (wrap64 (1 + t141)))) + a1)), u143005, (.slice none 0 0)] 85 (0, 0))) ∧ Aside0 (Below w.heap.size w wc))
            case first =>
              have H := HC46.out
              clear HC46
              by_cases c47 : x12_1 > 0
              · rw [if_pos c47] at H
                have c47b0 : decide (0 < x12_1) = true := decide_eq_true c47
                clear c47
                (first | rw [c47b0] | (simp only [i64_w, i32_w]; rw [c47b0]) | skip)
                by_cases c48 : x143005_1.length < 17592186044416
                · rw [if_pos c48] at H
                  have LMc48 := Aside0.mk c48
                  clear c48
                  obtain ⟨y146, hy146⟩ : ∃ y_ : List Int, y_ = (x143005_1 ++ [wrap64 ((wrap64 (1 + t140)) - x12_1)]) := ⟨_, rfl⟩
                  replace H : (ostinatoref05_Num_task.j1 k1 a2 a0_0 a0_1 a0_2 a0_3 a0_4 l0_5 (wrap64 (a1 + 1)) (wrap64 (1 + t140)) (wrap64 (1 + t139)) (rd [4, 5, 6, 8, 10, 12, 20, 24] (Go.bits .and .i64 a0_2 7)) (wrap64 ((wrap64 (10 * (wrap64 (1 + t141)))) + a1)) y146) = some (r1, r2, r3, r4, r5, r6, r7) := by first | (rw [hy146]; with_reducible exact H) | (have H2_ := (Option.bind_some _ _).symm.trans H; rw [hy146]; with_reducible exact H2_) | (have H2_ := (Option.bind_some _ _).symm.trans H; with_reducible exact H2_) | with_reducible exact H | (rw [hy146]; exact H) | exact H
                  have Ny146 := Aside0.mk hy146
                  clear hy146
                  have H' := Aside0.mk H
                  clear H
                  have hnb49 := NB142_135.out
                  have hnc49 := NB135_142.out
                  have hnb50 := NB142_136.out
                  have hnc50 := NB136_142.out
                  have hnb51 := NB142_137.out
                  have hnc51 := NB137_142.out
                  have hcz52_0 : wr.cell? ⟨gb142, 0, none⟩ = some (.int .i64 (wrap64 (a1 + 1))) := (blk_cell BK142.out 0).trans rfl
                  have hcz52_1 : wr.cell? ⟨gb142, 1, none⟩ = some (.int .i64 (wrap64 (1 + t140))) := (blk_cell BK142.out 1).trans rfl
                  have hcz52_2 : wr.cell? ⟨gb142, 2, none⟩ = some (.int .i64 (wrap64 (1 + t139))) := (blk_cell BK142.out 2).trans rfl
                  have hcz52_3 : wr.cell? ⟨gb142, 3, none⟩ = some (.int .i64 (rd [4, 5, 6, 8, 10, 12, 20, 24] (Go.bits .and .i64 a0_2 7))) := (blk_cell BK142.out 3).trans rfl
                  have hcz52_4 : wr.cell? ⟨gb142, 4, none⟩ = some (.int .i64 (wrap64 ((wrap64 (10 * (wrap64 (1 + t141)))) + a1))) := (blk_cell BK142.out 4).trans rfl
                  have hcz52_5 : wr.cell? ⟨gb142, 5, none⟩ = some (u143005) := (blk_cell BK142.out 5).trans rfl
                  have hcz52_6 : wr.cell? ⟨gb142, 6, none⟩ = some (.slice none 0 0) := (blk_cell BK142.out 6).trans rfl
                  have hfz52_0 := blk_frozen BK142.out 0
                  have hfz52_1 := blk_frozen BK142.out 1
                  have hfz52_2 := blk_frozen BK142.out 2
                  have hfz52_3 := blk_frozen BK142.out 3
                  have hfz52_4 := blk_frozen BK142.out 4
                  have hfz52_5 := blk_frozen BK142.out 5
                  have hfz52_6 := blk_frozen BK142.out 6
                  go_wp2_with (first | ((with_reducible refine gate_builtin (b := .append) (xs := #[.tmp 68, .tmp 72]) rfl ?_); at_builtin; refine Kd.R_append (Kd.int .i64) (w0 := w) w.heap.size rfl (.tmp 68) (.tmp 72) 83 2 (.int .i64 0) 8 rfl Tryd.underlying83 info2 rfl (by decide) (by omega) u143005 x143005_1 (wrap64 ((wrap64 (1 + t140)) - x12_1)) [.int .i64 (wrap64 ((wrap64 (1 + t140)) - x12_1))] (fun _ => True) (fun _ => False) rfl rfl ?aP (fun _ hk => hk.elim) ?aF ?aO ?aB ?aS ?aL ?_; (case aP => exact rfl); (case aB => exact (by repeat (first | (with_reducible first | exact HB.out | apply below_alloc | apply pw_below_drewN | apply below_drew1 | refine below_set ?_ GE135.out | refine below_set ?_ GE136.out | refine below_set ?_ GE137.out | refine below_set ?_ GE142.out) | exact HB.out))); (case aF => exact (fun _ _ => trivial)); (case aO => exact (by (with_reducible repeat (first | apply Kd.R_alloc | apply Kd.R_drewN | apply Kd.R_drew)); exact HO_143005.out)); (case aS => exact (below_size (by repeat (first | (with_reducible first | exact HB.out | apply below_alloc | apply pw_below_drewN | apply below_drew1 | refine below_set ?_ GE135.out | refine below_set ?_ GE136.out | refine below_set ?_ GE137.out | refine below_set ?_ GE142.out) | exact HB.out)))); (case aL => have := LMc48.out; omega); intro v147 w53 ho hb hg hat; rw [← Ny146.out] at ho; have n0_ := Aside0.mk (blk_grown (g := gb135) (o := .cells #[.int .i64 a0_0, .int .i64 a0_1, .int .i64 a0_2, .int .i64 a0_3, .int .i64 a0_4, .slice A0_5 l0_5.length c0_5] 57 (0, 0)) (by (with_reducible repeat (first | refine blk_drewN ?_ _ | refine blk_drew ?_ | refine blk_alloc ?_ _)); exact BK135.out) hg (Kd.R_ne HO_143005.out BK135.out (by decide))); have n1_ := Aside0.mk (blk_grown (g := gb136) (o := .cells #[.int .i64 0, .int .i64 0, .int .i64 0, .int .i64 0, .int .i64 0, .slice none 0 0, .slice none 0 0] 85 (0, 0)) (by (with_reducible repeat (first | refine blk_drewN ?_ _ | refine blk_drew ?_ | refine blk_alloc ?_ _)); exact BK136.out) hg (Kd.R_ne HO_143005.out BK136.out (by decide))); have n2_ := Aside0.mk (blk_grown (g := gb137) (o := .cells #[.int .i64 4, .int .i64 5, .int .i64 6, .int .i64 8, .int .i64 10, .int .i64 12, .int .i64 20, .int .i64 24] 101 (0, 0)) (by (with_reducible repeat (first | refine blk_drewN ?_ _ | refine blk_drew ?_ | refine blk_alloc ?_ _)); exact BK137.out) hg (Kd.R_ne HO_143005.out BK137.out (by decide))); have n3_ := Aside0.mk (blk_grown (g := gb142) (o := .cells #[.int .i64 (wrap64 (a1 + 1)), .int .i64 (wrap64 (1 + t140)), .int .i64 (wrap64 (1 + t139)), .int .i64 (rd [4, 5, 6, 8, 10, 12, 20, 24] (Go.bits .and .i64 a0_2 7)), .int .i64 (wrap64 ((wrap64 (10 * (wrap64 (1 + t141)))) + a1)), u143005, .slice none 0 0] 85 (0, 0)) (by (with_reducible repeat (first | refine blk_drewN ?_ _ | refine blk_drew ?_ | refine blk_alloc ?_ _)); exact BK142.out) hg (Kd.R_ne HO_143005.out BK142.out (by decide))); have n4_ := Aside0.mk (hb); have n5_ := Aside0.mk (ho); clear BK135; clear BK136; clear BK137; clear BK142; clear HB; clear HO_143005; have BK135 := n0_; have BK136 := n1_; have BK137 := n2_; have BK142 := n3_; have HB := n4_; have HO148 := n5_; clear n0_ n1_ n2_ n3_ n4_ n5_; clear ho hb hg hat; obtain ⟨Ao54, co54, eo54⟩ := Kd.R_slice HO148.out; subst eo54; have hcz55_0 : w53.cell? ⟨gb142, 0, none⟩ = some (.int .i64 (wrap64 (a1 + 1))) := (blk_cell BK142.out 0).trans rfl; have hcz55_1 : w53.cell? ⟨gb142, 1, none⟩ = some (.int .i64 (wrap64 (1 + t140))) := (blk_cell BK142.out 1).trans rfl; have hcz55_2 : w53.cell? ⟨gb142, 2, none⟩ = some (.int .i64 (wrap64 (1 + t139))) := (blk_cell BK142.out 2).trans rfl; have hcz55_3 : w53.cell? ⟨gb142, 3, none⟩ = some (.int .i64 (rd [4, 5, 6, 8, 10, 12, 20, 24] (Go.bits .and .i64 a0_2 7))) := (blk_cell BK142.out 3).trans rfl; have hcz55_4 : w53.cell? ⟨gb142, 4, none⟩ = some (.int .i64 (wrap64 ((wrap64 (10 * (wrap64 (1 + t141)))) + a1))) := (blk_cell BK142.out 4).trans rfl; have hcz55_5 : w53.cell? ⟨gb142, 5, none⟩ = some (u143005) := (blk_cell BK142.out 5).trans rfl; have hcz55_6 : w53.cell? ⟨gb142, 6, none⟩ = some (.slice none 0 0) := (blk_cell BK142.out 6).trans rfl; have hfz55_0 := blk_frozen BK142.out 0; have hfz55_1 := blk_frozen BK142.out 1; have hfz55_2 := blk_frozen BK142.out 2; have hfz55_3 := blk_frozen BK142.out 3; have hfz55_4 := blk_frozen BK142.out 4; have hfz55_5 := blk_frozen BK142.out 5; have hfz55_6 := blk_frozen BK142.out 6))
                  go_meet
                  case rel => exact ⟨_, (y146), (.slice Ao54 y146.length co54), H', ⟨by have := HK1.out; first | omega | exact Nat.le_refl _⟩, ⟨by (with_reducible repeat (first | apply Kd.R_alloc | apply Kd.R_drewN | apply Kd.R_drew)); exact Kd.R_mono (Kd.R_far (p := ⟨gb142, 5, none⟩) (Kd.R_types HO148.out BK142.out (by decide)) (fun _ hk => hk.2) (.slice Ao54 y146.length co54)) (fun _ hk => trivial)⟩, ⟨by (with_reducible repeat (first | refine blk_drewN ?_ _ | refine blk_drew ?_ | refine blk_alloc ?_ _)); refine blk_far ?_ NB135_142.out _; (with_reducible repeat (first | refine blk_drewN ?_ _ | refine blk_drew ?_ | refine blk_alloc ?_ _)); exact BK135.out⟩, ⟨by (with_reducible repeat (first | refine blk_drewN ?_ _ | refine blk_drew ?_ | refine blk_alloc ?_ _)); refine blk_far ?_ NB136_142.out _; (with_reducible repeat (first | refine blk_drewN ?_ _ | refine blk_drew ?_ | refine blk_alloc ?_ _)); exact BK136.out⟩, ⟨by (with_reducible repeat (first | refine blk_drewN ?_ _ | refine blk_drew ?_ | refine blk_alloc ?_ _)); refine blk_far ?_ NB137_142.out _; (with_reducible repeat (first | refine blk_drewN ?_ _ | refine blk_drew ?_ | refine blk_alloc ?_ _)); exact BK137.out⟩, ⟨by (with_reducible repeat (first | refine blk_drewN ?_ _ | refine blk_drew ?_ | refine blk_alloc ?_ _)); refine blk_put (cs := #[.int .i64 (wrap64 (a1 + 1)), .int .i64 (wrap64 (1 + t140)), .int .i64 (wrap64 (1 + t139)), .int .i64 (rd [4, 5, 6, 8, 10, 12, 20, 24] (Go.bits .and .i64 a0_2 7)), .int .i64 (wrap64 ((wrap64 (10 * (wrap64 (1 + t141)))) + a1)), u143005, .slice none 0 0]) ?_ 5 _ rfl; (with_reducible repeat (first | refine blk_drewN ?_ _ | refine blk_drew ?_ | refine blk_alloc ?_ _)); exact BK142.out⟩, ⟨by repeat (first | (with_reducible first | exact HB.out | apply below_alloc | apply pw_below_drewN | apply below_drew1 | refine below_set ?_ GE135.out | refine below_set ?_ GE136.out | refine below_set ?_ GE137.out | refine below_set ?_ GE142.out) | exact HB.out)⟩⟩
                · rw [if_neg c48] at H
                  exact absurd H (by simp)
              · rw [if_neg c47] at H
                have c47b0 : decide (0 < x12_1) = false := decide_eq_false c47
                clear c47
                (first | rw [c47b0] | (simp only [i64_w, i32_w]; rw [c47b0]) | skip)
                have H' := Aside0.mk H
                clear H
                go_wp2
                go_meet
                case rel => exact ⟨_, (x143005_1), (u143005), H', ⟨by have := HK1.out; first | omega | exact Nat.le_refl _⟩, ⟨by (with_reducible repeat (first | apply Kd.R_alloc | apply Kd.R_drewN | apply Kd.R_drew)); exact HO_143005.out⟩, ⟨by (with_reducible repeat (first | refine blk_drewN ?_ _ | refine blk_drew ?_ | refine blk_alloc ?_ _)); exact BK135.out⟩, ⟨by (with_reducible repeat (first | refine blk_drewN ?_ _ | refine blk_drew ?_ | refine blk_alloc ?_ _)); exact BK136.out⟩, ⟨by (with_reducible repeat (first | refine blk_drewN ?_ _ | refine blk_drew ?_ | refine blk_alloc ?_ _)); exact BK137.out⟩, ⟨by (with_reducible repeat (first | refine blk_drewN ?_ _ | refine blk_drew ?_ | refine blk_alloc ?_ _)); exact BK142.out⟩, ⟨by repeat (first | (with_reducible first | exact HB.out | apply below_alloc | apply pw_below_drewN | apply below_drew1 | refine below_set ?_ GE135.out | refine below_set ?_ GE136.out | refine below_set ?_ GE137.out | refine below_set ?_ GE142.out) | exact HB.out)⟩⟩
            case rest =>
              clear HC46
              try clear c1
              try clear p1
              try clear q1
              try clear hx1
              try clear c2
              try clear p2
              try clear c3
              try clear c4
              try clear c4b0
              try clear c5
              try clear c5b0
              try clear p6
              try clear c12
              try clear c13
              try clear p13
              try clear q13
              try clear hx13
              try clear c16
              try clear c22
              try clear c23
              try clear c24
              try clear c26
              try clear c26b0
              try clear c28
              try clear c28b0
              try clear c28b1
              try clear c29
              try clear c30
              try clear c30b0
              try clear c30b1
              try clear c31
              try clear c32
              try clear c33
              try clear c34
              try clear c36
              try clear c37
              try clear c42
              try clear c43
              try clear c44
              try clear c47
              try clear c47b0
              try clear c48
              try clear c49
              try clear c50
              try clear c51
              try clear hcz14_0
              try clear hcz14_1
              try clear hcz14_2
              try clear hcz14_3
              try clear hcz14_4
              try clear hcz14_5
              try clear hcz14_6
              try clear hcz14_7
              try clear hcz17_0
              try clear hcz17_1
              try clear hcz17_2
              try clear hcz17_3
              try clear hcz17_4
              try clear hcz17_5
              try clear hcz18_0
              try clear hcz18_1
              try clear hcz18_2
              try clear hcz18_3
              try clear hcz18_4
              try clear hcz18_5
              try clear hcz18_6
              try clear hcz18_7
              try clear hcz19_0
              try clear hcz19_1
              try clear hcz19_2
              try clear hcz19_3
              try clear hcz19_4
              try clear hcz19_5
              try clear hcz20_0
              try clear hcz20_1
              try clear hcz20_2
              try clear hcz20_3
              try clear hcz20_4
              try clear hcz20_5
              try clear hcz25_0
              try clear hcz25_1
              try clear hcz25_2
              try clear hcz25_3
              try clear hcz25_4
              try clear hcz25_5
              try clear hcz25_6
              try clear hcz35_0
              try clear hcz35_1
              try clear hcz35_2
              try clear hcz35_3
              try clear hcz35_4
              try clear hcz35_5
              try clear hcz38_0
              try clear hcz38_1
              try clear hcz38_2
              try clear hcz38_3
              try clear hcz38_4
              try clear hcz38_5
              try clear hcz38_6
              try clear hcz41_0
              try clear hcz41_1
              try clear hcz41_2
              try clear hcz41_3
              try clear hcz41_4
              try clear hcz41_5
              try clear hcz41_6
              try clear hcz45_0
              try clear hcz45_1
              try clear hcz45_2
              try clear hcz45_3
              try clear hcz45_4
              try clear hcz45_5
              try clear hcz52_0
              try clear hcz52_1
              try clear hcz52_2
              try clear hcz52_3
              try clear hcz52_4
              try clear hcz52_5
              try clear hcz52_6
              try clear hcz55_0
              try clear hcz55_1
              try clear hcz55_2
              try clear hcz55_3
              try clear hcz55_4
              try clear hcz55_5
              try clear hcz55_6
              try clear hfz14_0
              try clear hfz14_1
              try clear hfz14_2
              try clear hfz14_3
              try clear hfz14_4
              try clear hfz14_5
              try clear hfz14_6
              try clear hfz14_7
              try clear hfz17_0
              try clear hfz17_1
              try clear hfz17_2
              try clear hfz17_3
              try clear hfz17_4
              try clear hfz17_5
              try clear hfz18_0
              try clear hfz18_1
              try clear hfz18_2
              try clear hfz18_3
              try clear hfz18_4
              try clear hfz18_5
              try clear hfz18_6
              try clear hfz18_7
              try clear hfz19_0
              try clear hfz19_1
              try clear hfz19_2
              try clear hfz19_3
              try clear hfz19_4
              try clear hfz19_5
              try clear hfz20_0
              try clear hfz20_1
              try clear hfz20_2
              try clear hfz20_3
              try clear hfz20_4
              try clear hfz20_5
              try clear hfz25_0
              try clear hfz25_1
              try clear hfz25_2
              try clear hfz25_3
              try clear hfz25_4
              try clear hfz25_5
              try clear hfz25_6
              try clear hfz35_0
              try clear hfz35_1
              try clear hfz35_2
              try clear hfz35_3
              try clear hfz35_4
              try clear hfz35_5
              try clear hfz38_0
              try clear hfz38_1
              try clear hfz38_2
              try clear hfz38_3
              try clear hfz38_4
              try clear hfz38_5
              try clear hfz38_6
              try clear hfz41_0
              try clear hfz41_1
              try clear hfz41_2
              try clear hfz41_3
              try clear hfz41_4
              try clear hfz41_5
              try clear hfz41_6
              try clear hfz45_0
              try clear hfz45_1
              try clear hfz45_2
              try clear hfz45_3
              try clear hfz45_4
              try clear hfz45_5
              try clear hfz52_0
              try clear hfz52_1
              try clear hfz52_2
              try clear hfz52_3
              try clear hfz52_4
              try clear hfz52_5
              try clear hfz52_6
              try clear hfz55_0
              try clear hfz55_1
              try clear hfz55_2
              try clear hfz55_3
              try clear hfz55_4
              try clear hfz55_5
              try clear hfz55_6
              try clear p1
              try clear p13
              try clear p138
              try clear p2
              try clear p6
              try clear q1
              try clear q13
              try clear q138
              obtain ⟨kq, x143005_45, u143005, HA, HJ45, HO_143005, BK135, BK136, BK137, BK142, HB⟩ := hcut
              cases kq with
              | zero => exact absurd HA.out (by simp [ostinatoref05_Num_task.j1])
              | succ kj45 =>
                have H := HA.out
                clear HA
                simp only [ostinatoref05_Num_task.j1] at H
                have H' := Aside0.mk H
                clear H
                go_wp2
                go_loopg [14] kj45 (fun kq v14 w' => ∃ (x14_3 : Int) (x143006_3 : List Int) (u143006 : Value), v14 = .int .i64 x14_3 ∧ Aside0 (ostinatoref05_Num_task.l1 kq a2 x14_3 a0_0 a0_1 a0_2 a0_3 a0_4 l0_5 (wrap64 (a1 + 1)) (wrap64 (1 + t140)) (wrap64 (1 + t139)) (rd [4, 5, 6, 8, 10, 12, 20, 24] (Go.bits .and .i64 a0_2 7)) (wrap64 ((wrap64 (10 * (wrap64 (1 + t141)))) + a1)) x143005_45 x143006_3 = some (r1, r2, r3, r4, r5, r6, r7)) ∧ Aside0 (kq ≤ kj45) ∧ Aside0 (Kd.R (Kd.int .i64) 2 w' w.heap.size (fun _ => True) u143005 x143005_45) ∧ Aside0 (Kd.R (Kd.int .i64) 3 w' w.heap.size (fun _ => True) u143006 x143006_3) ∧ Aside0 (w'.heap[gb135]? = some (.cells #[.int .i64 a0_0, .int .i64 a0_1, .int .i64 a0_2, .int .i64 a0_3, .int .i64 a0_4, (.slice A0_5 l0_5.length c0_5)] 57 (0, 0))) ∧ Aside0 (w'.heap[gb136]? = some (.cells #[.int .i64 0, .int .i64 0, .int .i64 0, .int .i64 0, .int .i64 0, (.slice none 0 0), (.slice none 0 0)] 85 (0, 0))) ∧ Aside0 (w'.heap[gb137]? = some (.cells #[.int .i64 4, .int .i64 5, .int .i64 6, .int .i64 8, .int .i64 10, .int .i64 12, .int .i64 20, .int .i64 24] 101 (0, 0))) ∧ Aside0 (w'.heap[gb142]? = some (.cells #[.int .i64 (wrap64 (a1 + 1)), .int .i64 (wrap64 (1 + t140)), .int .i64 (wrap64 (1 + t139)), .int .i64 (rd [4, 5, 6, 8, 10, 12, 20, 24] (Go.bits .and .i64 a0_2 7)), .int .i64 (wrap64 ((wrap64 (10 * (wrap64 (1 + t141)))) + a1)), u143005, u143006] 85 (0, 0))) ∧ Aside0 (Below w.heap.size w w'))
                case atStart => exact ⟨(0), (([] : List Int)), (.slice none 0 0), (by first | rfl | (simp; done) | (simp [*]; done)), H', ⟨Nat.le_refl _⟩, ⟨by (with_reducible repeat (first | apply Kd.R_alloc | apply Kd.R_drewN | apply Kd.R_drew)); exact HO_143005.out⟩, ⟨by first | exact Kd.R_nil _ _ _ _ _ | exact Kd.N_nil _ _ _ _ _ | exact Kd.V_nil _ _ _ _ _ | exact Kd.Q_nil _ _ _ _ _ | exact Kd.S_nil _ _ _ _ _⟩, ⟨by (with_reducible repeat (first | refine blk_drewN ?_ _ | refine blk_drew ?_ | refine blk_alloc ?_ _)); exact BK135.out⟩, ⟨by (with_reducible repeat (first | refine blk_drewN ?_ _ | refine blk_drew ?_ | refine blk_alloc ?_ _)); exact BK136.out⟩, ⟨by (with_reducible repeat (first | refine blk_drewN ?_ _ | refine blk_drew ?_ | refine blk_alloc ?_ _)); exact BK137.out⟩, ⟨by (with_reducible repeat (first | refine blk_drewN ?_ _ | refine blk_drew ?_ | refine blk_alloc ?_ _)); exact BK142.out⟩, ⟨by repeat (first | (with_reducible first | exact HB.out | apply below_alloc | apply pw_below_drewN | apply below_drew1 | refine below_set ?_ GE135.out | refine below_set ?_ GE136.out | refine below_set ?_ GE137.out | refine below_set ?_ GE142.out) | exact HB.out)⟩⟩
                case round =>
                  clear H'
                  try clear c1
                  try clear p1
                  try clear q1
                  try clear hx1
                  try clear c2
                  try clear p2
                  try clear c3
                  try clear c4
                  try clear c4b0
                  try clear c5
                  try clear c5b0
                  try clear p6
                  try clear c12
                  try clear c13
                  try clear p13
                  try clear q13
                  try clear hx13
                  try clear c16
                  try clear c22
                  try clear c23
                  try clear c24
                  try clear c26
                  try clear c26b0
                  try clear c28
                  try clear c28b0
                  try clear c28b1
                  try clear c29
                  try clear c30
                  try clear c30b0
                  try clear c30b1
                  try clear c31
                  try clear c32
                  try clear c33
                  try clear c34
                  try clear c36
                  try clear c37
                  try clear c42
                  try clear c43
                  try clear c44
                  try clear c47
                  try clear c47b0
                  try clear c48
                  try clear c49
                  try clear c50
                  try clear c51
                  try clear hcz14_0
                  try clear hcz14_1
                  try clear hcz14_2
                  try clear hcz14_3
                  try clear hcz14_4
                  try clear hcz14_5
                  try clear hcz14_6
                  try clear hcz14_7
                  try clear hcz17_0
                  try clear hcz17_1
                  try clear hcz17_2
                  try clear hcz17_3
                  try clear hcz17_4
                  try clear hcz17_5
                  try clear hcz18_0
                  try clear hcz18_1
                  try clear hcz18_2
                  try clear hcz18_3
                  try clear hcz18_4
                  try clear hcz18_5
                  try clear hcz18_6
                  try clear hcz18_7
                  try clear hcz19_0
                  try clear hcz19_1
                  try clear hcz19_2
                  try clear hcz19_3
                  try clear hcz19_4
                  try clear hcz19_5
                  try clear hcz20_0
                  try clear hcz20_1
                  try clear hcz20_2
                  try clear hcz20_3
                  try clear hcz20_4
                  try clear hcz20_5
                  try clear hcz25_0
                  try clear hcz25_1
                  try clear hcz25_2
                  try clear hcz25_3
                  try clear hcz25_4
                  try clear hcz25_5
                  try clear hcz25_6
                  try clear hcz35_0
                  try clear hcz35_1
                  try clear hcz35_2
                  try clear hcz35_3
                  try clear hcz35_4
                  try clear hcz35_5
                  try clear hcz38_0
                  try clear hcz38_1
                  try clear hcz38_2
                  try clear hcz38_3
                  try clear hcz38_4
                  try clear hcz38_5
                  try clear hcz38_6
                  try clear hcz41_0
                  try clear hcz41_1
                  try clear hcz41_2
                  try clear hcz41_3
                  try clear hcz41_4
                  try clear hcz41_5
                  try clear hcz41_6
                  try clear hcz45_0
                  try clear hcz45_1
                  try clear hcz45_2
                  try clear hcz45_3
                  try clear hcz45_4
                  try clear hcz45_5
                  try clear hcz52_0
                  try clear hcz52_1
                  try clear hcz52_2
                  try clear hcz52_3
                  try clear hcz52_4
                  try clear hcz52_5
                  try clear hcz52_6
                  try clear hcz55_0
                  try clear hcz55_1
                  try clear hcz55_2
                  try clear hcz55_3
                  try clear hcz55_4
                  try clear hcz55_5
                  try clear hcz55_6
                  try clear hfz14_0
                  try clear hfz14_1
                  try clear hfz14_2
                  try clear hfz14_3
                  try clear hfz14_4
                  try clear hfz14_5
                  try clear hfz14_6
                  try clear hfz14_7
                  try clear hfz17_0
                  try clear hfz17_1
                  try clear hfz17_2
                  try clear hfz17_3
                  try clear hfz17_4
                  try clear hfz17_5
                  try clear hfz18_0
                  try clear hfz18_1
                  try clear hfz18_2
                  try clear hfz18_3
                  try clear hfz18_4
                  try clear hfz18_5
                  try clear hfz18_6
                  try clear hfz18_7
                  try clear hfz19_0
                  try clear hfz19_1
                  try clear hfz19_2
                  try clear hfz19_3
                  try clear hfz19_4
                  try clear hfz19_5
                  try clear hfz20_0
                  try clear hfz20_1
                  try clear hfz20_2
                  try clear hfz20_3
                  try clear hfz20_4
                  try clear hfz20_5
                  try clear hfz25_0
                  try clear hfz25_1
                  try clear hfz25_2
                  try clear hfz25_3
                  try clear hfz25_4
                  try clear hfz25_5
                  try clear hfz25_6
                  try clear hfz35_0
                  try clear hfz35_1
                  try clear hfz35_2
                  try clear hfz35_3
                  try clear hfz35_4
                  try clear hfz35_5
                  try clear hfz38_0
                  try clear hfz38_1
                  try clear hfz38_2
                  try clear hfz38_3
                  try clear hfz38_4
                  try clear hfz38_5
                  try clear hfz38_6
                  try clear hfz41_0
                  try clear hfz41_1
                  try clear hfz41_2
                  try clear hfz41_3
                  try clear hfz41_4
                  try clear hfz41_5
                  try clear hfz41_6
                  try clear hfz45_0
                  try clear hfz45_1
                  try clear hfz45_2
                  try clear hfz45_3
                  try clear hfz45_4
                  try clear hfz45_5
                  try clear hfz52_0
                  try clear hfz52_1
                  try clear hfz52_2
                  try clear hfz52_3
                  try clear hfz52_4
                  try clear hfz52_5
                  try clear hfz52_6
                  try clear hfz55_0
                  try clear hfz55_1
                  try clear hfz55_2
                  try clear hfz55_3
                  try clear hfz55_4
                  try clear hfz55_5
                  try clear hfz55_6
                  try clear p1
                  try clear p13
                  try clear p138
                  try clear p2
                  try clear p6
                  try clear q1
                  try clear q13
                  try clear q138
                  obtain ⟨x14_3, x143006_3, u143006, rfl, HA, HK3, HO_143005, HO_143006, BK135, BK136, BK137, BK142, HB⟩ := hrel
                  cases gk with
                  | zero => exact absurd HA.out (by simp [ostinatoref05_Num_task.l1])
                  | succ k3 =>
                    have H := HA.out
                    clear HA
                    simp only [ostinatoref05_Num_task.l1] at H
                    by_cases c56 : x14_3 < (l0_5.length : Int)
                    · rw [if_pos c56] at H
                      have c56b0 : decide (x14_3 < (l0_5.length : Int)) = true := decide_eq_true c56
                      clear c56
                      by_cases c57 : x14_3 < 5
                      · rw [if_pos c57] at H
                        have c57b0 : decide (x14_3 < 5) = true := decide_eq_true c57
                        clear c57
                        by_cases c58 : 0 ≤ x14_3
                        · rw [if_pos c58] at H
                          have c58b0 : decide (0 ≤ x14_3) = true := decide_eq_true c58
                          clear c58
                          replace H := Option.bind_eq_some_iff.mp H
                          obtain ⟨t150, A590, H⟩ := H
                          replace H : (if x143006_3.length < 17592186044416 then (ostinatoref05_Num_task.l1 k3 a2 (wrap64 (x14_3 + 1)) a0_0 a0_1 a0_2 a0_3 a0_4 l0_5 (wrap64 (a1 + 1)) (wrap64 (1 + t140)) (wrap64 (1 + t139)) (rd [4, 5, 6, 8, 10, 12, 20, 24] (Go.bits .and .i64 a0_2 7)) (wrap64 ((wrap64 (10 * (wrap64 (1 + t141)))) + a1)) x143005_45 (x143006_3 ++ [t150])) else (none)) = some (r1, r2, r3, r4, r5, r6, r7) := H
                          have A59 := Aside0.mk A590
                          clear A590
                          by_cases c60 : x143006_3.length < 17592186044416
                          · rw [if_pos c60] at H
                            have LMc60 := Aside0.mk c60
                            clear c60
                            obtain ⟨y151, hy151⟩ : ∃ y_ : List Int, y_ = (x143006_3 ++ [t150]) := ⟨_, rfl⟩
                            replace H : (ostinatoref05_Num_task.l1 k3 a2 (wrap64 (x14_3 + 1)) a0_0 a0_1 a0_2 a0_3 a0_4 l0_5 (wrap64 (a1 + 1)) (wrap64 (1 + t140)) (wrap64 (1 + t139)) (rd [4, 5, 6, 8, 10, 12, 20, 24] (Go.bits .and .i64 a0_2 7)) (wrap64 ((wrap64 (10 * (wrap64 (1 + t141)))) + a1)) x143005_45 y151) = some (r1, r2, r3, r4, r5, r6, r7) := by first | (rw [hy151]; with_reducible exact H) | (have H2_ := (Option.bind_some _ _).symm.trans H; rw [hy151]; with_reducible exact H2_) | (have H2_ := (Option.bind_some _ _).symm.trans H; with_reducible exact H2_) | with_reducible exact H | (rw [hy151]; exact H) | exact H
                            have Ny151 := Aside0.mk hy151
                            clear hy151
                            have H' := Aside0.mk H
                            clear H
                            have hnb61 := NB135_136.out
                            have hnc61 := NB136_135.out
                            have hnb62 := NB135_137.out
                            have hnc62 := NB137_135.out
                            have hnb63 := NB135_142.out
                            have hnc63 := NB142_135.out
                            have hcz64_0 : wr.cell? ⟨gb135, 0, none⟩ = some (.int .i64 a0_0) := (blk_cell BK135.out 0).trans rfl
                            have hcz64_1 : wr.cell? ⟨gb135, 1, none⟩ = some (.int .i64 a0_1) := (blk_cell BK135.out 1).trans rfl
                            have hcz64_2 : wr.cell? ⟨gb135, 2, none⟩ = some (.int .i64 a0_2) := (blk_cell BK135.out 2).trans rfl
                            have hcz64_3 : wr.cell? ⟨gb135, 3, none⟩ = some (.int .i64 a0_3) := (blk_cell BK135.out 3).trans rfl
                            have hcz64_4 : wr.cell? ⟨gb135, 4, none⟩ = some (.int .i64 a0_4) := (blk_cell BK135.out 4).trans rfl
                            have hcz64_5 : wr.cell? ⟨gb135, 5, none⟩ = some (.slice A0_5 l0_5.length c0_5) := (blk_cell BK135.out 5).trans rfl
                            have hfz64_0 := blk_frozen BK135.out 0
                            have hfz64_1 := blk_frozen BK135.out 1
                            have hfz64_2 := blk_frozen BK135.out 2
                            have hfz64_3 := blk_frozen BK135.out 3
                            have hfz64_4 := blk_frozen BK135.out 4
                            have hfz64_5 := blk_frozen BK135.out 5
                            try go_wp2
                            have n0_ := Aside0.mk (Kd.R_drew HO_143005.out)
                            have n1_ := Aside0.mk (Kd.R_drew HO_143006.out)
                            have n2_ := Aside0.mk (blk_drew BK135.out)
                            have n3_ := Aside0.mk (blk_drew BK136.out)
                            have n4_ := Aside0.mk (blk_drew BK137.out)
                            have n5_ := Aside0.mk (blk_drew BK142.out)
                            have n6_ := Aside0.mk (below_drew1 HB.out)
                            clear HO_143005
                            clear HO_143006
                            clear BK135
                            clear BK136
                            clear BK137
                            clear BK142
                            clear HB
                            have HO_143005 := n0_
                            have HO_143006 := n1_
                            have BK135 := n2_
                            have BK136 := n3_
                            have BK137 := n4_
                            have BK142 := n5_
                            have HB := n6_
                            clear n0_ n1_ n2_ n3_ n4_ n5_ n6_
                            have p149 : 0 ≤ (x14_3 : Int) := of_decide_eq_true (by first | (with_reducible assumption) | assumption)
                            have q149 : x14_3 < (l0_5.length : Int) := of_decide_eq_true (by first | (with_reducible assumption) | assumption)
                            obtain ⟨ad149, e149, hx149_0⟩ := Kd.at_int HR0_5.out x14_3 p149 q149
                            have hw149_0 := hx149_0
                            cases e149
                            replace hx149_0 := (HB.out.cell (World.block_lt_of_cell? w _ hx149_0)).trans hx149_0
                            replace p149 := eq_true p149
                            replace q149 := eq_true q149
                            refine start_ (n := 13) (S := fun w' => w'.cell? ⟨gb142, 0, none⟩ = some (.int .i64 (wrap64 (a1 + 1))) ∧ w'.cell? ⟨gb142, 1, none⟩ = some (.int .i64 (wrap64 (1 + t140))) ∧ w'.cell? ⟨gb142, 2, none⟩ = some (.int .i64 (wrap64 (1 + t139))) ∧ w'.cell? ⟨gb142, 3, none⟩ = some (.int .i64 (rd [4, 5, 6, 8, 10, 12, 20, 24] (Go.bits .and .i64 a0_2 7))) ∧ w'.cell? ⟨gb142, 4, none⟩ = some (.int .i64 (wrap64 ((wrap64 (10 * (wrap64 (1 + t141)))) + a1))) ∧ w'.cell? ⟨gb142, 5, none⟩ = some (u143005) ∧ w'.cell? ⟨gb142, 6, none⟩ = some (u143006) ∧ w'.cell? ⟨gb135, 0, none⟩ = some (.int .i64 a0_0) ∧ w'.cell? ⟨gb135, 1, none⟩ = some (.int .i64 a0_1) ∧ w'.cell? ⟨gb135, 2, none⟩ = some (.int .i64 a0_2) ∧ w'.cell? ⟨gb135, 3, none⟩ = some (.int .i64 a0_3) ∧ w'.cell? ⟨gb135, 4, none⟩ = some (.int .i64 a0_4) ∧ w'.cell? ⟨gb135, 5, none⟩ = some (.slice (some ad149) l0_5.length c0_5) ∧ w'.cell? (ad149.add (x14_3).toNat) = some (.int .i64 (rd l0_5 x14_3))) (ds := [12]) #[false, false, false, false, false, false, false, false, false, false, false, false, false] (by kernel_rfl) rfl rfl ⟨(blk_cell BK142.out 0).trans rfl, (blk_cell BK142.out 1).trans rfl, (blk_cell BK142.out 2).trans rfl, (blk_cell BK142.out 3).trans rfl, (blk_cell BK142.out 4).trans rfl, (blk_cell BK142.out 5).trans rfl, (blk_cell BK142.out 6).trans rfl, (blk_cell BK135.out 0).trans rfl, (blk_cell BK135.out 1).trans rfl, (blk_cell BK135.out 2).trans rfl, (blk_cell BK135.out 3).trans rfl, (blk_cell BK135.out 4).trans rfl, (blk_cell BK135.out 5).trans rfl, ((HB.out.cell (World.block_lt_of_cell? w _ hw149_0)).trans hw149_0)⟩ (fun hHeld => ?_); refine with_tabW ostinatoref05_Num_task.tab18 ostinatoref05_Num_task.bits18 (fun HT_ HW_ => ?_)
                            generalize wr.drew = w65 at HO_143005 HO_143006 BK135 BK136 BK137 BK142 HB hx149_0 hHeld ⊢
                            refine pure_ (i := 0) (N := some 86) (v := ?_) (a' := ?_) #[true, false, false, false, false, false, false, false, false, false, false, false, false] rfl rfl (any_of HT_.out (by kernel_rfl)) (fun _ _ _ h => h) (Or.inl ⟨by rfl, ?_⟩) ?_ ?_
                            rotate_left
                            · intro w'
                              go_simp
                              with_reducible rfl
                            rotate_left
                            · simp only [Act.put, List.setIfInBounds_toArray, List.set_cons_zero, List.set_cons_succ, i64_w, i32_w]
                              rfl
                            refine pure_ (i := 2) (N := some 88) (v := ?_) (a' := ?_) #[true, false, true, false, false, false, false, false, false, false, false, false, false] rfl rfl (any_of HT_.out (by kernel_rfl)) (fun _ _ _ h => h) (Or.inl ⟨by rfl, ?_⟩) ?_ ?_
                            rotate_left
                            · intro w'
                              go_simp
                              with_reducible rfl
                            rotate_left
                            · simp only [Act.put, List.setIfInBounds_toArray, List.set_cons_zero, List.set_cons_succ, i64_w, i32_w]
                              rfl
                            refine pure_ (i := 4) (N := some 90) (v := ?_) (a' := ?_) #[true, false, true, false, true, false, false, false, false, false, false, false, false] rfl rfl (any_of HT_.out (by kernel_rfl)) (fun _ _ _ h => h) (Or.inl ⟨by rfl, ?_⟩) ?_ ?_
                            rotate_left
                            · intro w'
                              go_simp
                              with_reducible rfl
                            rotate_left
                            · simp only [Act.put, List.setIfInBounds_toArray, List.set_cons_zero, List.set_cons_succ, i64_w, i32_w]
                              rfl
                            refine pure_ (i := 7) (N := some 93) (v := ?_) (a' := ?_) #[true, false, true, false, true, false, false, true, false, false, false, false, false] rfl rfl (any_of HT_.out (by kernel_rfl)) (fun _ _ _ h => h) (Or.inl ⟨by rfl, ?_⟩) ?_ ?_
                            rotate_left
                            · intro w'
                              go_simp
                              with_reducible rfl
                            rotate_left
                            · simp only [Act.put, List.setIfInBounds_toArray, List.set_cons_zero, List.set_cons_succ, i64_w, i32_w]
                              rfl
                            refine take_ (i := 1) (N := some 87) (v := ?_) (a' := ?_) #[true, true, true, false, true, false, false, true, false, false, false, false, false] rfl rfl (take_ofW HT_.out HW_.out (by kernel_rfl)) (fun _ _ _ h => h) (Or.inl ⟨by rfl, ?_⟩) hHeld ?_ ?_
                            rotate_left
                            · rintro w' ⟨s0, s1, s2, s3, s4, s5, s6, s7, s8, s9, s10, s11, s12, s13⟩
                              go_simp
                              with_reducible rfl
                            rotate_left
                            · simp only [Act.put, List.setIfInBounds_toArray, List.set_cons_zero, List.set_cons_succ, i64_w, i32_w]
                              rfl
                            refine take_ (i := 3) (N := some 89) (v := ?_) (a' := ?_) #[true, true, true, true, true, false, false, true, false, false, false, false, false] rfl rfl (take_ofW HT_.out HW_.out (by kernel_rfl)) (fun _ _ _ h => h) (Or.inl ⟨by rfl, ?_⟩) hHeld ?_ ?_
                            rotate_left
                            · rintro w' ⟨s0, s1, s2, s3, s4, s5, s6, s7, s8, s9, s10, s11, s12, s13⟩
                              go_simp
                              with_reducible rfl
                            rotate_left
                            · simp only [Act.put, List.setIfInBounds_toArray, List.set_cons_zero, List.set_cons_succ, i64_w, i32_w]
                              rfl
                            refine pure_ (i := 5) (N := some 91) (v := ?_) (a' := ?_) #[true, true, true, true, true, true, false, true, false, false, false, false, false] rfl rfl (any_of HT_.out (by kernel_rfl)) (fun _ _ _ h => h) (Or.inl ⟨by rfl, ?_⟩) ?_ ?_
                            rotate_left
                            · intro w'
                              go_simp
                              with_reducible rfl
                            rotate_left
                            · simp only [Act.put, List.setIfInBounds_toArray, List.set_cons_zero, List.set_cons_succ, i64_w, i32_w]
                              rfl
                            refine take_ (i := 6) (N := some 92) (v := ?_) (a' := ?_) #[true, true, true, true, true, true, true, true, false, false, false, false, false] rfl rfl (take_ofW HT_.out HW_.out (by kernel_rfl)) (fun _ _ _ h => h) (Or.inl ⟨by rfl, ?_⟩) hHeld ?_ ?_
                            rotate_left
                            · rintro w' ⟨s0, s1, s2, s3, s4, s5, s6, s7, s8, s9, s10, s11, s12, s13⟩
                              go_simp
                              with_reducible rfl
                            rotate_left
                            · simp only [Act.put, List.setIfInBounds_toArray, List.set_cons_zero, List.set_cons_succ, i64_w, i32_w]
                              rfl
                            refine one_ (i := 8) (N := some 94) #[true, true, true, true, true, true, true, true, true, false, false, false, false] rfl rfl (one_of HT_.out (by kernel_rfl)) (by decide) (fun K hK => ?_)
                            refine goes_ Tryd.func28 (by kernel_rfl) rfl #[.int .i64 (rd l0_5 x14_3), .int .i64 a2] (by rfl) rfl rfl (by (try simp only [List.map_toArray, List.map_cons, List.map_nil]); first | done | rfl | (simp only [List.length_drop, List.length_take]; rfl)) ?_
                            with_reducible refine (ostinatoref05_rest.calls (rd l0_5 x14_3) a2 t150 _ A59.out).mono ?_
                            rintro e w' ⟨rfl, ⟨nd, rfl⟩⟩
                            refine ⟨_, rfl, ?_⟩
                            refine hK.out _ _ ⟨(blk_cell BK142.out 0).trans rfl, (blk_cell BK142.out 1).trans rfl, (blk_cell BK142.out 2).trans rfl, (blk_cell BK142.out 3).trans rfl, (blk_cell BK142.out 4).trans rfl, (blk_cell BK142.out 5).trans rfl, (blk_cell BK142.out 6).trans rfl, (blk_cell BK135.out 0).trans rfl, (blk_cell BK135.out 1).trans rfl, (blk_cell BK135.out 2).trans rfl, (blk_cell BK135.out 3).trans rfl, (blk_cell BK135.out 4).trans rfl, (blk_cell BK135.out 5).trans rfl, ((HB.out.cell (World.block_lt_of_cell? w _ hw149_0)).trans hw149_0)⟩ (fun hHeld => ?_)
                            clear hK K
                            refine norm_ (a' := ?_) ?_ ?_
                            rotate_left
                            · show Act.put _ (some 94) _ = _
                              simp only [Act.put, List.setIfInBounds_toArray, List.set_cons_zero, List.set_cons_succ, i64_w, i32_w]
                              rfl
                            refine one_ (i := 9) (N := some 95) #[true, true, true, true, true, true, true, true, true, true, false, false, false] rfl rfl (one_of HT_.out (by kernel_rfl)) (by decide) (fun K hK => ?_)
                            refine value_ (w1 := ?_) (v := ?_) (by rfl) rfl ?_ ?_
                            rotate_left 2
                            · go_simp
                              constructor
                              · rfl
                              · rfl
                            refine hK.out _ _ ⟨(blk_cell (blk_alloc BK142.out _) 0).trans rfl, (blk_cell (blk_alloc BK142.out _) 1).trans rfl, (blk_cell (blk_alloc BK142.out _) 2).trans rfl, (blk_cell (blk_alloc BK142.out _) 3).trans rfl, (blk_cell (blk_alloc BK142.out _) 4).trans rfl, (blk_cell (blk_alloc BK142.out _) 5).trans rfl, (blk_cell (blk_alloc BK142.out _) 6).trans rfl, (blk_cell (blk_alloc BK135.out _) 0).trans rfl, (blk_cell (blk_alloc BK135.out _) 1).trans rfl, (blk_cell (blk_alloc BK135.out _) 2).trans rfl, (blk_cell (blk_alloc BK135.out _) 3).trans rfl, (blk_cell (blk_alloc BK135.out _) 4).trans rfl, (blk_cell (blk_alloc BK135.out _) 5).trans rfl, (World.cell?_alloc_lt _ _ _ (World.block_lt_of_cell? _ _ (((HB.out.cell (World.block_lt_of_cell? w _ hw149_0)).trans hw149_0)))).trans (((HB.out.cell (World.block_lt_of_cell? w _ hw149_0)).trans hw149_0))⟩ (fun hHeld => ?_)
                            clear hK K
                            refine norm_ (a' := ?_) ?_ ?_
                            rotate_left
                            · show Act.put _ (some 95) _ = _
                              simp only [Act.put, List.setIfInBounds_toArray, List.set_cons_zero, List.set_cons_succ, i64_w, i32_w]
                              rfl
                            refine one_ (i := 10) (N := some 96) #[true, true, true, true, true, true, true, true, true, true, true, false, false] rfl rfl (one_of HT_.out (by kernel_rfl)) (by decide) (fun K hK => ?_)
                            refine Kd.R_append_step (Kd.int .i64) (w0 := w) w.heap.size (by rfl) (.tmp 87) (.tmp 95) 48 3 (.int .i64 0) 8 rfl Tryd.underlying48 info3 rfl (by decide) (by omega) u143006 x143006_3 t150 [.int .i64 t150] (fun _ => True) (fun _ => False) rfl rfl ?aP (fun _ hk => hk.elim) ?aF ?aO ?aB ?aS ?aL ?_
                            (case aP => exact rfl)
                            (case aB => exact (by repeat (first | (with_reducible first | exact HB.out | apply below_alloc | apply pw_below_drewN | apply below_drew1 | refine below_set ?_ GE135.out | refine below_set ?_ GE136.out | refine below_set ?_ GE137.out | refine below_set ?_ GE142.out) | exact HB.out)))
                            (case aF => exact (fun _ _ => trivial))
                            (case aO => exact (by (with_reducible repeat (first | apply Kd.R_alloc | apply Kd.R_drewN | apply Kd.R_drew)); exact HO_143006.out))
                            (case aS => exact (below_size (by repeat (first | (with_reducible first | exact HB.out | apply below_alloc | apply pw_below_drewN | apply below_drew1 | refine below_set ?_ GE135.out | refine below_set ?_ GE136.out | refine below_set ?_ GE137.out | refine below_set ?_ GE142.out) | exact HB.out))))
                            (case aL => have := LMc60.out; omega)
                            intro v152 w66 ho hb hg hat
                            rw [← Ny151.out] at ho
                            have n0_ := Aside0.mk (Kd.R_over' (by (with_reducible repeat (first | apply Kd.R_alloc | apply Kd.R_drewN | apply Kd.R_drew)); exact HO_143005.out) (Kd.R_typed (by (with_reducible repeat (first | apply Kd.R_alloc | apply Kd.R_drewN | apply Kd.R_drew)); exact HO_143006.out)) (by decide) hg)
                            have n1_ := Aside0.mk (blk_grown (g := gb135) (o := .cells #[.int .i64 a0_0, .int .i64 a0_1, .int .i64 a0_2, .int .i64 a0_3, .int .i64 a0_4, .slice (some ad149) l0_5.length c0_5] 57 (0, 0)) (by (with_reducible repeat (first | refine blk_drewN ?_ _ | refine blk_drew ?_ | refine blk_alloc ?_ _)); exact BK135.out) hg (Kd.R_ne HO_143006.out BK135.out (by decide)))
                            have n2_ := Aside0.mk (blk_grown (g := gb136) (o := .cells #[.int .i64 0, .int .i64 0, .int .i64 0, .int .i64 0, .int .i64 0, .slice none 0 0, .slice none 0 0] 85 (0, 0)) (by (with_reducible repeat (first | refine blk_drewN ?_ _ | refine blk_drew ?_ | refine blk_alloc ?_ _)); exact BK136.out) hg (Kd.R_ne HO_143006.out BK136.out (by decide)))
                            have n3_ := Aside0.mk (blk_grown (g := gb137) (o := .cells #[.int .i64 4, .int .i64 5, .int .i64 6, .int .i64 8, .int .i64 10, .int .i64 12, .int .i64 20, .int .i64 24] 101 (0, 0)) (by (with_reducible repeat (first | refine blk_drewN ?_ _ | refine blk_drew ?_ | refine blk_alloc ?_ _)); exact BK137.out) hg (Kd.R_ne HO_143006.out BK137.out (by decide)))
                            have n4_ := Aside0.mk (blk_grown (g := gb142) (o := .cells #[.int .i64 (wrap64 (a1 + 1)), .int .i64 (wrap64 (1 + t140)), .int .i64 (wrap64 (1 + t139)), .int .i64 (rd [4, 5, 6, 8, 10, 12, 20, 24] (Go.bits .and .i64 a0_2 7)), .int .i64 (wrap64 ((wrap64 (10 * (wrap64 (1 + t141)))) + a1)), u143005, u143006] 85 (0, 0)) (by (with_reducible repeat (first | refine blk_drewN ?_ _ | refine blk_drew ?_ | refine blk_alloc ?_ _)); exact BK142.out) hg (Kd.R_ne HO_143006.out BK142.out (by decide)))
                            have n5_ := Aside0.mk (hb)
                            have n6_ := Aside0.mk (ho)
                            clear HO_143005
                            clear BK135
                            clear BK136
                            clear BK137
                            clear BK142
                            clear HB
                            clear HO_143006
                            have HO_143005 := n0_
                            have BK135 := n1_
                            have BK136 := n2_
                            have BK137 := n3_
                            have BK142 := n4_
                            have HB := n5_
                            have HO153 := n6_
                            clear n0_ n1_ n2_ n3_ n4_ n5_ n6_
                            clear ho hb hg hat
                            obtain ⟨Ao67, co67, eo67⟩ := Kd.R_slice HO153.out
                            (first | subst eo67 | (injection eo67 with f1_ f2_ f3_; have f4_ := f1_.symm; have f5_ := f3_.symm; clear f1_ f2_ f3_; subst f4_; subst f5_))
                            refine hK.out _ _ ⟨(blk_cell BK142.out 0).trans rfl, (blk_cell BK142.out 1).trans rfl, (blk_cell BK142.out 2).trans rfl, (blk_cell BK142.out 3).trans rfl, (blk_cell BK142.out 4).trans rfl, (blk_cell BK142.out 5).trans rfl, (blk_cell BK142.out 6).trans rfl, (blk_cell BK135.out 0).trans rfl, (blk_cell BK135.out 1).trans rfl, (blk_cell BK135.out 2).trans rfl, (blk_cell BK135.out 3).trans rfl, (blk_cell BK135.out 4).trans rfl, (blk_cell BK135.out 5).trans rfl, ((HB.out.cell (World.block_lt_of_cell? w _ hw149_0)).trans hw149_0)⟩ (fun hHeld => ?_)
                            clear hK K
                            refine norm_ (a' := ?_) ?_ ?_
                            rotate_left
                            · show Act.put _ (some 96) _ = _
                              simp only [Act.put, List.setIfInBounds_toArray, List.set_cons_zero, List.set_cons_succ, i64_w, i32_w]
                              rfl
                            refine pure_ (i := 11) (N := some 97) (v := ?_) (a' := ?_) #[true, true, true, true, true, true, true, true, true, true, true, true, false] rfl rfl (any_of HT_.out (by kernel_rfl)) (fun _ _ _ h => h) (Or.inl ⟨by rfl, ?_⟩) ?_ ?_
                            rotate_left
                            · intro w'
                              go_simp
                              with_reducible rfl
                            rotate_left
                            · simp only [Act.put, List.setIfInBounds_toArray, List.set_cons_zero, List.set_cons_succ, i64_w, i32_w]
                              rfl
                            refine last_ (i := 12) (N := none) #[true, true, true, true, true, true, true, true, true, true, true, true, true] rfl rfl (one_of HT_.out (by kernel_rfl)) (by decide) (fun K hK => ?_)
                            have hs68 : w66.cell? ⟨gb142, 6, none⟩ = some (u143006) := (blk_cell BK142.out 6).trans rfl
                            have hfs68 := blk_frozen BK142.out 6
                            have hns68_0 := NB135_142.out
                            have hns68_1 := NB136_142.out
                            have hns68_2 := NB137_142.out
                            have hms68_0 := NB142_135.out
                            have hms68_1 := NB142_136.out
                            have hms68_2 := NB142_137.out
                            refine skip_ (w1 := ?_) (by rfl) rfl ?_ ?_
                            rotate_left
                            · go_simp
                              rfl
                            refine hK.out _ _ ?_
                            clear hK K
                            refine done_ (done_of HT_.out (by kernel_rfl)) ?_
                            try go_wp2
                            go_roundg k3
                            case measure => have := HK1.out; have := HJ45.out; have := HK3.out; omega
                            case rel => exact ⟨(wrap64 (x14_3 + 1)), (y151), (.slice Ao67 y151.length co67), (by first | rfl | (simp; done) | (simp [*]; done)), H', ⟨by have := HK1.out; have := HJ45.out; have := HK3.out; omega⟩, ⟨by (with_reducible repeat (first | apply Kd.R_alloc | apply Kd.R_drewN | apply Kd.R_drew)); exact Kd.R_mono (Kd.R_far (p := ⟨gb142, 6, none⟩) (Kd.R_types HO_143005.out BK142.out (by decide)) (fun _ hk => hk.2) (.slice Ao67 y151.length co67)) (fun _ hk => trivial)⟩, ⟨by (with_reducible repeat (first | apply Kd.R_alloc | apply Kd.R_drewN | apply Kd.R_drew)); exact Kd.R_mono (Kd.R_far (p := ⟨gb142, 6, none⟩) (Kd.R_types HO153.out BK142.out (by decide)) (fun _ hk => hk.2) (.slice Ao67 y151.length co67)) (fun _ hk => trivial)⟩, ⟨by (with_reducible repeat (first | refine blk_drewN ?_ _ | refine blk_drew ?_ | refine blk_alloc ?_ _)); refine blk_far ?_ NB135_142.out _; (with_reducible repeat (first | refine blk_drewN ?_ _ | refine blk_drew ?_ | refine blk_alloc ?_ _)); exact BK135.out⟩, ⟨by (with_reducible repeat (first | refine blk_drewN ?_ _ | refine blk_drew ?_ | refine blk_alloc ?_ _)); refine blk_far ?_ NB136_142.out _; (with_reducible repeat (first | refine blk_drewN ?_ _ | refine blk_drew ?_ | refine blk_alloc ?_ _)); exact BK136.out⟩, ⟨by (with_reducible repeat (first | refine blk_drewN ?_ _ | refine blk_drew ?_ | refine blk_alloc ?_ _)); refine blk_far ?_ NB137_142.out _; (with_reducible repeat (first | refine blk_drewN ?_ _ | refine blk_drew ?_ | refine blk_alloc ?_ _)); exact BK137.out⟩, ⟨by (with_reducible repeat (first | refine blk_drewN ?_ _ | refine blk_drew ?_ | refine blk_alloc ?_ _)); refine blk_put (cs := #[.int .i64 (wrap64 (a1 + 1)), .int .i64 (wrap64 (1 + t140)), .int .i64 (wrap64 (1 + t139)), .int .i64 (rd [4, 5, 6, 8, 10, 12, 20, 24] (Go.bits .and .i64 a0_2 7)), .int .i64 (wrap64 ((wrap64 (10 * (wrap64 (1 + t141)))) + a1)), u143005, u143006]) ?_ 6 _ rfl; (with_reducible repeat (first | refine blk_drewN ?_ _ | refine blk_drew ?_ | refine blk_alloc ?_ _)); exact BK142.out⟩, ⟨by repeat (first | (with_reducible first | exact HB.out | apply below_alloc | apply pw_below_drewN | apply below_drew1 | refine below_set ?_ GE135.out | refine below_set ?_ GE136.out | refine below_set ?_ GE137.out | refine below_set ?_ GE142.out) | exact HB.out)⟩⟩
                          · rw [if_neg c60] at H
                            exact absurd H (by simp)
                        · rw [if_neg c58] at H
                          exact absurd H (by simp)
                      · rw [if_neg c57] at H
                        have c57b0 : decide (x14_3 < 5) = false := decide_eq_false c57
                        clear c57
                        simp only [Option.some.injEq, Prod.mk.injEq] at H
                        obtain ⟨rfl, rfl, rfl, rfl, rfl, rfl, rfl⟩ := H
                        have hnb69 := NB135_136.out
                        have hnc69 := NB136_135.out
                        have hnb70 := NB135_137.out
                        have hnc70 := NB137_135.out
                        have hnb71 := NB135_142.out
                        have hnc71 := NB142_135.out
                        have hcz72_0 : wr.cell? ⟨gb135, 0, none⟩ = some (.int .i64 a0_0) := (blk_cell BK135.out 0).trans rfl
                        have hcz72_1 : wr.cell? ⟨gb135, 1, none⟩ = some (.int .i64 a0_1) := (blk_cell BK135.out 1).trans rfl
                        have hcz72_2 : wr.cell? ⟨gb135, 2, none⟩ = some (.int .i64 a0_2) := (blk_cell BK135.out 2).trans rfl
                        have hcz72_3 : wr.cell? ⟨gb135, 3, none⟩ = some (.int .i64 a0_3) := (blk_cell BK135.out 3).trans rfl
                        have hcz72_4 : wr.cell? ⟨gb135, 4, none⟩ = some (.int .i64 a0_4) := (blk_cell BK135.out 4).trans rfl
                        have hcz72_5 : wr.cell? ⟨gb135, 5, none⟩ = some (.slice A0_5 l0_5.length c0_5) := (blk_cell BK135.out 5).trans rfl
                        have hfz72_0 := blk_frozen BK135.out 0
                        have hfz72_1 := blk_frozen BK135.out 1
                        have hfz72_2 := blk_frozen BK135.out 2
                        have hfz72_3 := blk_frozen BK135.out 3
                        have hfz72_4 := blk_frozen BK135.out 4
                        have hfz72_5 := blk_frozen BK135.out 5
                        have hnb73 := NB142_136.out
                        have hnc73 := NB136_142.out
                        have hnb74 := NB142_137.out
                        have hnc74 := NB137_142.out
                        have hcz75_0 : wr.cell? ⟨gb142, 0, none⟩ = some (.int .i64 (wrap64 (a1 + 1))) := (blk_cell BK142.out 0).trans rfl
                        have hcz75_1 : wr.cell? ⟨gb142, 1, none⟩ = some (.int .i64 (wrap64 (1 + t140))) := (blk_cell BK142.out 1).trans rfl
                        have hcz75_2 : wr.cell? ⟨gb142, 2, none⟩ = some (.int .i64 (wrap64 (1 + t139))) := (blk_cell BK142.out 2).trans rfl
                        have hcz75_3 : wr.cell? ⟨gb142, 3, none⟩ = some (.int .i64 (rd [4, 5, 6, 8, 10, 12, 20, 24] (Go.bits .and .i64 a0_2 7))) := (blk_cell BK142.out 3).trans rfl
                        have hcz75_4 : wr.cell? ⟨gb142, 4, none⟩ = some (.int .i64 (wrap64 ((wrap64 (10 * (wrap64 (1 + t141)))) + a1))) := (blk_cell BK142.out 4).trans rfl
                        have hcz75_5 : wr.cell? ⟨gb142, 5, none⟩ = some (u143005) := (blk_cell BK142.out 5).trans rfl
                        have hcz75_6 : wr.cell? ⟨gb142, 6, none⟩ = some (u143006) := (blk_cell BK142.out 6).trans rfl
                        have hfz75_0 := blk_frozen BK142.out 0
                        have hfz75_1 := blk_frozen BK142.out 1
                        have hfz75_2 := blk_frozen BK142.out 2
                        have hfz75_3 := blk_frozen BK142.out 3
                        have hfz75_4 := blk_frozen BK142.out 4
                        have hfz75_5 := blk_frozen BK142.out 5
                        have hfz75_6 := blk_frozen BK142.out 6
                        have hnb76 := NB136_137.out
                        have hnc76 := NB137_136.out
                        have hcz77_0 : wr.cell? ⟨gb136, 0, none⟩ = some (.int .i64 0) := (blk_cell BK136.out 0).trans rfl
                        have hcz77_1 : wr.cell? ⟨gb136, 1, none⟩ = some (.int .i64 0) := (blk_cell BK136.out 1).trans rfl
                        have hcz77_2 : wr.cell? ⟨gb136, 2, none⟩ = some (.int .i64 0) := (blk_cell BK136.out 2).trans rfl
                        have hcz77_3 : wr.cell? ⟨gb136, 3, none⟩ = some (.int .i64 0) := (blk_cell BK136.out 3).trans rfl
                        have hcz77_4 : wr.cell? ⟨gb136, 4, none⟩ = some (.int .i64 0) := (blk_cell BK136.out 4).trans rfl
                        have hcz77_5 : wr.cell? ⟨gb136, 5, none⟩ = some (.slice none 0 0) := (blk_cell BK136.out 5).trans rfl
                        have hcz77_6 : wr.cell? ⟨gb136, 6, none⟩ = some (.slice none 0 0) := (blk_cell BK136.out 6).trans rfl
                        have hfz77_0 := blk_frozen BK136.out 0
                        have hfz77_1 := blk_frozen BK136.out 1
                        have hfz77_2 := blk_frozen BK136.out 2
                        have hfz77_3 := blk_frozen BK136.out 3
                        have hfz77_4 := blk_frozen BK136.out 4
                        have hfz77_5 := blk_frozen BK136.out 5
                        have hfz77_6 := blk_frozen BK136.out 6
                        obtain ⟨Ao78, co78, eo78⟩ := Kd.R_slice HO_143005.out
                        subst eo78
                        obtain ⟨Ao79, co79, eo79⟩ := Kd.R_slice HO_143006.out
                        subst eo79
                        go_wp2
                        refine bodyPost_ret (results_cell_row rfl _ _ gb136 85 #[.int .i64 (wrap64 (a1 + 1)), .int .i64 (wrap64 (1 + t140)), .int .i64 (wrap64 (1 + t139)), .int .i64 (rd [4, 5, 6, 8, 10, 12, 20, 24] (Go.bits .and .i64 a0_2 7)), .int .i64 (wrap64 ((wrap64 (10 * (wrap64 (1 + t141)))) + a1)), .slice Ao78 x143005_45.length co78, .slice Ao79 x143006_3.length co79] (0, 0) _ rfl (by (with_reducible repeat (first | refine blk_drewN ?_ _ | refine blk_drew ?_ | refine blk_alloc ?_ _)); refine blk_put (cs := #[.int .i64 (wrap64 (a1 + 1)), .int .i64 (wrap64 (1 + t140)), .int .i64 (wrap64 (1 + t139)), .int .i64 (rd [4, 5, 6, 8, 10, 12, 20, 24] (Go.bits .and .i64 a0_2 7)), .int .i64 (wrap64 ((wrap64 (10 * (wrap64 (1 + t141)))) + a1)), .slice Ao78 x143005_45.length co78, .slice none 0 0]) ?_ 6 _ rfl; (with_reducible repeat (first | refine blk_drewN ?_ _ | refine blk_drew ?_ | refine blk_alloc ?_ _)); refine blk_put (cs := #[.int .i64 (wrap64 (a1 + 1)), .int .i64 (wrap64 (1 + t140)), .int .i64 (wrap64 (1 + t139)), .int .i64 (rd [4, 5, 6, 8, 10, 12, 20, 24] (Go.bits .and .i64 a0_2 7)), .int .i64 (wrap64 ((wrap64 (10 * (wrap64 (1 + t141)))) + a1)), .slice none 0 0, .slice none 0 0]) ?_ 5 _ rfl; (with_reducible repeat (first | refine blk_drewN ?_ _ | refine blk_drew ?_ | refine blk_alloc ?_ _)); refine blk_put (cs := #[.int .i64 (wrap64 (a1 + 1)), .int .i64 (wrap64 (1 + t140)), .int .i64 (wrap64 (1 + t139)), .int .i64 (rd [4, 5, 6, 8, 10, 12, 20, 24] (Go.bits .and .i64 a0_2 7)), .int .i64 0, .slice none 0 0, .slice none 0 0]) ?_ 4 _ rfl; (with_reducible repeat (first | refine blk_drewN ?_ _ | refine blk_drew ?_ | refine blk_alloc ?_ _)); refine blk_put (cs := #[.int .i64 (wrap64 (a1 + 1)), .int .i64 (wrap64 (1 + t140)), .int .i64 (wrap64 (1 + t139)), .int .i64 0, .int .i64 0, .slice none 0 0, .slice none 0 0]) ?_ 3 _ rfl; (with_reducible repeat (first | refine blk_drewN ?_ _ | refine blk_drew ?_ | refine blk_alloc ?_ _)); refine blk_put (cs := #[.int .i64 (wrap64 (a1 + 1)), .int .i64 (wrap64 (1 + t140)), .int .i64 0, .int .i64 0, .int .i64 0, .slice none 0 0, .slice none 0 0]) ?_ 2 _ rfl; (with_reducible repeat (first | refine blk_drewN ?_ _ | refine blk_drew ?_ | refine blk_alloc ?_ _)); refine blk_put (cs := #[.int .i64 (wrap64 (a1 + 1)), .int .i64 0, .int .i64 0, .int .i64 0, .int .i64 0, .slice none 0 0, .slice none 0 0]) ?_ 1 _ rfl; (with_reducible repeat (first | refine blk_drewN ?_ _ | refine blk_drew ?_ | refine blk_alloc ?_ _)); refine blk_put (cs := #[.int .i64 0, .int .i64 0, .int .i64 0, .int .i64 0, .int .i64 0, .slice none 0 0, .slice none 0 0]) ?_ 0 _ rfl; (with_reducible repeat (first | refine blk_drewN ?_ _ | refine blk_drew ?_ | refine blk_alloc ?_ _)); exact BK136.out) Tryd.underlying85 rfl (by kernel_rfl)) rfl ?_
                        exact ⟨_, _, by first | rfl | (simp [errW_none, errW_some] <;> rfl) | (simp [bneNil, bneNilU] <;> rfl) | (simp [*, errW_none, errW_some] <;> rfl), by (with_reducible repeat (first | apply Kd.R_alloc | apply Kd.R_drewN | apply Kd.R_drew)); exact Kd.R_mono (Kd.R_far (p := ⟨gb136, 6, none⟩) (Kd.R_far (p := ⟨gb136, 5, none⟩) (Kd.R_far (p := ⟨gb136, 4, none⟩) (Kd.R_far (p := ⟨gb136, 3, none⟩) (Kd.R_far (p := ⟨gb136, 2, none⟩) (Kd.R_far (p := ⟨gb136, 1, none⟩) (Kd.R_far (p := ⟨gb136, 0, none⟩) (Kd.R_types HO_143005.out BK136.out (by decide)) (fun _ hk => hk.2) (.int .i64 (wrap64 (a1 + 1)))) (fun _ hk => hk.2) (.int .i64 (wrap64 (1 + t140)))) (fun _ hk => hk.2) (.int .i64 (wrap64 (1 + t139)))) (fun _ hk => hk.2) (.int .i64 (rd [4, 5, 6, 8, 10, 12, 20, 24] (Go.bits .and .i64 a0_2 7)))) (fun _ hk => hk.2) (.int .i64 (wrap64 ((wrap64 (10 * (wrap64 (1 + t141)))) + a1)))) (fun _ hk => hk.2) (.slice Ao78 x143005_45.length co78)) (fun _ hk => hk.2) (.slice Ao79 x143006_3.length co79)) (fun _ hk => trivial), by (with_reducible repeat (first | apply Kd.R_alloc | apply Kd.R_drewN | apply Kd.R_drew)); exact Kd.R_mono (Kd.R_far (p := ⟨gb136, 6, none⟩) (Kd.R_far (p := ⟨gb136, 5, none⟩) (Kd.R_far (p := ⟨gb136, 4, none⟩) (Kd.R_far (p := ⟨gb136, 3, none⟩) (Kd.R_far (p := ⟨gb136, 2, none⟩) (Kd.R_far (p := ⟨gb136, 1, none⟩) (Kd.R_far (p := ⟨gb136, 0, none⟩) (Kd.R_types HO_143006.out BK136.out (by decide)) (fun _ hk => hk.2) (.int .i64 (wrap64 (a1 + 1)))) (fun _ hk => hk.2) (.int .i64 (wrap64 (1 + t140)))) (fun _ hk => hk.2) (.int .i64 (wrap64 (1 + t139)))) (fun _ hk => hk.2) (.int .i64 (rd [4, 5, 6, 8, 10, 12, 20, 24] (Go.bits .and .i64 a0_2 7)))) (fun _ hk => hk.2) (.int .i64 (wrap64 ((wrap64 (10 * (wrap64 (1 + t141)))) + a1)))) (fun _ hk => hk.2) (.slice Ao78 x143005_45.length co78)) (fun _ hk => hk.2) (.slice Ao79 x143006_3.length co79)) (fun _ hk => trivial), by repeat (first | (with_reducible first | exact HB.out | apply below_alloc | apply pw_below_drewN | apply below_drew1 | refine below_set ?_ GE135.out | refine below_set ?_ GE136.out | refine below_set ?_ GE137.out | refine below_set ?_ GE142.out) | exact HB.out)⟩
                    · rw [if_neg c56] at H
                      have c56b0 : decide (x14_3 < (l0_5.length : Int)) = false := decide_eq_false c56
                      clear c56
                      simp only [Option.some.injEq, Prod.mk.injEq] at H
                      obtain ⟨rfl, rfl, rfl, rfl, rfl, rfl, rfl⟩ := H
                      have hnb80 := NB135_136.out
                      have hnc80 := NB136_135.out
                      have hnb81 := NB135_137.out
                      have hnc81 := NB137_135.out
                      have hnb82 := NB135_142.out
                      have hnc82 := NB142_135.out
                      have hcz83_0 : wr.cell? ⟨gb135, 0, none⟩ = some (.int .i64 a0_0) := (blk_cell BK135.out 0).trans rfl
                      have hcz83_1 : wr.cell? ⟨gb135, 1, none⟩ = some (.int .i64 a0_1) := (blk_cell BK135.out 1).trans rfl
                      have hcz83_2 : wr.cell? ⟨gb135, 2, none⟩ = some (.int .i64 a0_2) := (blk_cell BK135.out 2).trans rfl
                      have hcz83_3 : wr.cell? ⟨gb135, 3, none⟩ = some (.int .i64 a0_3) := (blk_cell BK135.out 3).trans rfl
                      have hcz83_4 : wr.cell? ⟨gb135, 4, none⟩ = some (.int .i64 a0_4) := (blk_cell BK135.out 4).trans rfl
                      have hcz83_5 : wr.cell? ⟨gb135, 5, none⟩ = some (.slice A0_5 l0_5.length c0_5) := (blk_cell BK135.out 5).trans rfl
                      have hfz83_0 := blk_frozen BK135.out 0
                      have hfz83_1 := blk_frozen BK135.out 1
                      have hfz83_2 := blk_frozen BK135.out 2
                      have hfz83_3 := blk_frozen BK135.out 3
                      have hfz83_4 := blk_frozen BK135.out 4
                      have hfz83_5 := blk_frozen BK135.out 5
                      have hnb84 := NB142_136.out
                      have hnc84 := NB136_142.out
                      have hnb85 := NB142_137.out
                      have hnc85 := NB137_142.out
                      have hcz86_0 : wr.cell? ⟨gb142, 0, none⟩ = some (.int .i64 (wrap64 (a1 + 1))) := (blk_cell BK142.out 0).trans rfl
                      have hcz86_1 : wr.cell? ⟨gb142, 1, none⟩ = some (.int .i64 (wrap64 (1 + t140))) := (blk_cell BK142.out 1).trans rfl
                      have hcz86_2 : wr.cell? ⟨gb142, 2, none⟩ = some (.int .i64 (wrap64 (1 + t139))) := (blk_cell BK142.out 2).trans rfl
                      have hcz86_3 : wr.cell? ⟨gb142, 3, none⟩ = some (.int .i64 (rd [4, 5, 6, 8, 10, 12, 20, 24] (Go.bits .and .i64 a0_2 7))) := (blk_cell BK142.out 3).trans rfl
                      have hcz86_4 : wr.cell? ⟨gb142, 4, none⟩ = some (.int .i64 (wrap64 ((wrap64 (10 * (wrap64 (1 + t141)))) + a1))) := (blk_cell BK142.out 4).trans rfl
                      have hcz86_5 : wr.cell? ⟨gb142, 5, none⟩ = some (u143005) := (blk_cell BK142.out 5).trans rfl
                      have hcz86_6 : wr.cell? ⟨gb142, 6, none⟩ = some (u143006) := (blk_cell BK142.out 6).trans rfl
                      have hfz86_0 := blk_frozen BK142.out 0
                      have hfz86_1 := blk_frozen BK142.out 1
                      have hfz86_2 := blk_frozen BK142.out 2
                      have hfz86_3 := blk_frozen BK142.out 3
                      have hfz86_4 := blk_frozen BK142.out 4
                      have hfz86_5 := blk_frozen BK142.out 5
                      have hfz86_6 := blk_frozen BK142.out 6
                      have hnb87 := NB136_137.out
                      have hnc87 := NB137_136.out
                      have hcz88_0 : wr.cell? ⟨gb136, 0, none⟩ = some (.int .i64 0) := (blk_cell BK136.out 0).trans rfl
                      have hcz88_1 : wr.cell? ⟨gb136, 1, none⟩ = some (.int .i64 0) := (blk_cell BK136.out 1).trans rfl
                      have hcz88_2 : wr.cell? ⟨gb136, 2, none⟩ = some (.int .i64 0) := (blk_cell BK136.out 2).trans rfl
                      have hcz88_3 : wr.cell? ⟨gb136, 3, none⟩ = some (.int .i64 0) := (blk_cell BK136.out 3).trans rfl
                      have hcz88_4 : wr.cell? ⟨gb136, 4, none⟩ = some (.int .i64 0) := (blk_cell BK136.out 4).trans rfl
                      have hcz88_5 : wr.cell? ⟨gb136, 5, none⟩ = some (.slice none 0 0) := (blk_cell BK136.out 5).trans rfl
                      have hcz88_6 : wr.cell? ⟨gb136, 6, none⟩ = some (.slice none 0 0) := (blk_cell BK136.out 6).trans rfl
                      have hfz88_0 := blk_frozen BK136.out 0
                      have hfz88_1 := blk_frozen BK136.out 1
                      have hfz88_2 := blk_frozen BK136.out 2
                      have hfz88_3 := blk_frozen BK136.out 3
                      have hfz88_4 := blk_frozen BK136.out 4
                      have hfz88_5 := blk_frozen BK136.out 5
                      have hfz88_6 := blk_frozen BK136.out 6
                      obtain ⟨Ao89, co89, eo89⟩ := Kd.R_slice HO_143005.out
                      subst eo89
                      obtain ⟨Ao90, co90, eo90⟩ := Kd.R_slice HO_143006.out
                      subst eo90
                      go_wp2
                      refine bodyPost_ret (results_cell_row rfl _ _ gb136 85 #[.int .i64 (wrap64 (a1 + 1)), .int .i64 (wrap64 (1 + t140)), .int .i64 (wrap64 (1 + t139)), .int .i64 (rd [4, 5, 6, 8, 10, 12, 20, 24] (Go.bits .and .i64 a0_2 7)), .int .i64 (wrap64 ((wrap64 (10 * (wrap64 (1 + t141)))) + a1)), .slice Ao89 x143005_45.length co89, .slice Ao90 x143006_3.length co90] (0, 0) _ rfl (by (with_reducible repeat (first | refine blk_drewN ?_ _ | refine blk_drew ?_ | refine blk_alloc ?_ _)); refine blk_put (cs := #[.int .i64 (wrap64 (a1 + 1)), .int .i64 (wrap64 (1 + t140)), .int .i64 (wrap64 (1 + t139)), .int .i64 (rd [4, 5, 6, 8, 10, 12, 20, 24] (Go.bits .and .i64 a0_2 7)), .int .i64 (wrap64 ((wrap64 (10 * (wrap64 (1 + t141)))) + a1)), .slice Ao89 x143005_45.length co89, .slice none 0 0]) ?_ 6 _ rfl; (with_reducible repeat (first | refine blk_drewN ?_ _ | refine blk_drew ?_ | refine blk_alloc ?_ _)); refine blk_put (cs := #[.int .i64 (wrap64 (a1 + 1)), .int .i64 (wrap64 (1 + t140)), .int .i64 (wrap64 (1 + t139)), .int .i64 (rd [4, 5, 6, 8, 10, 12, 20, 24] (Go.bits .and .i64 a0_2 7)), .int .i64 (wrap64 ((wrap64 (10 * (wrap64 (1 + t141)))) + a1)), .slice none 0 0, .slice none 0 0]) ?_ 5 _ rfl; (with_reducible repeat (first | refine blk_drewN ?_ _ | refine blk_drew ?_ | refine blk_alloc ?_ _)); refine blk_put (cs := #[.int .i64 (wrap64 (a1 + 1)), .int .i64 (wrap64 (1 + t140)), .int .i64 (wrap64 (1 + t139)), .int .i64 (rd [4, 5, 6, 8, 10, 12, 20, 24] (Go.bits .and .i64 a0_2 7)), .int .i64 0, .slice none 0 0, .slice none 0 0]) ?_ 4 _ rfl; (with_reducible repeat (first | refine blk_drewN ?_ _ | refine blk_drew ?_ | refine blk_alloc ?_ _)); refine blk_put (cs := #[.int .i64 (wrap64 (a1 + 1)), .int .i64 (wrap64 (1 + t140)), .int .i64 (wrap64 (1 + t139)), .int .i64 0, .int .i64 0, .slice none 0 0, .slice none 0 0]) ?_ 3 _ rfl; (with_reducible repeat (first | refine blk_drewN ?_ _ | refine blk_drew ?_ | refine blk_alloc ?_ _)); refine blk_put (cs := #[.int .i64 (wrap64 (a1 + 1)), .int .i64 (wrap64 (1 + t140)), .int .i64 0, .int .i64 0, .int .i64 0, .slice none 0 0, .slice none 0 0]) ?_ 2 _ rfl; (with_reducible repeat (first | refine blk_drewN ?_ _ | refine blk_drew ?_ | refine blk_alloc ?_ _)); refine blk_put (cs := #[.int .i64 (wrap64 (a1 + 1)), .int .i64 0, .int .i64 0, .int .i64 0, .int .i64 0, .slice none 0 0, .slice none 0 0]) ?_ 1 _ rfl; (with_reducible repeat (first | refine blk_drewN ?_ _ | refine blk_drew ?_ | refine blk_alloc ?_ _)); refine blk_put (cs := #[.int .i64 0, .int .i64 0, .int .i64 0, .int .i64 0, .int .i64 0, .slice none 0 0, .slice none 0 0]) ?_ 0 _ rfl; (with_reducible repeat (first | refine blk_drewN ?_ _ | refine blk_drew ?_ | refine blk_alloc ?_ _)); exact BK136.out) Tryd.underlying85 rfl (by kernel_rfl)) rfl ?_
                      exact ⟨_, _, by first | rfl | (simp [errW_none, errW_some] <;> rfl) | (simp [bneNil, bneNilU] <;> rfl) | (simp [*, errW_none, errW_some] <;> rfl), by (with_reducible repeat (first | apply Kd.R_alloc | apply Kd.R_drewN | apply Kd.R_drew)); exact Kd.R_mono (Kd.R_far (p := ⟨gb136, 6, none⟩) (Kd.R_far (p := ⟨gb136, 5, none⟩) (Kd.R_far (p := ⟨gb136, 4, none⟩) (Kd.R_far (p := ⟨gb136, 3, none⟩) (Kd.R_far (p := ⟨gb136, 2, none⟩) (Kd.R_far (p := ⟨gb136, 1, none⟩) (Kd.R_far (p := ⟨gb136, 0, none⟩) (Kd.R_types HO_143005.out BK136.out (by decide)) (fun _ hk => hk.2) (.int .i64 (wrap64 (a1 + 1)))) (fun _ hk => hk.2) (.int .i64 (wrap64 (1 + t140)))) (fun _ hk => hk.2) (.int .i64 (wrap64 (1 + t139)))) (fun _ hk => hk.2) (.int .i64 (rd [4, 5, 6, 8, 10, 12, 20, 24] (Go.bits .and .i64 a0_2 7)))) (fun _ hk => hk.2) (.int .i64 (wrap64 ((wrap64 (10 * (wrap64 (1 + t141)))) + a1)))) (fun _ hk => hk.2) (.slice Ao89 x143005_45.length co89)) (fun _ hk => hk.2) (.slice Ao90 x143006_3.length co90)) (fun _ hk => trivial), by (with_reducible repeat (first | apply Kd.R_alloc | apply Kd.R_drewN | apply Kd.R_drew)); exact Kd.R_mono (Kd.R_far (p := ⟨gb136, 6, none⟩) (Kd.R_far (p := ⟨gb136, 5, none⟩) (Kd.R_far (p := ⟨gb136, 4, none⟩) (Kd.R_far (p := ⟨gb136, 3, none⟩) (Kd.R_far (p := ⟨gb136, 2, none⟩) (Kd.R_far (p := ⟨gb136, 1, none⟩) (Kd.R_far (p := ⟨gb136, 0, none⟩) (Kd.R_types HO_143006.out BK136.out (by decide)) (fun _ hk => hk.2) (.int .i64 (wrap64 (a1 + 1)))) (fun _ hk => hk.2) (.int .i64 (wrap64 (1 + t140)))) (fun _ hk => hk.2) (.int .i64 (wrap64 (1 + t139)))) (fun _ hk => hk.2) (.int .i64 (rd [4, 5, 6, 8, 10, 12, 20, 24] (Go.bits .and .i64 a0_2 7)))) (fun _ hk => hk.2) (.int .i64 (wrap64 ((wrap64 (10 * (wrap64 (1 + t141)))) + a1)))) (fun _ hk => hk.2) (.slice Ao89 x143005_45.length co89)) (fun _ hk => hk.2) (.slice Ao90 x143006_3.length co90)) (fun _ hk => trivial), by repeat (first | (with_reducible first | exact HB.out | apply below_alloc | apply pw_below_drewN | apply below_drew1 | refine below_set ?_ GE135.out | refine below_set ?_ GE136.out | refine below_set ?_ GE137.out | refine below_set ?_ GE142.out) | exact HB.out)⟩
    · rw [if_neg c5] at H
      exact absurd H (by simp)
  · rw [if_neg c4] at H
    exact absurd H (by simp)

end
end Go.Proofs.YtnejkfccdnadcaaDoor.PRunBack
end
