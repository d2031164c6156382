/- RunReads: what the walk shows. (Printed by wip/gen_reads.py.) -/
import Derived.Test.YtnejkfccdnadcaaDoorRunV
import Derived.Test.YtnejkfccdnadcaaDoorRunE
import Derived.Test.YtnejkfccdnadcaaDoorFactsG
namespace Go.Proofs.YtnejkfccdnadcaaDoor
open Go.RowKit Go.Shelf Go.Lib

theorem awake_text : (⟨(sT [] 0 [⟨7, 2, 3⟩]).toArray⟩ : ByteArray) = ⟨#[55, 32, 50, 32, 51, 10]⟩ := by kernel_rfl

set_option maxHeartbeats 1000000 in
theorem awake_yes (w : World) (htab : Lib.TabIs Tryd.prog w "internal/strconv.uint64pow10" .u64 Lib.pow10Tab) (hg : 0 < w.heap.size) :
    Calls Tryd.prog 5 #[] w fun e w' => e = .returned (.bool true) ∧ Below w.heap.size w w' := by
  have hb := (Below.refl w.heap.size w).alloc (Nat.le_refl _) (.cells #[.int .i64 7, .int .i64 2, .int .i64 3] 46)
  have hn := heap_alloc_new w (.cells #[.int .i64 7, .int .i64 2, .int .i64 3] 46)
  have h1 := runScript_any (some ⟨w.heap.size, 0, none⟩) 1 [⟨7, 2, 3⟩] (w.alloc (.cells #[.int .i64 7, .int .i64 2, .int .i64 3] 46)) (by simp) (fun x hx => by simp at hx; subst hx; decide) (fun _ => ⟨w.heap.size, 0, rfl, lt_of_block hn, fun i hi => by
    obtain rfl : i = 0 := by simpa using hi
    exact ⟨cell_of_row _ w.heap.size 0 _ _ _ hn, cell_of_row _ w.heap.size 1 _ _ _ hn, cell_of_row _ w.heap.size 2 _ _ _ hn⟩⟩) (tab_below htab hb hg) (by have := hb.size; omega)
  rw [awake_text] at h1
  have H1 := Lib.hid h1
  clear h1 hn
  go_enter Tryd.func5, Tryd.ntmps5
  go_wp2_with (go_at_call 8; refine H1.out.mono ?_; rintro e w1 ⟨rfl, hb1⟩)
  go_ret
  exact ⟨rfl, hb.trans (hb1.mono hb.size)⟩

theorem pv_len : ∀ (r : List (List Wd)) (acc : List Ak), (pv acc r).1.length ≤ acc.length + r.length := by
  intro r
  induction r with
  | nil => intro acc; exact Nat.le_refl _
  | cons w r ih =>
    intro acc
    rw [pv]
    split
    · exact Nat.zero_le _
    · split
      · exact Nat.zero_le _
      · refine Nat.le_trans (ih _) ?_
        simp
        omega

theorem reads_ret {R : Ending → World → Prop} {tmps : Array Value} {W : World} (ht : tmps[6]?.getD undef = .bool true) (hR : R (.returned (.bool true)) W) :
    bodyPost Tryd.prog Tryd.f4 R .ret { tmps := tmps, defers := [] } W := by
  refine bodyPost_ret ?_ rfl hR
  simp [results, Tryd.f4, go_sem, ht]

set_option maxHeartbeats 8000000 in
set_option maxRecDepth 100000 in
theorem runReads_true (s0 : ByteArray) (A : Option Addr) (cap : Nat) (L : List Ak) (x0 x1 x2 x3 x4 x5 x6 : Int) (br : Bool) (m : Int) (w : World) (hr : ARow w w.heap.size A L) (hL : L.length ≤ 9223372036854775807) (hc : L.length ≤ cap)
    (hB : ∀ x ∈ L, (-9223372036854775808 ≤ x.a ∧ x.a ≤ 9223372036854775807) ∧ (-9223372036854775808 ≤ x.t ∧ x.t ≤ 9223372036854775807) ∧ (-9223372036854775808 ≤ x.d ∧ x.d ≤ 9223372036854775807))
    (hx : (-9223372036854775808 ≤ x0 ∧ x0 ≤ 9223372036854775807) ∧ (-9223372036854775808 ≤ x1 ∧ x1 ≤ 9223372036854775807) ∧ (-9223372036854775808 ≤ x2 ∧ x2 ≤ 9223372036854775807) ∧ (-9223372036854775808 ≤ x3 ∧ x3 ≤ 9223372036854775807) ∧ (-9223372036854775808 ≤ x4 ∧ x4 ≤ 9223372036854775807) ∧ (-9223372036854775808 ≤ x5 ∧ x5 ≤ 9223372036854775807) ∧ (-9223372036854775808 ≤ x6 ∧ x6 ≤ 9223372036854775807))
    (htab : Lib.TabIs Tryd.prog w "internal/strconv.uint64pow10" .u64 Lib.pow10Tab) (hm : w.cell? ⟨1, 0, none⟩ = some (.int .i64 m)) :
    Calls Tryd.prog 4 #[.string s0, .slice A L.length cap, .agg #[.int .i64 x0, .int .i64 x1, .int .i64 x2, .int .i64 x3, .int .i64 x4, .int .i64 x5, .int .i64 x6, .bool br]] w fun e w' => e = .returned (.bool true) ∧ Below w.heap.size w w' := by
  have hlt : 1 < w.heap.size := cell_lt hm
  have hg0 : 0 < w.heap.size := Nat.lt_of_le_of_lt (by decide) hlt
  obtain ⟨hx0, hx1, hx2, hx3, hx4, hx5, hx6⟩ := hx
  obtain ⟨k, hk⟩ : ∃ k, k = (L.take 12).length := ⟨_, rfl⟩
  have hk12 : k ≤ 12 := by rw [hk, List.length_take]; omega
  obtain ⟨n0, hn0⟩ : ∃ n0, n0 = L.length := ⟨_, rfl⟩
  have hk0 : k = min 12 n0 := by rw [hk, hn0, List.length_take]
  have hM : ARow w w.heap.size A (L.take 12) := hr.take 12
  have hBM : ∀ x ∈ L.take 12, (-9223372036854775808 ≤ x.a ∧ x.a ≤ 9223372036854775807) ∧ (-9223372036854775808 ≤ x.t ∧ x.t ≤ 9223372036854775807) ∧ (-9223372036854775808 ≤ x.d ∧ x.d ≤ 9223372036854775807) := fun x hx => hB x (List.mem_of_mem_take hx)
  rw [← hn0] at hL hc ⊢
  clear hn0 hr hB
  generalize L.take 12 = M at *
  obtain ⟨T, hT⟩ : ∃ T : ByteArray, T = ⟨(sT [] 0 M).toArray⟩ := ⟨_, rfl⟩
  have h8 : ∀ c W, Below w.heap.size w W → Calls Tryd.prog 8 #[.slice A k c] W fun e w' => e = .returned (.string T) ∧ Below W.heap.size W w' := fun c W hb => by
    have h := runScript_any A c M W (by omega) hBM ((hM.below hb (Nat.le_refl _)).more hb.size) (tab_below htab hb hg0) (by have := hb.size; omega)
    rw [← hk, ← hT] at h
    exact h
  have h12 : ∀ c W, Below w.heap.size w W → Calls Tryd.prog 12 #[.slice A k c] W fun e w' => e = .returned (.string T) ∧ Below W.heap.size W w' := fun c W hb => by
    have h := refScript_any A c M W (by omega) hBM ((hM.below hb (Nat.le_refl _)).more hb.size)
    rw [← hk, ← hT] at h
    exact h
  obtain ⟨X, hX⟩ : ∃ X : ByteArray, X = textD ⟨(itoa x0).toArray⟩ ⟨(itoa x1).toArray⟩ ⟨(itoa x2).toArray⟩ ⟨(itoa x3).toArray⟩ ⟨(itoa x4).toArray⟩ ⟨(itoa x5).toArray⟩ ⟨(itoa x6).toArray⟩ br := ⟨_, rfl⟩
  have h13 : ∀ W, Below w.heap.size w W → Calls Tryd.prog 13 #[.agg #[.int .i64 x0, .int .i64 x1, .int .i64 x2, .int .i64 x3, .int .i64 x4, .int .i64 x5, .int .i64 x6, .bool br]] W fun e w' => e = .returned (.string X) ∧ Below W.heap.size W w' := fun W hb => by
    rw [hX]
    exact text_any x0 x1 x2 x3 x4 x5 x6 br W (tab_below htab hb hg0) (by have := hb.size; omega) hx0 hx1 hx2 hx3 hx4 hx5 hx6
  have h14 : ∀ W, Calls Tryd.prog 14 #[.agg #[.int .i64 x0, .int .i64 x1, .int .i64 x2, .int .i64 x3, .int .i64 x4, .int .i64 x5, .int .i64 x6, .bool br]] W fun e w' => e = .returned (.string X) ∧ Below W.heap.size W w' := fun W => by
    rw [hX]
    exact refText_any x0 x1 x2 x3 x4 x5 x6 br W hx0 hx1 hx2 hx3 hx4 hx5 hx6
  have hA5 : ∀ W, Below w.heap.size w W → Calls Tryd.prog 5 #[] W fun e w' => e = .returned (.bool true) ∧ Below W.heap.size W w' := fun W hb => awake_yes W (tab_below htab hb hg0) (by have := hb.size; omega)
  have H8 := Lib.hid h8
  have H12 := Lib.hid h12
  have H13 := Lib.hid h13
  have H14 := Lib.hid h14
  have HA5 := Lib.hid hA5
  have HK0 := Lib.hid hk0
  clear h8 h12 h13 h14 hA5 hT hX hM hBM hk0 hk htab hx0 hx1 hx2 hx3 hx4 hx5 hx6 hg0
  go_enter Tryd.func4, Tryd.ntmps4
  go_upto_region 1 with (fail)
  have hb0 := (Below.refl w.heap.size w).alloc (Nat.le_refl _) (.cells #[.int .i64 x0, .int .i64 x1, .int .i64 x2, .int .i64 x3, .int .i64 x4, .int .i64 x5, .int .i64 x6, .bool br] 39)
  have hr0 := heap_alloc_new w (.cells #[.int .i64 x0, .int .i64 x1, .int .i64 x2, .int .i64 x3, .int .i64 x4, .int .i64 x5, .int .i64 x6, .bool br] 39)
  generalize w.alloc (.cells #[.int .i64 x0, .int .i64 x1, .int .i64 x2, .int .i64 x3, .int .i64 x4, .int .i64 x5, .int .i64 x6, .bool br] 39) = w0 at hb0 hr0 ⊢
  obtain ⟨bb, hbb⟩ : ∃ b, w.heap.size = b := ⟨_, rfl⟩
  have hwbb : w.heap.size ≤ bb := by omega
  rw [hbb] at hr0 ⊢
  go_upto_if 16 with (go_at_call 5; refine (HA5.out _ hb0).mono ?_; rintro e w1 ⟨rfl, hb1⟩)
  have hb2 := hb0.trans (hb1.mono hb0.size)
  have hr1 := (hb1.block _ (lt_of_block hr0)).trans hr0
  have hm1 := (hb2.cell (p := ⟨1, 0, none⟩) hlt).trans hm
  clear hb0 hr0 hb1 HA5 hm
  go_cut [0] from 66 (fun v0 wx => (∃ s : ByteArray, v0 = .string s ∧ s.size ≤ 120) ∧ w1 = wx)
  case first =>
    by_cases h : 120 < s0.size
    · go_wp2
      go_meet
      exact ⟨⟨_, rfl, by simp; omega⟩, rfl⟩
    · go_wp2
      go_meet
      exact ⟨⟨_, rfl, by omega⟩, rfl⟩
  case rest =>
    obtain ⟨⟨s, rfl, hs⟩, rfl⟩ := hcut
    go_upto_if 21 with (fail)
    go_cut [1] from 66 (fun v1 wx => (∃ c, v1 = .slice A k c) ∧ w1 = wx)
    case first =>
      by_cases h12 : 12 < n0
      · go_wp2
        go_meet
        have := HK0.out
        obtain rfl : k = 12 := by omega
        exact ⟨⟨_, rfl⟩, rfl⟩
      · go_wp2
        go_meet
        have := HK0.out
        obtain rfl : k = n0 := by omega
        exact ⟨⟨_, rfl⟩, rfl⟩
    case rest =>
      obtain ⟨⟨c1, rfl⟩, rfl⟩ := hcut
      have hp1 := parse_any s (by omega) m w1 hm1
      have hp2 := fun W => refParse_any s (by omega) W
      have hKl : (pv [] (lns (textW s))).1.length ≤ 1000000 := by
        have h1 := pv_len (lns (textW s)) []
        have h2 := lns_len (textW s)
        have h3 := textW_len s
        simp at h1
        omega
      generalize pv [] (lns (textW s)) = pp at hp1 hp2 hKl
      obtain ⟨pa, hpa⟩ : ∃ q, q = pp.2.getD (s.size : Int) := ⟨_, rfl⟩
      obtain ⟨pk, hpk⟩ : ∃ q, q = pp.2.isNone := ⟨_, rfl⟩
      rw [← hpa, ← hpk] at hp1
      simp only [← hpa, ← hpk] at hp2
      generalize pp.1 = K at hp1 hp2 hKl
      have HP1 := Lib.hid hp1
      have HP2 := Lib.hid hp2
      clear hp1 hp2 hpa hpk hm1
      go_upto_region 8 with (first
        | (go_at_call 9; refine HP1.out.mono ?_; rintro e w2 ⟨⟨va, rfl, ra⟩, hb3⟩; obtain ⟨Aa, ca, rfl, _, _, rra⟩ := arow_own ra)
        | (go_at_call 11; refine (HP2.out _).mono ?_; rintro e w3 ⟨⟨vb, rfl, rb⟩, hb4⟩; obtain ⟨Ab, cb, rfl, _, _, rrb⟩ := arow_own rb))
      have hb5 := (hb2.trans (hb3.mono hb2.size))
      have hb6 := hb5.trans (hb4.mono hb5.size)
      have rra3 := (rra.below hb4 (Nat.le_refl _)).more hb4.size
      have hr3 := (hb4.block _ (lt_of_block ((hb3.block _ (lt_of_block hr1)).trans hr1))).trans ((hb3.block _ (lt_of_block hr1)).trans hr1)
      clear hb2 hb3 hb4 hb5 hr1 rra ra rb HP1 HP2
      have hb7 := hb6.alloc hb6.size (.cells #[.slice Ab K.length cb, .int .i64 pa, .bool pk] 41)
      have hal := (Below.refl w3.heap.size w3).alloc (Nat.le_refl _) (.cells #[.slice Ab K.length cb, .int .i64 pa, .bool pk] 41)
      have hg4 := heap_alloc_new w3 (.cells #[.slice Ab K.length cb, .int .i64 pa, .bool pk] 41)
      have hr4 := (hal.block _ (lt_of_block hr3)).trans hr3
      have rra4 := (rra3.below hal (Nat.le_refl _)).more hal.size
      have rrb4 := (rrb.below hal (Nat.le_refl _)).more hal.size
      generalize w3.alloc (.cells #[.slice Ab K.length cb, .int .i64 pa, .bool pk] 41) = W4 at hb7 hal hg4 hr4 rra4 rrb4 ⊢
      obtain ⟨bg, hbg⟩ : ∃ b, w3.heap.size = b := ⟨_, rfl⟩
      have hwbg : w.heap.size ≤ bg := by have := hb6.size; omega
      rw [hbg] at hg4 ⊢
      clear hal hb6 hr3 rra3 rrb hbg
      have HSM := Lib.hid (same_asks Aa Ab ca cb K W4 hKl rra4 rrb4)
      have y0 := cell_of_row W4 bg 0 _ _ _ hg4
      simp at y0
      clear rra4 rrb4 hKl
      obtain ⟨kn, hkn⟩ : ∃ j, K.length = j := ⟨_, rfl⟩
      rw [hkn] at y0 hg4 HSM ⊢
      clear hkn
      go_upto_region 9 with (go_at_call 10; refine HSM.out.mono ?_; rintro e w5 ⟨rfl, hb8⟩)
      have hb9 := hb7.trans (hb8.mono hb7.size)
      have hg5 := (hb8.block _ (lt_of_block hg4)).trans hg4
      have hr5 := (hb8.block _ (lt_of_block hr4)).trans hr4
      clear HSM y0 hb7 hb8 hg4 hr4
      refine wp_region_facts3 (by kernel_rfl) (by kernel_rfl) (fun i v _ => match i with
        | 0 => v = .bool true
        | 1 => v = .bool true
        | 2 => v = .bool true
        | 3 => v = .bool true
        | 4 => v = .bool true
        | 5 => v = .int .i64 pa
        | 6 => v = .pointer (some ⟨bg, 1, none⟩)
        | 7 => v = .int .i64 pa
        | 8 => v = .bool true
        | 9 => v = .bool true
        | 10 => v = .bool true
        | 11 => v = .bool pk
        | 12 => v = .pointer (some ⟨bg, 2, none⟩)
        | 13 => v = .bool pk
        | 14 => v = .bool true
        | 15 => v = .bool true
        | 16 => v = .bool true
        | 17 => v = .slice A k c1
        | 18 => v = .string T
        | 19 => v = .slice A k c1
        | 20 => v = .string T
        | 21 => v = .bool true
        | 22 => v = .bool true
        | 23 => v = .bool true
        | 24 => v = .agg #[.int .i64 x0, .int .i64 x1, .int .i64 x2, .int .i64 x3, .int .i64 x4, .int .i64 x5, .int .i64 x6, .bool br]
        | 25 => v = .string X
        | 26 => v = .agg #[.int .i64 x0, .int .i64 x1, .int .i64 x2, .int .i64 x3, .int .i64 x4, .int .i64 x5, .int .i64 x6, .bool br]
        | 27 => v = .string X
        | 28 => v = .bool true
        | 29 => v = .bool true
        | _ => v = .bool true) (fun w w' => Below w.heap.size w w') (fun i v w w' h hb => h) (fun W => Below w.heap.size w W ∧ W.heap[bb]? = some (.cells #[.int .i64 x0, .int .i64 x1, .int .i64 x2, .int .i64 x3, .int .i64 x4, .int .i64 x5, .int .i64 x6, .bool br] 39 (0, 0)) ∧ W.heap[bg]? = some (.cells #[.slice Ab kn cb, .int .i64 pa, .bool pk] 41 (0, 0))) ⟨hb9.drew, hr5, hg5⟩ ?_ ?_ ?_
      · intro i o g want ho hgd v W hF
        have hi : i < 31 := (Array.getElem?_eq_some_iff.1 ho).1
        have hin : i = 0 ∨ i = 1 ∨ i = 2 ∨ i = 3 ∨ i = 4 ∨ i = 5 ∨ i = 6 ∨ i = 7 ∨ i = 8 ∨ i = 9 ∨ i = 10 ∨ i = 11 ∨ i = 12 ∨ i = 13 ∨ i = 14 ∨ i = 15 ∨ i = 16 ∨ i = 17 ∨ i = 18 ∨ i = 19 ∨ i = 20 ∨ i = 21 ∨ i = 22 ∨ i = 23 ∨ i = 24 ∨ i = 25 ∨ i = 26 ∨ i = 27 ∨ i = 28 ∨ i = 29 ∨ i = 30 := by omega
        rcases hin with rfl | rfl | rfl | rfl | rfl | rfl | rfl | rfl | rfl | rfl | rfl | rfl | rfl | rfl | rfl | rfl | rfl | rfl | rfl | rfl | rfl | rfl | rfl | rfl | rfl | rfl | rfl | rfl | rfl | rfl | rfl
        all_goals (cases ho; first | (cases hgd; done) | (cases hgd; exact hF))
      · intro i o a W ho hsz hfr hdep hG
        have hi : i < 31 := (Array.getElem?_eq_some_iff.1 ho).1
        have hin : i = 0 ∨ i = 1 ∨ i = 2 ∨ i = 3 ∨ i = 4 ∨ i = 5 ∨ i = 6 ∨ i = 7 ∨ i = 8 ∨ i = 9 ∨ i = 10 ∨ i = 11 ∨ i = 12 ∨ i = 13 ∨ i = 14 ∨ i = 15 ∨ i = 16 ∨ i = 17 ∨ i = 18 ∨ i = 19 ∨ i = 20 ∨ i = 21 ∨ i = 22 ∨ i = 23 ∨ i = 24 ∨ i = 25 ∨ i = 26 ∨ i = 27 ∨ i = 28 ∨ i = 29 ∨ i = 30 := by omega
        have hbl := lt_of_block hG.2.1
        have hgl := lt_of_block hG.2.2
        rcases hin with rfl | rfl | rfl | rfl | rfl | rfl | rfl | rfl | rfl | rfl | rfl | rfl | rfl | rfl | rfl | rfl | rfl | rfl | rfl | rfl | rfl | rfl | rfl | rfl | rfl | rfl | rfl | rfl | rfl | rfl | rfl
        · cases ho
          have g : a.tmps.getD 7 undef = .bool true := by rw [Array.getD_eq_getD_getElem?, hfr 7 (reads_at (by kernel_rfl))]; rfl
          clear hfr hdep hsz
          generalize hK : (fun (a' : Act) (w' : World) => _) = KK
          go_simp
          rw [← hK]
          exact ⟨_, rfl, rfl, Below.refl _ _, hG⟩
        · cases ho
          obtain ⟨_, q0, e0⟩ := hdep ⟨0, .data⟩ (by simp) rfl _ _ rfl rfl
          have g0 : a.tmps.getD 36 undef = .bool true := by rw [Array.getD_eq_getD_getElem?, q0, e0]; rfl
          rw [e0] at q0
          clear e0
          clear hfr hdep hsz
          generalize hK : (fun (a' : Act) (w' : World) => _) = KK
          go_simp
          rw [← hK]
          exact ⟨_, rfl, rfl, Below.refl _ _, hG⟩
        · cases ho
          have g : a.tmps.getD 12 undef = .bool true := by rw [Array.getD_eq_getD_getElem?, hfr 12 (reads_at (by kernel_rfl))]; rfl
          clear hfr hdep hsz
          generalize hK : (fun (a' : Act) (w' : World) => _) = KK
          go_simp
          rw [← hK]
          exact ⟨_, rfl, rfl, Below.refl _ _, hG⟩
        · cases ho
          obtain ⟨_, q1, e1⟩ := hdep ⟨1, .data⟩ (by simp) rfl _ _ rfl rfl
          have g1 : a.tmps.getD 37 undef = .bool true := by rw [Array.getD_eq_getD_getElem?, q1, e1]; rfl
          rw [e1] at q1
          clear e1
          obtain ⟨_, q2, e2⟩ := hdep ⟨2, .data⟩ (by simp) rfl _ _ rfl rfl
          have g2 : a.tmps.getD 38 undef = .bool true := by rw [Array.getD_eq_getD_getElem?, q2, e2]; rfl
          rw [e2] at q2
          clear e2
          clear hfr hdep hsz
          generalize hK : (fun (a' : Act) (w' : World) => _) = KK
          go_simp
          rw [← hK]
          exact ⟨_, rfl, rfl, Below.refl _ _, hG⟩
        · cases ho
          obtain ⟨_, q3, e3⟩ := hdep ⟨3, .data⟩ (by simp) rfl _ _ rfl rfl
          have g3 : a.tmps.getD 39 undef = .bool true := by rw [Array.getD_eq_getD_getElem?, q3, e3]; rfl
          rw [e3] at q3
          clear e3
          clear hfr hdep hsz
          generalize hK : (fun (a' : Act) (w' : World) => _) = KK
          go_simp
          rw [← hK]
          exact ⟨_, rfl, rfl, Below.refl _ _, hG⟩
        · cases ho
          have g : a.tmps.getD 9 undef = .int .i64 pa := by rw [Array.getD_eq_getD_getElem?, hfr 9 (reads_at (by kernel_rfl))]; rfl
          clear hfr hdep hsz
          generalize hK : (fun (a' : Act) (w' : World) => _) = KK
          go_simp
          rw [← hK]
          exact ⟨_, rfl, rfl, Below.refl _ _, hG⟩
        · cases ho
          have g : a.tmps.getD 11 undef = .pointer (some ⟨bg, 0, none⟩) := by rw [Array.getD_eq_getD_getElem?, hfr 11 (reads_at (by kernel_rfl))]; rfl
          clear hfr hdep hsz
          generalize hK : (fun (a' : Act) (w' : World) => _) = KK
          go_simp
          rw [← hK]
          exact ⟨_, rfl, rfl, Below.refl _ _, hG⟩
        · cases ho
          obtain ⟨_, q6, e6⟩ := hdep ⟨6, .data⟩ (by simp) rfl _ _ rfl rfl
          have g6 : a.tmps.getD 42 undef = .pointer (some ⟨bg, 1, none⟩) := by rw [Array.getD_eq_getD_getElem?, q6, e6]; rfl
          rw [e6] at q6
          clear e6
          have hc := cell_of_row W bg 1 _ _ _ hG.2.2
          simp at hc
          clear hfr hdep hsz
          generalize hK : (fun (a' : Act) (w' : World) => _) = KK
          go_simp
          rw [← hK]
          exact ⟨_, rfl, rfl, Below.refl _ _, hG⟩
        · cases ho
          obtain ⟨_, q5, e5⟩ := hdep ⟨5, .data⟩ (by simp) rfl _ _ rfl rfl
          have g5 : a.tmps.getD 41 undef = .int .i64 pa := by rw [Array.getD_eq_getD_getElem?, q5, e5]; rfl
          rw [e5] at q5
          clear e5
          obtain ⟨_, q7, e7⟩ := hdep ⟨7, .data⟩ (by simp) rfl _ _ rfl rfl
          have g7 : a.tmps.getD 43 undef = .int .i64 pa := by rw [Array.getD_eq_getD_getElem?, q7, e7]; rfl
          rw [e7] at q7
          clear e7
          clear hfr hdep hsz
          generalize hK : (fun (a' : Act) (w' : World) => _) = KK
          go_simp
          rw [← hK]
          exact ⟨_, rfl, rfl, Below.refl _ _, hG⟩
        · cases ho
          obtain ⟨_, q4, e4⟩ := hdep ⟨4, .data⟩ (by simp) rfl _ _ rfl rfl
          have g4 : a.tmps.getD 40 undef = .bool true := by rw [Array.getD_eq_getD_getElem?, q4, e4]; rfl
          rw [e4] at q4
          clear e4
          obtain ⟨_, q8, e8⟩ := hdep ⟨8, .data⟩ (by simp) rfl _ _ rfl rfl
          have g8 : a.tmps.getD 44 undef = .bool true := by rw [Array.getD_eq_getD_getElem?, q8, e8]; rfl
          rw [e8] at q8
          clear e8
          clear hfr hdep hsz
          generalize hK : (fun (a' : Act) (w' : World) => _) = KK
          go_simp
          rw [← hK]
          exact ⟨_, rfl, rfl, Below.refl _ _, hG⟩
        · cases ho
          obtain ⟨_, q9, e9⟩ := hdep ⟨9, .data⟩ (by simp) rfl _ _ rfl rfl
          have g9 : a.tmps.getD 45 undef = .bool true := by rw [Array.getD_eq_getD_getElem?, q9, e9]; rfl
          rw [e9] at q9
          clear e9
          clear hfr hdep hsz
          generalize hK : (fun (a' : Act) (w' : World) => _) = KK
          go_simp
          rw [← hK]
          exact ⟨_, rfl, rfl, Below.refl _ _, hG⟩
        · cases ho
          have g : a.tmps.getD 10 undef = .bool pk := by rw [Array.getD_eq_getD_getElem?, hfr 10 (reads_at (by kernel_rfl))]; rfl
          clear hfr hdep hsz
          generalize hK : (fun (a' : Act) (w' : World) => _) = KK
          go_simp
          rw [← hK]
          exact ⟨_, rfl, rfl, Below.refl _ _, hG⟩
        · cases ho
          have g : a.tmps.getD 11 undef = .pointer (some ⟨bg, 0, none⟩) := by rw [Array.getD_eq_getD_getElem?, hfr 11 (reads_at (by kernel_rfl))]; rfl
          clear hfr hdep hsz
          generalize hK : (fun (a' : Act) (w' : World) => _) = KK
          go_simp
          rw [← hK]
          exact ⟨_, rfl, rfl, Below.refl _ _, hG⟩
        · cases ho
          obtain ⟨_, q12, e12⟩ := hdep ⟨12, .data⟩ (by simp) rfl _ _ rfl rfl
          have g12 : a.tmps.getD 48 undef = .pointer (some ⟨bg, 2, none⟩) := by rw [Array.getD_eq_getD_getElem?, q12, e12]; rfl
          rw [e12] at q12
          clear e12
          have hc := cell_of_row W bg 2 _ _ _ hG.2.2
          simp at hc
          clear hfr hdep hsz
          generalize hK : (fun (a' : Act) (w' : World) => _) = KK
          go_simp
          rw [← hK]
          exact ⟨_, rfl, rfl, Below.refl _ _, hG⟩
        · cases ho
          obtain ⟨_, q11, e11⟩ := hdep ⟨11, .data⟩ (by simp) rfl _ _ rfl rfl
          have g11 : a.tmps.getD 47 undef = .bool pk := by rw [Array.getD_eq_getD_getElem?, q11, e11]; rfl
          rw [e11] at q11
          clear e11
          obtain ⟨_, q13, e13⟩ := hdep ⟨13, .data⟩ (by simp) rfl _ _ rfl rfl
          have g13 : a.tmps.getD 49 undef = .bool pk := by rw [Array.getD_eq_getD_getElem?, q13, e13]; rfl
          rw [e13] at q13
          clear e13
          clear hfr hdep hsz
          generalize hK : (fun (a' : Act) (w' : World) => _) = KK
          go_simp
          rw [← hK]
          exact ⟨_, rfl, rfl, Below.refl _ _, hG⟩
        · cases ho
          obtain ⟨_, q10, e10⟩ := hdep ⟨10, .data⟩ (by simp) rfl _ _ rfl rfl
          have g10 : a.tmps.getD 46 undef = .bool true := by rw [Array.getD_eq_getD_getElem?, q10, e10]; rfl
          rw [e10] at q10
          clear e10
          obtain ⟨_, q14, e14⟩ := hdep ⟨14, .data⟩ (by simp) rfl _ _ rfl rfl
          have g14 : a.tmps.getD 50 undef = .bool true := by rw [Array.getD_eq_getD_getElem?, q14, e14]; rfl
          rw [e14] at q14
          clear e14
          clear hfr hdep hsz
          generalize hK : (fun (a' : Act) (w' : World) => _) = KK
          go_simp
          rw [← hK]
          exact ⟨_, rfl, rfl, Below.refl _ _, hG⟩
        · cases ho
          obtain ⟨_, q15, e15⟩ := hdep ⟨15, .data⟩ (by simp) rfl _ _ rfl rfl
          have g15 : a.tmps.getD 51 undef = .bool true := by rw [Array.getD_eq_getD_getElem?, q15, e15]; rfl
          rw [e15] at q15
          clear e15
          clear hfr hdep hsz
          generalize hK : (fun (a' : Act) (w' : World) => _) = KK
          go_simp
          rw [← hK]
          exact ⟨_, rfl, rfl, Below.refl _ _, hG⟩
        · cases ho
          have g : a.tmps.getD 1 undef = .slice A k c1 := by rw [Array.getD_eq_getD_getElem?, hfr 1 (reads_at (by kernel_rfl))]; rfl
          clear hfr hdep hsz
          generalize hK : (fun (a' : Act) (w' : World) => _) = KK
          go_simp
          rw [← hK]
          exact ⟨_, rfl, rfl, Below.refl _ _, hG⟩
        · cases ho
          obtain ⟨_, q17, e17⟩ := hdep ⟨17, .data⟩ (by simp) rfl _ _ rfl rfl
          have g17 : a.tmps.getD 53 undef = .slice A k c1 := by rw [Array.getD_eq_getD_getElem?, q17, e17]; rfl
          rw [e17] at q17
          clear e17
          clear hfr hdep hsz
          generalize hK : (fun (a' : Act) (w' : World) => _) = KK
          go_simp
          refine (H8.out c1 W hG.1).mono ?_
          rintro e W2 ⟨rfl, hb⟩
          show KK _ _
          rw [← hK]
          exact ⟨_, rfl, rfl, hb, hG.1.trans (hb.mono hG.1.size), (hb.block bb hbl).trans hG.2.1, (hb.block bg hgl).trans hG.2.2⟩
        · cases ho
          have g : a.tmps.getD 1 undef = .slice A k c1 := by rw [Array.getD_eq_getD_getElem?, hfr 1 (reads_at (by kernel_rfl))]; rfl
          clear hfr hdep hsz
          generalize hK : (fun (a' : Act) (w' : World) => _) = KK
          go_simp
          rw [← hK]
          exact ⟨_, rfl, rfl, Below.refl _ _, hG⟩
        · cases ho
          obtain ⟨_, q19, e19⟩ := hdep ⟨19, .data⟩ (by simp) rfl _ _ rfl rfl
          have g19 : a.tmps.getD 55 undef = .slice A k c1 := by rw [Array.getD_eq_getD_getElem?, q19, e19]; rfl
          rw [e19] at q19
          clear e19
          clear hfr hdep hsz
          generalize hK : (fun (a' : Act) (w' : World) => _) = KK
          go_simp
          refine (H12.out c1 W hG.1).mono ?_
          rintro e W2 ⟨rfl, hb⟩
          show KK _ _
          rw [← hK]
          exact ⟨_, rfl, rfl, hb, hG.1.trans (hb.mono hG.1.size), (hb.block bb hbl).trans hG.2.1, (hb.block bg hgl).trans hG.2.2⟩
        · cases ho
          obtain ⟨_, q18, e18⟩ := hdep ⟨18, .data⟩ (by simp) rfl _ _ rfl rfl
          have g18 : a.tmps.getD 54 undef = .string T := by rw [Array.getD_eq_getD_getElem?, q18, e18]; rfl
          rw [e18] at q18
          clear e18
          obtain ⟨_, q20, e20⟩ := hdep ⟨20, .data⟩ (by simp) rfl _ _ rfl rfl
          have g20 : a.tmps.getD 56 undef = .string T := by rw [Array.getD_eq_getD_getElem?, q20, e20]; rfl
          rw [e20] at q20
          clear e20
          clear hfr hdep hsz
          generalize hK : (fun (a' : Act) (w' : World) => _) = KK
          go_simp
          rw [← hK]
          exact ⟨_, rfl, rfl, Below.refl _ _, hG⟩
        · cases ho
          obtain ⟨_, q16, e16⟩ := hdep ⟨16, .data⟩ (by simp) rfl _ _ rfl rfl
          have g16 : a.tmps.getD 52 undef = .bool true := by rw [Array.getD_eq_getD_getElem?, q16, e16]; rfl
          rw [e16] at q16
          clear e16
          obtain ⟨_, q21, e21⟩ := hdep ⟨21, .data⟩ (by simp) rfl _ _ rfl rfl
          have g21 : a.tmps.getD 57 undef = .bool true := by rw [Array.getD_eq_getD_getElem?, q21, e21]; rfl
          rw [e21] at q21
          clear e21
          clear hfr hdep hsz
          generalize hK : (fun (a' : Act) (w' : World) => _) = KK
          go_simp
          rw [← hK]
          exact ⟨_, rfl, rfl, Below.refl _ _, hG⟩
        · cases ho
          obtain ⟨_, q22, e22⟩ := hdep ⟨22, .data⟩ (by simp) rfl _ _ rfl rfl
          have g22 : a.tmps.getD 58 undef = .bool true := by rw [Array.getD_eq_getD_getElem?, q22, e22]; rfl
          rw [e22] at q22
          clear e22
          clear hfr hdep hsz
          generalize hK : (fun (a' : Act) (w' : World) => _) = KK
          go_simp
          rw [← hK]
          exact ⟨_, rfl, rfl, Below.refl _ _, hG⟩
        · cases ho
          have g : a.tmps.getD 5 undef = .pointer (some ⟨bb, 0, none⟩) := by rw [Array.getD_eq_getD_getElem?, hfr 5 (reads_at (by kernel_rfl))]; rfl
          have hc0 := cell_of_row W bb 0 _ _ _ hG.2.1
          have hc1 := cell_of_row W bb 1 _ _ _ hG.2.1
          have hc2 := cell_of_row W bb 2 _ _ _ hG.2.1
          have hc3 := cell_of_row W bb 3 _ _ _ hG.2.1
          have hc4 := cell_of_row W bb 4 _ _ _ hG.2.1
          have hc5 := cell_of_row W bb 5 _ _ _ hG.2.1
          have hc6 := cell_of_row W bb 6 _ _ _ hG.2.1
          have hc7 := cell_of_row W bb 7 _ _ _ hG.2.1
          simp at hc0 hc1 hc2 hc3 hc4 hc5 hc6 hc7
          clear hfr hdep hsz
          generalize hK : (fun (a' : Act) (w' : World) => _) = KK
          go_simp
          rw [← hK]
          exact ⟨_, rfl, rfl, Below.refl _ _, hG⟩
        · cases ho
          obtain ⟨_, q24, e24⟩ := hdep ⟨24, .data⟩ (by simp) rfl _ _ rfl rfl
          have g24 : a.tmps.getD 60 undef = .agg #[.int .i64 x0, .int .i64 x1, .int .i64 x2, .int .i64 x3, .int .i64 x4, .int .i64 x5, .int .i64 x6, .bool br] := by rw [Array.getD_eq_getD_getElem?, q24, e24]; rfl
          rw [e24] at q24
          clear e24
          clear hfr hdep hsz
          generalize hK : (fun (a' : Act) (w' : World) => _) = KK
          go_simp
          refine (H13.out W hG.1).mono ?_
          rintro e W2 ⟨rfl, hb⟩
          show KK _ _
          rw [← hK]
          exact ⟨_, rfl, rfl, hb, hG.1.trans (hb.mono hG.1.size), (hb.block bb hbl).trans hG.2.1, (hb.block bg hgl).trans hG.2.2⟩
        · cases ho
          have g : a.tmps.getD 5 undef = .pointer (some ⟨bb, 0, none⟩) := by rw [Array.getD_eq_getD_getElem?, hfr 5 (reads_at (by kernel_rfl))]; rfl
          have hc0 := cell_of_row W bb 0 _ _ _ hG.2.1
          have hc1 := cell_of_row W bb 1 _ _ _ hG.2.1
          have hc2 := cell_of_row W bb 2 _ _ _ hG.2.1
          have hc3 := cell_of_row W bb 3 _ _ _ hG.2.1
          have hc4 := cell_of_row W bb 4 _ _ _ hG.2.1
          have hc5 := cell_of_row W bb 5 _ _ _ hG.2.1
          have hc6 := cell_of_row W bb 6 _ _ _ hG.2.1
          have hc7 := cell_of_row W bb 7 _ _ _ hG.2.1
          simp at hc0 hc1 hc2 hc3 hc4 hc5 hc6 hc7
          clear hfr hdep hsz
          generalize hK : (fun (a' : Act) (w' : World) => _) = KK
          go_simp
          rw [← hK]
          exact ⟨_, rfl, rfl, Below.refl _ _, hG⟩
        · cases ho
          obtain ⟨_, q26, e26⟩ := hdep ⟨26, .data⟩ (by simp) rfl _ _ rfl rfl
          have g26 : a.tmps.getD 62 undef = .agg #[.int .i64 x0, .int .i64 x1, .int .i64 x2, .int .i64 x3, .int .i64 x4, .int .i64 x5, .int .i64 x6, .bool br] := by rw [Array.getD_eq_getD_getElem?, q26, e26]; rfl
          rw [e26] at q26
          clear e26
          clear hfr hdep hsz
          generalize hK : (fun (a' : Act) (w' : World) => _) = KK
          go_simp
          refine (H14.out W).mono ?_
          rintro e W2 ⟨rfl, hb⟩
          show KK _ _
          rw [← hK]
          exact ⟨_, rfl, rfl, hb, hG.1.trans (hb.mono hG.1.size), (hb.block bb hbl).trans hG.2.1, (hb.block bg hgl).trans hG.2.2⟩
        · cases ho
          obtain ⟨_, q25, e25⟩ := hdep ⟨25, .data⟩ (by simp) rfl _ _ rfl rfl
          have g25 : a.tmps.getD 61 undef = .string X := by rw [Array.getD_eq_getD_getElem?, q25, e25]; rfl
          rw [e25] at q25
          clear e25
          obtain ⟨_, q27, e27⟩ := hdep ⟨27, .data⟩ (by simp) rfl _ _ rfl rfl
          have g27 : a.tmps.getD 63 undef = .string X := by rw [Array.getD_eq_getD_getElem?, q27, e27]; rfl
          rw [e27] at q27
          clear e27
          clear hfr hdep hsz
          generalize hK : (fun (a' : Act) (w' : World) => _) = KK
          go_simp
          rw [← hK]
          exact ⟨_, rfl, rfl, Below.refl _ _, hG⟩
        · cases ho
          obtain ⟨_, q23, e23⟩ := hdep ⟨23, .data⟩ (by simp) rfl _ _ rfl rfl
          have g23 : a.tmps.getD 59 undef = .bool true := by rw [Array.getD_eq_getD_getElem?, q23, e23]; rfl
          rw [e23] at q23
          clear e23
          obtain ⟨_, q28, e28⟩ := hdep ⟨28, .data⟩ (by simp) rfl _ _ rfl rfl
          have g28 : a.tmps.getD 64 undef = .bool true := by rw [Array.getD_eq_getD_getElem?, q28, e28]; rfl
          rw [e28] at q28
          clear e28
          clear hfr hdep hsz
          generalize hK : (fun (a' : Act) (w' : World) => _) = KK
          go_simp
          rw [← hK]
          exact ⟨_, rfl, rfl, Below.refl _ _, hG⟩
        · cases ho
          obtain ⟨_, q29, e29⟩ := hdep ⟨29, .data⟩ (by simp) rfl _ _ rfl rfl
          have g29 : a.tmps.getD 65 undef = .bool true := by rw [Array.getD_eq_getD_getElem?, q29, e29]; rfl
          rw [e29] at q29
          clear e29
          clear hfr hdep hsz
          generalize hK : (fun (a' : Act) (w' : World) => _) = KK
          go_simp
          rw [← hK]
          exact ⟨_, rfl, rfl, Below.refl _ _, hG⟩
      · intro a W hd hsz hfr hall hG
        obtain ⟨_, q6, e6⟩ := hall 30 _ 6 rfl rfl
        clear hfr hall
        have ha : a = { tmps := a.tmps, defers := [] } := by cases a; simp at hd; subst hd; rfl
        rw [ha]
        have h6 : a.tmps[6]?.getD undef = .bool true := by rw [q6, e6]; rfl
        have hbW := hG.1
        generalize a.tmps = tmps at h6 ⊢
        clear ha hd hsz q6 e6 hG
        go_wp2
        exact reads_ret h6 ⟨rfl, hbW⟩

end Go.Proofs.YtnejkfccdnadcaaDoor
