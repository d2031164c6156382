/- run.request: a line's words as a request. -/
import Derived.Test.YtnejkfccdnadcaaDoorRunB
namespace Go.Proofs.YtnejkfccdnadcaaDoor
open Go.RowKit Go.Shelf Go.Lib

theorem numOk_mono {l : List UInt8} {a b : Int} (h : NumOk l a) (hab : a ≤ b) : NumOk l b := ⟨h.1, h.2.1, Int.le_trans h.2.2 hab⟩
theorem numOk_iff {l : List UInt8} {a b : Int} (h : NumOk l b) : NumOk l a ↔ (numV l : Int) ≤ a := ⟨fun h2 => h2.2.2, fun h2 => ⟨h.1, h.2.1, h2⟩⟩

open Classical in
/-- What a line asks for. -/
noncomputable def lineV : List Wd → Option Ak
  | [x, y, z] => if NumOk x.t.data.toList 2147483648 ∧ NumOk y.t.data.toList 99 ∧ NumOk z.t.data.toList 1073741824 ∧ (1 ≤ (numV y.t.data.toList : Int) ∧ 1 ≤ (numV z.t.data.toList : Int)) then some ⟨numV x.t.data.toList, numV y.t.data.toList, numV z.t.data.toList⟩ else none
  | _ => none

open Classical in
theorem lineV_three (x y z : Wd) : lineV [x, y, z] = if NumOk x.t.data.toList 2147483648 ∧ NumOk y.t.data.toList 99 ∧ NumOk z.t.data.toList 1073741824 ∧ (1 ≤ (numV y.t.data.toList : Int) ∧ 1 ≤ (numV z.t.data.toList : Int)) then some ⟨numV x.t.data.toList, numV y.t.data.toList, numV z.t.data.toList⟩ else none := rfl

theorem lineV_len {ws : List Wd} (h : ws.length ≠ 3) : lineV ws = none := by
  match ws, h with
  | [], _ => rfl
  | [_], _ => rfl
  | [_, _], _ => rfl
  | [_, _, _], h => exact absurd rfl h
  | _ :: _ :: _ :: _ :: _, _ => rfl

theorem lineV_bad {ws : List Wd} {i : Nat} {x : Wd} (hx : ws[i]? = some x) (hl : ws.length = 3) (h : ¬ NumOk x.t.data.toList 2147483648) : lineV ws = none := by
  match ws, hl with
  | [a, b, c], _ =>
    rw [lineV_three, if_neg]
    rintro ⟨h1, h2, h3, _⟩
    rcases i with _ | _ | _ | i
    · simp at hx; subst hx; exact h h1
    · simp at hx; subst hx; exact h (numOk_mono h2 (by omega))
    · simp at hx; subst hx; exact h (numOk_mono h3 (by omega))
    · simp at hx

theorem lineV_right {x y z : Wd} (h1 : NumOk x.t.data.toList 2147483648) (h2 : NumOk y.t.data.toList 2147483648) (h3 : NumOk z.t.data.toList 2147483648) :
    lineV [x, y, z] = if rightV (numV x.t.data.toList : Nat) (numV y.t.data.toList : Nat) (numV z.t.data.toList : Nat) = true then some ⟨numV x.t.data.toList, numV y.t.data.toList, numV z.t.data.toList⟩ else none := by
  rw [lineV_three]
  have e1 := numOk_iff (a := 99) h2
  have e2 := numOk_iff (a := 1073741824) h3
  have e3 := h1.2.2
  by_cases h : rightV (numV x.t.data.toList : Nat) (numV y.t.data.toList : Nat) (numV z.t.data.toList : Nat) = true
  · have h' := h
    unfold rightV at h'
    simp only [Bool.and_eq_true, decide_eq_true_eq] at h'
    rw [if_pos ⟨h1, e1.2 (by omega), e2.2 (by omega), by omega, by omega⟩, if_pos h]
  · rw [if_neg, if_neg h]
    rintro ⟨_, k2, k3, k4, k5⟩
    refine h ?_
    unfold rightV
    simp only [Bool.and_eq_true, decide_eq_true_eq]
    have := e1.1 k2
    have := e2.1 k3
    omega

theorem req_ret {R : Ending → World → Prop} {tmps : Array Value} {W : World} {bk : Nat} {t : TypeId} {a b c v : Value} (ht : tmps[2]?.getD undef = .pointer (some ⟨bk, 0, none⟩)) (hv : tmps[3]?.getD undef = v) (hb : W.heap[bk]? = some (.cells #[a, b, c] t (0, 0)))
    (hR : R (.returned (.tuple #[.agg #[a, b, c], v])) W) :
    bodyPost Tryd.prog Tryd.f23 R .ret { tmps := tmps, defers := [] } W := by
  refine bodyPost_ret ?_ rfl hR
  have h0 : W.cell? ⟨bk, 0, none⟩ = some a := by simp [World.cell?, hb]
  have h1 : W.cell? ⟨bk, 1, none⟩ = some b := by simp [World.cell?, hb]
  have h2 : W.cell? ⟨bk, 2, none⟩ = some c := by simp [World.cell?, hb]
  simp [results, Tryd.f23, go_sem, ht, hv, h0, h1, h2]

/-- The array of numbers, i of them set. -/
def arrC (K : Nat → Int) (i : Nat) : Array Value := #[.int .i64 (if 0 < i then K 0 else 0), .int .i64 (if 1 < i then K 1 else 0), .int .i64 (if 2 < i then K 2 else 0)]

theorem arr_set {w : World} {B : Nat} {t : TypeId} {K : Nat → Int} {i : Nat} (h : w.heap[B]? = some (.cells (arrC K i) t (0, 0))) (hi : i < 3) : (w.setCell ⟨B, i, none⟩ (.int .i64 (K i))).heap[B]? = some (.cells (arrC K (i + 1)) t (0, 0)) := by
  rw [heap_setCell_same w B i _ t _ h]
  rcases i with _ | _ | _ | i
  · simp [arrC]
  · simp [arrC]
  · simp [arrC]
  · omega

theorem arr_cell {w : World} {B : Nat} {t : TypeId} {K : Nat → Int} {i : Nat} (h : w.heap[B]? = some (.cells (arrC K i) t (0, 0))) (j : Nat) (hj : j < 3) : ∃ x, w.cell? ⟨B, j, none⟩ = some (.int .i64 x) ∧ (j < i → x = K j) := by
  rcases j with _ | _ | _ | j
  · exact ⟨_, cell_of_row w B 0 _ _ _ h, fun h => by simp [h]⟩
  · exact ⟨_, cell_of_row w B 1 _ _ _ h, fun h => by simp [h]⟩
  · exact ⟨_, cell_of_row w B 2 _ _ _ h, fun h => by simp [h]⟩
  · omega

theorem set3 {W : World} {b : Nat} {t : TypeId} {a0 a1 a2 x y z : Value} (h : W.heap[b]? = some (.cells #[a0, a1, a2] t (0, 0))) : (((W.setCell ⟨b, 0, none⟩ x).setCell ⟨b, 1, none⟩ y).setCell ⟨b, 2, none⟩ z).heap[b]? = some (.cells #[x, y, z] t (0, 0)) := by
  have h1 := heap_setCell_same W b 0 _ t x h
  have h2 := heap_setCell_same _ b 1 _ t y h1
  have h3 := heap_setCell_same _ b 2 _ t z h2
  rw [h3]
  simp

theorem below3 {B b : Nat} {w W : World} (h : Below B w W) (hb : B ≤ b) (x y z : Value) : Below B w (((W.setCell ⟨b, 0, none⟩ x).setCell ⟨b, 1, none⟩ y).setCell ⟨b, 2, none⟩ z) :=
  ((h.setCell (p := ⟨b, 0, none⟩) hb x).setCell (p := ⟨b, 1, none⟩) hb y).setCell (p := ⟨b, 2, none⟩) hb z

set_option maxHeartbeats 4000000 in
set_option maxRecDepth 100000 in
theorem request_any (A : Option Addr) (cap : Nat) (ws : List Wd) (w : World) (hn : ws.length ≤ 1000000) (hr : WRow w w.heap.size A ws) :
    Calls Tryd.prog 23 #[.slice A ws.length cap] w fun e w' => (∃ xa xt xd ok, e = .returned (.tuple #[.agg #[.int .i64 xa, .int .i64 xt, .int .i64 xd], .bool ok]) ∧ (ok = true → lineV ws = some ⟨xa, xt, xd⟩) ∧ (ok = false → lineV ws = none)) ∧ Below w.heap.size w w' := by
  obtain ⟨n, hn'⟩ : ∃ n, n = ws.length := ⟨_, rfl⟩
  rw [← hn'] at hn ⊢
  have HN := Lib.hid hn'
  clear hn'
  go_enter Tryd.func23, Tryd.ntmps23
  by_cases h3 : n = 3
  · subst h3
    have hlen : ws.length = 3 := HN.out.symm
    obtain ⟨K, hK⟩ : ∃ K : Nat → Int, ∀ i (h : i < ws.length), K i = (numV ws[i].t.data.toList : Nat) := ⟨fun i => if h : i < ws.length then (numV ws[i].t.data.toList : Nat) else 0, fun i h => by simp [h]⟩
    have HK := Lib.hid hK
    clear hK
    obtain ⟨b1, o1, rfl, hlt1, hc1⟩ := hr (by omega)
    go_wp2
    have hbA := (Below.refl w.heap.size w).alloc (Nat.le_refl _) (.cells #[.int .i64 0, .int .i64 0, .int .i64 0] 46)
    have hblA := heap_alloc_new w (.cells #[.int .i64 0, .int .i64 0, .int .i64 0] 46)
    have HSA : Hid ((w.alloc (.cells #[.int .i64 0, .int .i64 0, .int .i64 0] 46)).heap.size = w.heap.size + 1) := Lib.hid (by simp)
    generalize w.alloc (.cells #[.int .i64 0, .int .i64 0, .int .i64 0] 46) = wA at hbA hblA HSA ⊢
    have hszA : wA.heap.size = w.heap.size + 1 := HSA.out
    have hbB := hbA.alloc hbA.size (.cells #[.int .i64 0, .int .i64 0, .int .i64 0] 95)
    have hblB : (wA.alloc (.cells #[.int .i64 0, .int .i64 0, .int .i64 0] 95)).heap[w.heap.size + 1]? = some (.cells (arrC K 0) 95 (0, 0)) := by rw [← hszA]; exact heap_alloc_new wA _
    have hblA2 := (Below.heap_alloc wA (.cells #[.int .i64 0, .int .i64 0, .int .i64 0] 95) _ (lt_of_block hblA)).trans hblA
    have hszB : w.heap.size + 1 < (wA.alloc (.cells #[.int .i64 0, .int .i64 0, .int .i64 0] 95)).heap.size := lt_of_block hblB
    clear hszA
    generalize wA.alloc (.cells #[.int .i64 0, .int .i64 0, .int .i64 0] 95) = wB at hbB hblB hblA2 hszB ⊢
    clear hbA hblA
    go_loopw [16] (fun v16 wr => ∃ i : Nat, v16 = .int .i64 i ∧ i ≤ 3 ∧ Hid (∀ (j : Nat) (h : j < ws.length), j < i → NumOk ws[j].t.data.toList 2147483648) ∧ wr.heap[w.heap.size + 1]? = some (.cells (arrC K i) 95 (0, 0)) ∧ wr.heap[w.heap.size]? = some (.cells #[.int .i64 0, .int .i64 0, .int .i64 0] 46 (0, 0)) ∧ Below w.heap.size w wr) (fun v16 _ => 3 - (RowKit.intOf v16).toNat)
    case atStart => exact ⟨0, rfl, Nat.zero_le _, Lib.hid (fun j _ h => absurd h (by omega)), hblB, hblA2, hbB⟩
    case round =>
      obtain ⟨i, rfl, hi, hok, hbl, hbl0, hbr⟩ := hrel
      by_cases hi3 : i < 3
      · have hil : i < ws.length := by omega
        obtain ⟨x0, x1, x2⟩ := hc1 i hil
        have a0 := (hbr.cell (p := ⟨b1, _, none⟩) hlt1).trans x0
        have a1 := (hbr.cell (p := ⟨b1, _, none⟩) hlt1).trans x1
        have a2 := (hbr.cell (p := ⟨b1, _, none⟩) hlt1).trans x2
        have HKI := Lib.hid (HK.out i hil)
        have HOK : Hid (∀ (h : NumOk ws[i].t.data.toList 2147483648) (j : Nat) (hj : j < ws.length), j < i + 1 → NumOk ws[j].t.data.toList 2147483648) := Lib.hid (fun h j hj hji => by
          by_cases e : j = i
          · subst e; exact h
          · exact hok.out j hj (by omega))
        have HBAD : Hid (¬ NumOk ws[i].t.data.toList 2147483648 → lineV ws = none) := Lib.hid (fun h => lineV_bad (List.getElem?_eq_getElem hil) hlen h)
        clear x0 x1 x2
        generalize ws[i].p = xp at *
        generalize ws[i].q = xq at *
        generalize ws[i].t = xt at *
        go_upto_if 28 with (go_at_call 35; refine (number_any xt 2147483648 _ (by omega) (by omega)).mono ?_; rintro e w1 ⟨hres, hb1⟩; rcases hres with ⟨hgood, rfl⟩ | ⟨hbad, rfl⟩)
        all_goals
          have hbx := hbr.alloc hbr.size (.cells #[.int .i64 xp, .int .i64 xq, .string xt] 77)
          have hbw := hbx.trans (hb1.mono hbx.size)
          have hbl1 := (hb1.block _ (Nat.lt_of_lt_of_le (lt_of_block hbl) (by simp))).trans ((Below.heap_alloc wr _ _ (lt_of_block hbl)).trans hbl)
          have hbl2 := (hb1.block _ (Nat.lt_of_lt_of_le (lt_of_block hbl0) (by simp))).trans ((Below.heap_alloc wr _ _ (lt_of_block hbl0)).trans hbl0)
        · obtain ⟨y, hy, _⟩ := arr_cell hbl1 i hi3
          have hfy := frozen_of_row w1 (w.heap.size + 1) i _ _ hbl1
          have hset := arr_set hbl1 hi3
          have HG := Lib.hid (HOK.out hgood)
          rw [HKI.out] at hset
          generalize numV xt.data.toList = N at *
          have hii : (i : Int) < 3 := by omega
          go_wp2
          go_roundw
          case rel => exact ⟨i + 1, by simp, hi3, HG, hset, by
            refine (Below.heap_setCell w1 _ _ _ (by simp)).trans hbl2, hbw.setCell (p := ⟨w.heap.size + 1, i, none⟩) (Nat.le_succ _) _⟩
          case measure => simp [RowKit.intOf] <;> omega
        · have HB := Lib.hid (HBAD.out hbad)
          have c0 := cell_of_row w1 w.heap.size 0 _ _ _ hbl2
          have c1 := cell_of_row w1 w.heap.size 1 _ _ _ hbl2
          have c2 := cell_of_row w1 w.heap.size 2 _ _ _ hbl2
          have f0 := frozen_of_row w1 w.heap.size 0 _ _ hbl2
          have f1 := frozen_of_row w1 w.heap.size 1 _ _ hbl2
          have f2 := frozen_of_row w1 w.heap.size 2 _ _ hbl2
          go_wp2
          exact req_ret (bk := w.heap.size) rfl rfl (set3 hbl2) ⟨⟨_, _, _, _, rfl, (fun h => by cases h), fun _ => HB.out⟩, below3 hbw (Nat.le_refl _) _ _ _⟩
      · obtain rfl : i = 3 := by omega
        obtain ⟨y0, z0, z1⟩ := arr_cell hbl 0 (by omega)
        obtain ⟨y1, z2, z3⟩ := arr_cell hbl 1 (by omega)
        obtain ⟨y2, z4, z5⟩ := arr_cell hbl 2 (by omega)
        have HY : Hid (lineV ws = if rightV y0 y1 y2 = true then some ⟨y0, y1, y2⟩ else none) := Lib.hid (by
          rw [z1 (by omega), z3 (by omega), z5 (by omega), HK.out 0 (by omega), HK.out 1 (by omega), HK.out 2 (by omega)]
          match ws, hlen, hok with
          | [a, b, c], _, hok => exact lineV_right (hok.out 0 (by simp) (by omega)) (hok.out 1 (by simp) (by omega)) (hok.out 2 (by simp) (by omega)))
        have HB1 : Hid (-9223372036854775808 ≤ y1 ∧ y1 ≤ 9223372036854775807) := Lib.hid (by
          rw [z3 (by omega), HK.out 1 (by omega)]
          have := (hok.out 1 (by omega) (by omega)).2.2
          omega)
        clear z1 z3 z5 hok
        have hbx := hbr.alloc hbr.size (.cells #[.int .i64 y0, .int .i64 y1, .int .i64 y2] 46)
        go_upto_region 13 with (fail)
        have hblx := heap_alloc_new wr (.cells #[.int .i64 y0, .int .i64 y1, .int .i64 y2] 46)
        have hbl0x := (Below.heap_alloc wr (.cells #[.int .i64 y0, .int .i64 y1, .int .i64 y2] 46) _ (lt_of_block hbl0)).trans hbl0
        generalize wr.alloc (.cells #[.int .i64 y0, .int .i64 y1, .int .i64 y2] 46) = W at hbx hblx hbl0x ⊢
        obtain ⟨bx, hbxe⟩ : ∃ b, wr.heap.size = b := ⟨_, rfl⟩
        rw [hbxe] at hblx ⊢
        have d0 := cell_of_row W bx 0 _ _ _ hblx
        have d1 := cell_of_row W bx 1 _ _ _ hblx
        have d2 := cell_of_row W bx 2 _ _ _ hblx
        go_region_law (go_simp; go_at_call 18; refine (right_any y0 y1 y2 HB1.out _).mono ?_; rintro e w5 ⟨rfl, hb5⟩; have hblx5 := (hb5.block _ (lt_of_block hblx)).trans hblx; have m0 := cell_of_row w5 bx 0 _ _ _ hblx5; have m1 := cell_of_row w5 bx 1 _ _ _ hblx5; have m2 := cell_of_row w5 bx 2 _ _ _ hblx5; have hbl5 := (hb5.block _ (lt_of_block hbl0x)).trans hbl0x; have k0 := cell_of_row w5 w.heap.size 0 _ _ _ hbl5; have k1 := cell_of_row w5 w.heap.size 1 _ _ _ hbl5; have k2 := cell_of_row w5 w.heap.size 2 _ _ _ hbl5; have f0 := frozen_of_row w5 w.heap.size 0 _ _ hbl5; have f1 := frozen_of_row w5 w.heap.size 1 _ _ hbl5; have f2 := frozen_of_row w5 w.heap.size 2 _ _ hbl5)
        all_goals go_wp2
        all_goals
          refine req_ret (bk := w.heap.size) rfl rfl (set3 hbl5) ⟨⟨_, _, _, _, rfl, fun h => ?_, fun h => ?_⟩, below3 (hbx.drew.trans (hb5.mono hbx.drew.size)) (Nat.le_refl _) _ _ _⟩
          · rw [HY.out, if_pos h]
          · rw [HY.out, if_neg (by rw [h]; decide)]
  · have HL := Lib.hid (lineV_len (by rw [← HN.out]; exact h3))
    have h3' : ((n : Int) != 3) = true := by simp; omega
    go_wp2
    exact req_ret (bk := w.heap.size) rfl rfl (heap_alloc_new w (.cells #[.int .i64 0, .int .i64 0, .int .i64 0] 46)) ⟨⟨_, _, _, _, rfl, (fun h => by cases h), fun _ => HL.out⟩, (Below.refl _ w).alloc (Nat.le_refl _) _⟩

end Go.Proofs.YtnejkfccdnadcaaDoor
