/- Rows of numbers; SameLong; lex.Numbers. -/
import Derived.Test.YtjmokodifkjfgaaDoorLexO
import Derived.Test.YtjmokodifkjfgaaDoorLexC
import Derived.Test.YtjmokodifkjfgaaDoorAppend
namespace Go.Proofs.YtjmokodifkjfgaaDoor
open Go.RowKit Go.Shelf Go.Lib

/-- A slice of int64 in memory, below block B. -/
def NRow (w : World) (B : Nat) (A : Option Addr) (L : List Int) : Prop :=
  0 < L.length → ∃ b off, A = some ⟨b, off, none⟩ ∧ b < B ∧ ∀ i (h : i < L.length), w.cell? ⟨b, off + i, none⟩ = some (.int .i64 L[i])

theorem NRow.below {w w' : World} {B C : Nat} {A : Option Addr} {L : List Int} (h : NRow w B A L) (hb : Below C w w') (hBC : B ≤ C) : NRow w' B A L := by
  intro hl
  obtain ⟨b, off, e, hlt, hc⟩ := h hl
  exact ⟨b, off, e, hlt, fun i hi => (hb.cell (p := ⟨b, _, none⟩) (by show b < C; omega)).trans (hc i hi)⟩

theorem NRow.more {w : World} {B C : Nat} {A : Option Addr} {L : List Int} (h : NRow w B A L) (hBC : B ≤ C) : NRow w C A L := by
  intro hl
  obtain ⟨b, off, e, hlt, hc⟩ := h hl
  exact ⟨b, off, e, by omega, hc⟩

theorem nrow_own {w : World} {base : Nat} {e : TypeId} {v : Value} {L : List Int} (h : w.ownsRow base e 1 v L.length (L.map (Value.int .i64))) :
    ∃ A cap, v = .slice A L.length cap ∧ L.length ≤ cap ∧ (A = none → cap = 0) ∧ NRow w w.heap.size A L := by
  rcases h.2 with ⟨rfl, h0⟩ | ⟨g, cap, cur, rfl, _, hg, hnc, _⟩
  · exact ⟨_, _, by rw [h0], by omega, fun _ => rfl, fun h => by omega⟩
  · refine ⟨_, cap, rfl, hnc, (fun h => by cases h), fun _ => ⟨g, 0, rfl, lt_of_block hg, fun i hi => ?_⟩⟩
    have hc := h.cells (g := g) rfl
    have ha : ∀ j, (⟨g, 0, none⟩ : Addr).add j = ⟨g, 0 + j, none⟩ := fun j => by unfold Addr.add; split <;> simp_all
    have := hc i (.int .i64 L[i]) (by simp [hi])
    rwa [ha] at this

set_option maxHeartbeats 1000000 in
set_option maxRecDepth 100000 in
theorem sameLong_yes (A1 A2 : Option Addr) (c1 c2 : Nat) (L : List Int) (w : World) (hn : L.length ≤ 1000000) (h1 : NRow w w.heap.size A1 L) (h2 : NRow w w.heap.size A2 L) :
    Calls Tryd.prog 21 #[.slice A1 L.length c1, .slice A2 L.length c2] w fun e w' => e = .returned (.bool true) ∧ Below w.heap.size w w' := by
  obtain ⟨n, hn'⟩ : ∃ n, n = L.length := ⟨_, rfl⟩
  rw [← hn'] at hn ⊢
  have HN := Lib.hid hn'
  clear hn'
  go_enter Tryd.func21, Tryd.ntmps21
  go_wp2
  go_loopw [5] (fun v5 wr => ∃ i m : Nat, v5 = .int .i64 i ∧ i ≤ n ∧ wr = w.drewN m) (fun v5 _ => n - (RowKit.intOf v5).toNat)
  case atStart => exact ⟨0, 0, rfl, Nat.zero_le _, rfl⟩
  case round =>
    obtain ⟨i, m, rfl, hi, rfl⟩ := hrel
    by_cases hin : i < n
    · have hil : i < L.length := by rw [← HN.out]; exact hin
      obtain ⟨b1, o1, rfl, _, hc1⟩ := h1 (by omega)
      obtain ⟨b2, o2, rfl, _, hc2⟩ := h2 (by omega)
      have a0 := hc1 i hil
      have d0 := hc2 i hil
      clear hc1 hc2 h1 h2
      generalize L[i] = x at *
      go_wp2
      go_quiet (fail)
      go_wp2
      go_roundw
      case rel => exact ⟨i + 1, m + nq, by simp, hin, rfl⟩
      case measure => simp [RowKit.intOf]; omega
    · obtain rfl : i = n := by omega
      go_wp2
      go_ret
      exact ⟨rfl, below_drewN (Below.refl _ _) _⟩

theorem infoL : (Tryd.prog.info? 2).map (fun i => (i.zero, i.size, i.bytes)) = some (some (.int .i64 0), 1, 8) := by kernel_rfl

/-- What Numbers gives for the pieces. -/
def AllNum (L : List ByteArray) (most : Int) : Prop := ∀ (i : Nat) x, L[i]? = some x → NumOk x.data.toList most
def numsOf (L : List ByteArray) : List Int := L.map fun x => (numV x.data.toList : Int)

theorem take_num {L : List ByteArray} {i : Nat} {x : ByteArray} (h : L[i]? = some x) : numsOf (L.take (i + 1)) = numsOf (L.take i) ++ [(numV x.data.toList : Int)] := by
  obtain ⟨hk, he⟩ := List.getElem?_eq_some_iff.1 h
  unfold numsOf
  rw [List.take_succ_eq_append_getElem hk, List.map_append, he]
  rfl

set_option maxHeartbeats 2000000 in
set_option maxRecDepth 100000 in
theorem numbers_any (s : ByteArray) (hs : s.size ≤ 65536) (most : Int) (m : Int) (w : World) (hm1 : -9223372036854775808 ≤ most) (hm2 : most ≤ 9223372036854775807) (L : List ByteArray) (hL : Lib.splitB ⟨#[44]⟩ 0 (Lib.countB s ⟨#[44]⟩) s = L) (hLl : L.length ≤ 1000000)
    (hm : w.cell? ⟨1, 0, none⟩ = some (.int .i64 m)) :
    Calls Tryd.prog 19 #[.string s, .int .i64 most] w fun e w' =>
      ((AllNum L most ∧ ∃ v, e = .returned (.tuple #[v, .bool true]) ∧ w'.ownsRow w.heap.size 2 1 v L.length ((numsOf L).map (Value.int .i64))) ∨ (¬ AllNum L most ∧ e = .returned (.tuple #[.slice none 0 0, .bool false]))) ∧ Below w.heap.size w w' := by
  obtain ⟨i0, hi0, hz0, hz1, hz2⟩ := info_parts infoL
  have hsplit := (Tryd.strings_Split s ⟨#[44]⟩ m w (by omega) hm (by decide)).mono (R' := fun e w' => e = .returned (.slice (some ⟨w.heap.size, 0, none⟩) L.length L.length) ∧ w' = w.alloc (.cells (L.map Value.string).toArray 9)) (fun e w' ⟨he, hw⟩ => by
    have hlen := Lib.splitB_all ⟨#[44]⟩ (by decide) 0 _ s rfl
    rw [hL] at hlen hw
    exact ⟨by rw [he, hlen], hw⟩)
  clear hL
  go_enter Tryd.func19, Tryd.ntmps19
  go_wp2_with (go_at_call 31; refine hsplit.mono ?_; rintro e w' ⟨rfl, rfl⟩)
  have hnew := heap_alloc_new w (.cells (L.map Value.string).toArray 9)
  have hb0 := (Below.refl w.heap.size w).alloc (Nat.le_refl _) (.cells (L.map Value.string).toArray 9)
  generalize w.alloc (.cells (L.map Value.string).toArray 9) = W0 at hnew hb0 ⊢
  obtain ⟨B, hB⟩ : ∃ B, w.heap.size = B := ⟨_, rfl⟩
  rw [hB] at hnew hb0 ⊢
  clear hsplit
  go_loopw [6, 14] (fun v6 v14 wr => ∃ (i : Nat), v14 = .int .i64 i ∧ i ≤ L.length ∧ wr.ownsRow (B + 1) 2 1 v6 i ((numsOf (L.take i)).map (Value.int .i64)) ∧ wr.heap[B]? = some (.cells (L.map Value.string).toArray 9 (0, 0)) ∧ Below B w wr ∧
      Hid (∀ (j : Nat) x, j < i → L[j]? = some x → NumOk x.data.toList most)) (fun _ v14 _ => L.length - (RowKit.intOf v14).toNat)
  case atStart => exact ⟨0, rfl, Nat.zero_le _, World.ownsRow_nil _ _ _ _, hnew, hb0, Lib.hid (fun j x h => absurd h (by omega))⟩
  case round =>
    obtain ⟨i, rfl, hi, hrow, hblk, hbw, hok⟩ := hrel
    by_cases hil : i < L.length
    · obtain ⟨x, hx⟩ : ∃ x, L[i]? = some x := ⟨L[i], by simp [hil]⟩
      have hcell : wr.cell? ⟨B, i, none⟩ = some (.string x) := by simp [World.cell?, hblk, hx]
      have HX := Lib.hid hx
      have hlt := lt_of_block hblk
      clear hx
      go_upto_if 25 with (go_at_call 17; refine (number_any x most _ hm1 hm2).mono ?_; rintro e w1 ⟨hres, hb1⟩; have hblk1 := (hb1.block B hlt).trans hblk; have hrow1 := ownsRow_below hrow hb1 (Nat.le_refl _); rcases hres with ⟨hgood, rfl⟩ | ⟨hbad, rfl⟩)
      · have hbw1 := hbw.trans (hb1.mono (Nat.le_of_lt hlt))
        have hsz1 := lt_of_block hblk1
        generalize hnv : numV x.data.toList = N at *
        have HNV := Lib.hid hnv
        clear hnv
        go_wp2_with (at_builtin; refine wpList_append_own _ rfl _ _ 34 rfl (B + 1) 2 i0 _ 1 8 Tryd.underlying34 hi0 hz0 hz1 hz2 rfl (by decide) _ _ _ rfl (hrow1.alloc _) ⟨w1.heap.size, 0, none⟩ 1 1 [.int .i64 (N : Int)] rfl rfl (cell_one_new _ _ _) (by simp [Value.oneCell']) (by unfold maxLen; omega) (by omega) (by simp; omega) ?_; intro v' w2 hown' hgrow _)
        have hbw2 : Below B w w2 := (hbw1.alloc (Nat.le_of_lt hsz1) _).grown hgrow (by simp; omega) (fun k e => by have := (hrow1.lt k e).1; omega)
        have hblk2 : w2.heap[B]? = some (.cells (L.map Value.string).toArray 9 (0, 0)) := by
          refine (hgrow.block B (by simp; omega) (fun e => ?_)).trans ((Below.heap_alloc w1 _ B hsz1).trans hblk1)
          have := (hrow1.lt B e.symm).1
          omega
        go_roundw
        case rel => exact ⟨i + 1, by simp, hil, by rw [take_num HX.out, HNV.out]; simpa using hown', hblk2, hbw2, Lib.hid (fun j y hj hy => by
          by_cases hji : j = i
          · subst hji
            rw [HX.out] at hy
            cases hy
            exact hgood
          · exact hok.out j y (by omega) hy)⟩
        case measure => simp [RowKit.intOf]; omega
      · go_wp2
        go_ret2
        exact ⟨.inr ⟨fun h => hbad (h i x HX.out), rfl⟩, by rw [hB]; exact hbw.trans (hb1.mono (Nat.le_of_lt hlt))⟩
    · obtain rfl : i = L.length := by omega
      go_wp2
      go_ret2
      exact ⟨.inl ⟨fun j x hx => hok.out j x (List.getElem?_eq_some_iff.1 hx).1 hx, _, rfl, by rw [List.take_length] at hrow; exact ownsRow_base hrow (by omega)⟩, by rw [hB]; exact hbw⟩

end Go.Proofs.YtjmokodifkjfgaaDoor
