/- demand.Check and rta.may, at demands that may be. -/
import Derived.Test.YtcmldhanidkdjaaRtaA
import Derived.Deep.QuietTactic
import Derived.BigQuiet
import Derived.Deep.DeepFit
namespace Go.Proofs.Ytcmldhanidkdjaa
open Go.RowKit Go.Shelf

/-- A demand. -/
structure De where
  c : Int
  d : Int
  t : Int

def De.Ok (x : De) : Prop := 0 ≤ x.c ∧ x.c ≤ 1099511627776 ∧ 1 ≤ x.d ∧ x.d ≤ x.t ∧ x.t ≤ 1073741824

/-- A slice of demands in memory, below block B: its address A (asked for only where there is an element), its elements. -/
def DRow (w : World) (B : Nat) (A : Option Addr) (L : List De) : Prop :=
  0 < L.length → ∃ b off, A = some ⟨b, off, none⟩ ∧ b < B ∧ ∀ i (h : i < L.length),
    w.cell? ⟨b, off + i * 3, none⟩ = some (.int .i64 L[i].c) ∧ w.cell? ⟨b, off + i * 3 + 1, none⟩ = some (.int .i64 L[i].d) ∧ w.cell? ⟨b, off + i * 3 + 2, none⟩ = some (.int .i64 L[i].t)

theorem DRow.below {w w' : World} {B C : Nat} {A : Option Addr} {L : List De} (h : DRow w B A L) (hb : Below C w w') (hBC : B ≤ C) : DRow w' B A L := by
  intro hl
  obtain ⟨b, off, e, hlt, hc⟩ := h hl
  refine ⟨b, off, e, hlt, fun i hi => ?_⟩
  obtain ⟨h0, h1, h2⟩ := hc i hi
  exact ⟨(hb.cell (p := ⟨b, _, none⟩) (by show b < C; omega)).trans h0, (hb.cell (p := ⟨b, _, none⟩) (by show b < C; omega)).trans h1, (hb.cell (p := ⟨b, _, none⟩) (by show b < C; omega)).trans h2⟩

theorem DRow.more {w : World} {B C : Nat} {A : Option Addr} {L : List De} (h : DRow w B A L) (hBC : B ≤ C) : DRow w C A L := by
  intro hl
  obtain ⟨b, off, e, hlt, hc⟩ := h hl
  exact ⟨b, off, e, by omega, hc⟩

/-- A demand that may not be. -/
def badB (c d t : Int) : Bool := decide (c < 0) || decide (1099511627776 < c) || decide (d < 1) || decide (t < d) || decide (1073741824 < t)

theorem badB_no {c d t : Int} (h0 : 0 ≤ c) (h1 : c ≤ 1099511627776) (h2 : 1 ≤ d) (h3 : d ≤ t) (h4 : t ≤ 1073741824) : badB c d t = false := by
  simp [badB]; omega

set_option maxHeartbeats 400000 in
theorem wrong_any (c d t : Int) (w : World) :
    Calls Try.prog 24 #[.agg #[.int .i64 c, .int .i64 d, .int .i64 t]] w fun e w' => e = .returned (.bool (badB c d t)) ∧ Below w.heap.size w w' := by
  go_enter Try.func24, Try.ntmps24
  go_wp2
  all_goals
    go_ret
    exact ⟨ret_bool (by first | rfl | (symm; simp only [badB, Bool.or_eq_true, decide_eq_true_eq]; omega)), (Below.refl _ _).alloc (Nat.le_refl _) _⟩

theorem wrong_no (c d t : Int) (w : World) (h0 : 0 ≤ c) (h1 : c ≤ 1099511627776) (h2 : 1 ≤ d) (h3 : d ≤ t) (h4 : t ≤ 1073741824) :
    Calls Try.prog 24 #[.agg #[.int .i64 c, .int .i64 d, .int .i64 t]] w fun e w' => e = .returned (.bool false) ∧ Below w.heap.size w w' :=
  (wrong_any c d t w).mono fun _ _ ⟨he, hb⟩ => ⟨by rw [he, badB_no h0 h1 h2 h3 h4], hb⟩

set_option maxHeartbeats 400000 in
theorem indexFunc_no (A : Option Addr) (cap : Nat) (L : List De) (w : World) (hL : ∀ x ∈ L, x.Ok) (hn : L.length ≤ 64) (hr : DRow w w.heap.size A L) :
    Calls Try.prog 29 #[.slice A L.length cap, .func (.func 24) #[] #[]] w fun e w' => e = .returned (.int .i64 (-1)) ∧ Below w.heap.size w w' := by
  obtain ⟨n, hn'⟩ : ∃ n, n = L.length := ⟨_, rfl⟩
  rw [← hn'] at hn ⊢
  have HN := Lib.hid hn'
  clear hn'
  go_enter Try.func29, Try.ntmps29
  go_wp2
  go_loopw [8] (fun i wr => ∃ k : Nat, k ≤ n ∧ i = .int .i64 k ∧ Below w.heap.size w wr) (fun i _ => n - (intOf i).toNat)
  case atStart => exact ⟨0, Nat.zero_le _, rfl, Below.refl _ _⟩
  case round =>
    obtain ⟨k, hk, rfl, hb⟩ := hrel
    by_cases hlt : k < n
    · obtain ⟨b, off, rfl, hbl, hc⟩ := hr (by rw [← HN.out]; omega)
      obtain ⟨c0, c1, c2⟩ := hc k (by rw [← HN.out]; omega)
      obtain ⟨v0, v1, v2, v3, v4⟩ := hL (L[k]'(by rw [← HN.out]; omega)) (List.getElem_mem _)
      generalize hc' : (L[k]'(by rw [← HN.out]; omega)).c = c at *
      generalize hd' : (L[k]'(by rw [← HN.out]; omega)).d = d at *
      generalize ht' : (L[k]'(by rw [← HN.out]; omega)).t = t at *
      clear hc hc' hd' ht'
      have d0 := (hb.cell (p := ⟨b, off + k * 3, none⟩) hbl).trans c0
      have d1 := (hb.cell (p := ⟨b, off + k * 3 + 1, none⟩) hbl).trans c1
      have d2 := (hb.cell (p := ⟨b, off + k * 3 + 2, none⟩) hbl).trans c2
      clear c0 c1 c2
      go_wp2_with (go_at_call 24; refine (wrong_no _ _ _ _ v0 v1 v2 v3 v4).mono ?_; rintro e w' ⟨rfl, hb'⟩)
      go_roundw
      case rel => exact ⟨k + 1, by omega, by go_num, hb.trans (hb'.mono hb.size)⟩
      case measure => simp [intOf]; omega
    · go_wp2
      go_ret
      exact ⟨rfl, hb⟩

set_option maxHeartbeats 400000 in
theorem containsFunc_no (A : Option Addr) (cap : Nat) (L : List De) (w : World) (hL : ∀ x ∈ L, x.Ok) (hn : L.length ≤ 64) (hr : DRow w w.heap.size A L) :
    Calls Try.prog 25 #[.slice A L.length cap, .func (.func 24) #[] #[]] w fun e w' => e = .returned (.bool false) ∧ Below w.heap.size w w' := by
  have H := Lib.hid (indexFunc_no A cap L w hL hn hr)
  clear hL hr
  go_enter Try.func25, Try.ntmps25
  go_wp2_with (go_at_call 29; refine H.out.mono ?_; rintro e w' ⟨rfl, hb'⟩)
  go_ret
  exact ⟨rfl, hb'⟩

set_option maxHeartbeats 400000 in
theorem check_yes (A : Option Addr) (cap : Nat) (L : List De) (w : World) (hL : ∀ x ∈ L, x.Ok) (hn : L.length ≤ 64) (hr : DRow w w.heap.size A L) :
    Calls Try.prog 19 #[.slice A L.length cap] w fun e w' => e = .returned (.bool true) ∧ Below w.heap.size w w' := by
  have H := Lib.hid (containsFunc_no A cap L w hL hn hr)
  clear hL hr
  go_enter Try.func19, Try.ntmps19
  go_wp2_with (go_at_call 25; refine H.out.mono ?_; rintro e w' ⟨rfl, hb'⟩)
  go_ret
  exact ⟨rfl, hb'⟩

set_option maxHeartbeats 400000 in
theorem may_yes (A : Option Addr) (cap : Nat) (L : List De) (x : Int) (w : World) (hL : ∀ x ∈ L, x.Ok) (hn : L.length ≤ 64) (hr : DRow w w.heap.size A L) (hx : 1 ≤ x) (hx' : x ≤ 2147483648) :
    Calls Try.prog 13 #[.slice A L.length cap, .int .i64 x] w fun e w' => e = .returned (.bool true) ∧ Below w.heap.size w w' := by
  have H := Lib.hid (check_yes A cap L w hL hn hr)
  clear hL hr
  go_enter Try.func13, Try.ntmps13
  go_wp2_with (go_at_call 19; refine H.out.mono ?_; rintro e w' ⟨rfl, hb'⟩)
  go_ret
  exact ⟨rfl, hb'⟩

end Go.Proofs.Ytcmldhanidkdjaa
