/- rta.Work: the put of its loop, and the whole. -/
import Derived.Test.YtcmldhanidkdjaaRtaB
import Derived.OneCell
namespace Go.Proofs.Ytcmldhanidkdjaa
open Go.RowKit Go.Shelf

theorem cdiv_nonneg {a b : Int} (ha : 0 ≤ a) (hb : 1 ≤ b) : 0 ≤ cdiv a b := by
  unfold cdiv
  have : 0 ≤ a / b := Int.ediv_nonneg ha (by omega)
  split <;> omega

theorem cdiv_le {a b : Int} (ha : 0 ≤ a) (hb : 1 ≤ b) : cdiv a b ≤ a := by
  unfold cdiv
  have h1 : a / b ≤ a := Int.ediv_le_self _ ha
  split
  · exact h1
  · rename_i hne
    have h2 : b * (a / b) + a % b = a := Int.mul_ediv_add_emod a b
    have h3 : 0 ≤ a % b := Int.emod_nonneg _ (by omega)
    have h4 : a / b ≤ b * (a / b) := by
      have h0 : 0 ≤ a / b := Int.ediv_nonneg ha (by omega)
      have := Int.mul_le_mul_of_nonneg_right hb h0
      omega
    omega

/-- What demands may come to by a time. -/
def wsum (X : Int) : List De → Int
  | [] => 0
  | x :: r => x.c * cdiv X x.t + wsum X r

theorem wsum_append (X : Int) (a b : List De) : wsum X (a ++ b) = wsum X a + wsum X b := by
  induction a with
  | nil => simp [wsum]
  | cons x r ih => simp [wsum, ih]; omega

theorem part_nonneg {X : Int} (hX : 0 ≤ X) {x : De} (h : x.Ok) : 0 ≤ x.c * cdiv X x.t :=
  Int.mul_nonneg h.1 (cdiv_nonneg hX (by obtain ⟨_, _, h2, h3, _⟩ := h; omega))

theorem wsum_nonneg {X : Int} (hX : 0 ≤ X) {L : List De} (h : ∀ x ∈ L, x.Ok) : 0 ≤ wsum X L := by
  induction L with
  | nil => simp [wsum]
  | cons x r ih =>
    have h1 := part_nonneg hX (h x (List.mem_cons_self ..))
    have h2 := ih fun y hy => h y (List.mem_cons_of_mem _ hy)
    simp only [wsum]; omega

theorem wsum_take_le {X : Int} (hX : 0 ≤ X) {L : List De} (h : ∀ x ∈ L, x.Ok) (k : Nat) : wsum X (L.take k) ≤ wsum X L := by
  have e : wsum X L = wsum X (L.take k) + wsum X (L.drop k) := by rw [← wsum_append, List.take_append_drop]
  have := wsum_nonneg hX (L := L.drop k) fun y hy => h y (List.mem_of_mem_drop hy)
  omega

theorem wsum_succ (X : Int) (L : List De) (k : Nat) (hk : k < L.length) : wsum X (L.take (k + 1)) = wsum X (L.take k) + L[k].c * cdiv X L[k].t := by
  rw [List.take_succ_eq_append_getElem hk, wsum_append]; simp [wsum]

set_option maxHeartbeats 400000 in
theorem put_any (c d t X S : Int) (bx bs bo : Nat) (w : World) (hx : w.cell? ⟨bx, 0, none⟩ = some (.int .i64 X)) (hs : w.cell? ⟨bs, 0, none⟩ = some (.int .u64 S)) (hsf : w.frozen? ⟨bs, 0, none⟩ = false)
    (ho : w.cell? ⟨bo, 0, none⟩ = some (.bool true)) (hof : w.frozen? ⟨bo, 0, none⟩ = false) (hne : bs < bo) (hlt : bo < w.heap.size) (hlx : bx < bs)
    (c0 : 0 ≤ c) (c1 : c ≤ 1099511627776) (t0 : 1 ≤ t) (t1 : t ≤ 1073741824) (X0 : 1 ≤ X) (X1 : X ≤ 2147483648) (S0 : 0 ≤ S) (hS : S + c * cdiv X t ≤ 4611686018427387904) :
    Calls Try.prog 14 #[.agg #[.int .i64 c, .int .i64 d, .int .i64 t], .pointer (some ⟨bx, 0, none⟩), .pointer (some ⟨bs, 0, none⟩), .pointer (some ⟨bo, 0, none⟩)] w fun e w' =>
      e = .returned (.tuple #[]) ∧ ∃ o, w' = ((w.setCell ⟨bs, 0, none⟩ (.int .u64 (S + c * cdiv X t))).setCell ⟨bo, 0, none⟩ (.bool true)).alloc o := by
  have q0 : 0 ≤ cdiv X t := cdiv_nonneg (by omega) t0
  have q1 : cdiv X t ≤ X := cdiv_le (by omega) t0
  have p0 : 0 ≤ c * cdiv X t := Int.mul_nonneg c0 q0
  have lx : bx < w.heap.size := by omega
  have ls : bs < w.heap.size := by omega
  have hm := Lib.hid (mul_any c (cdiv X t) · c0 q0 (by omega) (by omega) (by omega))
  go_enter Try.func14, Try.ntmps14
  go_wp2_with (first
    | (go_at_call 15; refine (ceilDiv_any _ _ _ (by omega) (by omega) (by omega) (by omega)).mono ?_; rintro e w' ⟨rfl, rfl⟩)
    | (go_at_call 16; refine (hm.out _).mono ?_; rintro e w' ⟨rfl, rfl⟩)
    | (go_at_call 17; refine (add_any _ _ _ (by omega) (by omega) (by omega)).mono ?_; rintro e w' ⟨rfl, rfl⟩))
  go_end0
  exact ⟨rfl, _, rfl⟩

/-- What the loop of Work keeps: the boxes of the time, the sum, and 'ok'. -/
def Sums (w wr : World) (bx bs : Nat) (X S : Int) : Prop :=
  At wr bx (.int .i64 X) 2 ∧ At wr bs (.int .u64 S) 39 ∧ At wr (bs + 1) (.bool true) 4 ∧ Below w.heap.size w wr

theorem Sums.alloc {w wr : World} {bx bs : Nat} {X S : Int} (h : Sums w wr bx bs X S) (o : Obj) : Sums w (wr.alloc o) bx bs X S :=
  ⟨h.1.alloc o, h.2.1.alloc o, h.2.2.1.alloc o, h.2.2.2.alloc h.2.2.2.size o⟩

theorem Sums.put {w wr : World} {bx bs : Nat} {X S : Int} (h : Sums w wr bx bs X S) (hx : bx < bs) (hw : w.heap.size ≤ bx) (S' : Int) :
    Sums w ((wr.setCell ⟨bs, 0, none⟩ (.int .u64 S')).setCell ⟨bs + 1, 0, none⟩ (.bool true)) bx bs X S' :=
  ⟨(h.1.far (by show bx ≠ bs; omega) _).far (by show bx ≠ bs + 1; omega) _, (h.2.1.set _).far (by show bs ≠ bs + 1; omega) _, (h.2.2.1.far (by show bs + 1 ≠ bs; omega) _).set _,
    (h.2.2.2.setCell (by show w.heap.size ≤ bs; omega) _).setCell (by show w.heap.size ≤ bs + 1; omega) _⟩

set_option maxHeartbeats 1000000 in
theorem work_any (A : Option Addr) (cap : Nat) (L : List De) (X : Int) (w : World) (hL : ∀ x ∈ L, x.Ok) (hn : L.length ≤ 64) (hr : DRow w w.heap.size A L) (hX : 1 ≤ X) (hX' : X ≤ 2147483648) (hW : wsum X L ≤ 4611686018427387904) :
    Calls Try.prog 10 #[.slice A L.length cap, .int .i64 X] w fun e w' => e = .returned (.tuple #[.int .i64 (wsum X L), .bool true]) ∧ Below w.heap.size w w' := by
  have hmay := Lib.hid (fun W h => may_yes A cap L X W hL hn h hX hX')
  have hW0 := wsum_nonneg (X := X) (by omega) hL
  obtain ⟨n, hn'⟩ : ∃ n, n = L.length := ⟨_, rfl⟩
  rw [← hn'] at hn hmay ⊢
  have HN := Lib.hid hn'
  clear hn'
  have hr1 : DRow (w.alloc (.cells #[.int .i64 X] 2)) (w.heap.size + 1) A L := (hr.below ((Below.refl _ _).alloc (Nat.le_refl _) _) (Nat.le_refl _)).more (by omega)
  have hx1 := At.new w (.int .i64 X) 2
  go_enter Try.func10, Try.ntmps10
  go_wp2_with (first
    | (go_at_call 13; refine (hmay.out _ (by simpa using hr1)).mono ?_; rintro e w1 ⟨rfl, hb1⟩; have hx2 := (hx1.below hb1 (by simp)); have hxc := hx2.cell))
  have hsz : w.heap.size + 1 ≤ w1.heap.size := by have := hb1.size; simpa using this
  have hbb : Below w.heap.size w w1 := ((Below.refl _ _).alloc (Nat.le_refl _) _).trans (hb1.mono (by simp))
  have hs0 : Sums w ((w1.alloc (.cells #[.int .u64 0] 39)).alloc (.cells #[.bool true] 4)) w.heap.size w1.heap.size X 0 :=
    ⟨(hx2.alloc _).alloc _, (At.new w1 _ _).alloc _, by have := At.new (w1.alloc (.cells #[.int .u64 0] 39)) (.bool true) 4; simpa using this, (hbb.alloc hbb.size _).alloc (by simp; omega) _⟩
  clear hmay hx1 hr1 hx2 hxc hb1 hbb
  obtain ⟨m, hm⟩ : ∃ m, m = w1.heap.size := ⟨_, rfl⟩
  rw [← hm] at hs0 hsz ⊢
  go_loopw [18] (fun i wr => ∃ k : Nat, k ≤ n ∧ i = .int .i64 k ∧ Sums w wr w.heap.size m X (wsum X (L.take k))) (fun i _ => n - (intOf i).toNat)
  case atStart => exact ⟨0, Nat.zero_le _, rfl, by simpa [wsum] using hs0⟩
  case round =>
    clear hm hs0
    obtain ⟨k, hk, rfl, hs⟩ := hrel
    have hc1 := hs.1.cell
    have hc2 := hs.2.1.cell
    have hc3 := hs.2.2.1.cell
    have hf2 := hs.2.1.free
    have hf3 := hs.2.2.1.free
    have hlt3 := hs.2.2.1.lt
    have hS0 : 0 ≤ wsum X (L.take k) := wsum_nonneg (by omega) fun y hy => hL y (List.mem_of_mem_take hy)
    have hS1 := wsum_take_le (X := X) (by omega) hL k
    by_cases hlt : k < n
    · have hk' : k < L.length := by rw [← HN.out]; exact hlt
      obtain ⟨b, off, rfl, hbl, hc⟩ := hr (by omega)
      have hsucc := wsum_succ X L k hk'
      have hS2 := wsum_take_le (X := X) (by omega) hL (k + 1)
      rw [hsucc] at hS2
      have hok := hL L[k] (List.getElem_mem _)
      obtain ⟨c0, c1, c2⟩ := hc k hk'
      have d0 := (hs.2.2.2.cell (p := ⟨b, off + k * 3, none⟩) hbl).trans c0
      have d1 := (hs.2.2.2.cell (p := ⟨b, off + k * 3 + 1, none⟩) hbl).trans c1
      have d2 := (hs.2.2.2.cell (p := ⟨b, off + k * 3 + 2, none⟩) hbl).trans c2
      clear c0 c1 c2 hc
      generalize L[k] = x at hsucc hS2 hok d0 d1 d2
      obtain ⟨c, d, t⟩ := x
      obtain ⟨v0, v1, v2, v3, v4⟩ := hok
      dsimp only at hsucc hS2 d0 d1 d2 v0 v1 v2 v3 v4
      have HS := Lib.hid hsucc
      clear hsucc
      have hsA := hs.alloc (.cells #[.int .i64 c, .int .i64 d, .int .i64 t] 29)
      have hA := Lib.hid (put_any c d t X (wsum X (L.take k)) w.heap.size m (m + 1) _ hsA.1.cell hsA.2.1.cell hsA.2.1.free hsA.2.2.1.cell hsA.2.2.1.free (by omega) hsA.2.2.1.lt (by omega) v0 v1 (by omega) v4 hX hX' hS0 (by omega))
      have hput := Lib.hid (hsA.put (by omega) (Nat.le_refl _) (wsum X (L.take k) + c * cdiv X t))
      clear hsA
      go_wp2_with (go_at_call 14; refine hA.out.mono ?_; rintro e w' ⟨rfl, o, rfl⟩)
      go_roundw
      case rel => exact ⟨k + 1, by omega, by go_num, by rw [HS.out]; exact hput.out.alloc o⟩
      case measure => simp [intOf]; omega
    · obtain rfl : k = n := by omega
      have e : L.take k = L := by rw [HN.out]; exact List.take_length
      have HE := Lib.hid e
      clear e
      go_wp2
      go_ret2
      exact ⟨(by rw [HE.out]; rfl), hs.2.2.2⟩

end Go.Proofs.Ytcmldhanidkdjaa
