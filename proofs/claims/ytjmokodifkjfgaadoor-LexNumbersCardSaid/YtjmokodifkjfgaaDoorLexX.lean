/- The document's Join and Numbers. -/
import Derived.Test.YtjmokodifkjfgaaDoorLexV
namespace Go.Proofs.YtjmokodifkjfgaaDoor
open Go.RowKit Go.Shelf Go.Lib

theorem join_snoc (sep : List UInt8) : ∀ (L : List (List UInt8)) (x : List UInt8), L ≠ [] → Lib.join (L ++ [x]) sep = Lib.join L sep ++ sep ++ x := by
  intro L x hL
  cases L with
  | nil => exact absurd rfl hL
  | cons a L =>
    rw [List.cons_append, Lib.join_cons, Lib.join_cons]
    have : ∀ M : List (List UInt8), Lib.joinTail sep (M ++ [x]) = Lib.joinTail sep M ++ sep ++ x := by
      intro M
      induction M with
      | nil => simp [Lib.joinTail]
      | cons b M ih =>
        have e1 : Lib.joinTail sep (b :: M ++ [x]) = sep ++ b ++ Lib.joinTail sep (M ++ [x]) := by simp [Lib.joinTail]
        have e2 : Lib.joinTail sep (b :: M) = sep ++ b ++ Lib.joinTail sep M := by simp [Lib.joinTail]
        rw [e1, e2, ih]
        simp
    rw [this]
    simp

theorem take_itoa {L : List Int} {i : Nat} (h : i < L.length) : (L.take (i + 1)).map itoa = (L.take i).map itoa ++ [itoa L[i]] := by
  rw [List.take_succ_eq_append_getElem h, List.map_append]
  rfl

set_option maxHeartbeats 2000000 in
set_option maxRecDepth 100000 in
theorem refJoin_any (A : Option Addr) (cap : Nat) (L : List Int) (w : World) (hL : ∀ x ∈ L, -9223372036854775808 ≤ x ∧ x ≤ 9223372036854775807) (hn : L.length ≤ 1000) (hr : NRow w w.heap.size A L) :
    Calls Tryd.prog 27 #[.slice A L.length cap] w fun e w' => e = .returned (.string ⟨(Lib.join (L.map itoa) [44]).toArray⟩) ∧ Below w.heap.size w w' := by
  obtain ⟨n, hn'⟩ : ∃ n, n = L.length := ⟨_, rfl⟩
  rw [← hn'] at hn ⊢
  have HN := Lib.hid hn'
  clear hn'
  have HLEN : Hid (∀ i, (Lib.join ((L.take i).map itoa) [44]).length ≤ 30000) := Lib.hid (fun i => by
    have h1 := join_len [44] ((L.take i).map itoa) (fun y hy => by
      obtain ⟨z, hz, rfl⟩ := List.mem_map.1 hy
      have := hL z (List.mem_of_mem_take hz)
      exact itoa_len z this.1 this.2)
    rw [List.length_map, List.length_take, ← HN.out] at h1
    simp only [List.length_cons, List.length_nil] at h1
    omega)
  go_enter Tryd.func27, Tryd.ntmps27
  go_wp2
  go_loopw [3, 4] (fun v3 v4 wr => ∃ (i : Nat) (S : ByteArray), v3 = .string S ∧ v4 = .int .i64 i ∧ i ≤ n ∧ Hid (S.data.toList = Lib.join ((L.take i).map itoa) [44]) ∧ Below w.heap.size w wr) (fun _ v4 _ => n - (RowKit.intOf v4).toNat)
  case atStart => exact ⟨0, _, rfl, rfl, Nat.zero_le _, Lib.hid (by simp [Lib.join_nil]), Below.refl _ _⟩
  case round =>
    obtain ⟨i, S, rfl, rfl, hi, hS, hbw⟩ := hrel
    by_cases hin : i < n
    · have hil : i < L.length := by rw [← HN.out]; exact hin
      obtain ⟨b1, o1, rfl, hlt1, hc1⟩ := hr (by omega)
      have a0 := (hbw.cell (p := ⟨b1, _, none⟩) hlt1).trans (hc1 i hil)
      obtain ⟨x1, x2⟩ := hL L[i] (List.getElem_mem hil)
      have HT := Lib.hid (take_itoa hil)
      have hz := itoa_len L[i] x1 x2
      generalize hxx : L[i] = x at *
      clear hc1 hxx
      have hsz : S.size ≤ 30000 := by rw [Lib.size_eq, hS.out]; exact HLEN.out i
      have hd := Lib.hid (refDigits_any x x1 x2)
      by_cases hi0 : 0 < i
      · have HE : Hid (∀ T : ByteArray, T = S ++ ⟨#[44]⟩ ++ ⟨(itoa x).toArray⟩ → T.data.toList = Lib.join ((L.take (i + 1)).map itoa) [44]) := Lib.hid (fun T hT => by
          rw [HT.out, join_snoc [44] _ _ (by
            intro e
            have h1 := congrArg List.length e
            rw [List.length_map, List.length_take, ← HN.out, List.length_nil] at h1
            omega), ← hS.out, hT]
          simp)
        go_wp2_with (go_at_call 26; refine (hd.out _).mono ?_; rintro e w2 ⟨rfl, hb2⟩)
        go_roundw
        case rel => exact ⟨i + 1, _, rfl, by simp, hin, Lib.hid (HE.out _ rfl), hbw.trans (hb2.mono hbw.size)⟩
        case measure => simp [RowKit.intOf]; omega
      · obtain rfl : i = 0 := by omega
        rw [Nat.add_zero] at a0
        have HE : Hid (∀ T : ByteArray, T = S ++ ⟨(itoa x).toArray⟩ → T.data.toList = Lib.join ((L.take (0 + 1)).map itoa) [44]) := Lib.hid (fun T hT => by
          rw [HT.out, hT]
          have := hS.out
          simp [Lib.join_nil] at this
          simp [this, Lib.join_one])
        go_wp2_with (go_at_call 26; refine (hd.out _).mono ?_; rintro e w2 ⟨rfl, hb2⟩)
        go_roundw
        case rel => exact ⟨1, _, rfl, by simp, hin, Lib.hid (HE.out _ rfl), hbw.trans (hb2.mono hbw.size)⟩
        case measure => simp [RowKit.intOf]; omega
    · obtain rfl : i = n := by omega
      go_wp2
      go_ret
      exact ⟨by
        have h1 := hS.out
        rw [HN.out, List.take_length] at h1
        rw [← h1]
        rfl, hbw⟩

/-- Pieces, counted: k are read, the next one begins at p; at i stands no comma from p on. -/
def PcsAt (L : List ByteArray) (l : List UInt8) (i p k : Nat) : Prop :=
  k ≤ L.length ∧ ((i ≤ l.length ∧ p ≤ i ∧ (L.drop k).map (·.data.toList) = slc 44 (l.drop p) ∧ ∀ (j : Nat), p ≤ j → j < i → l[j]? ≠ some 44) ∨ (i = l.length + 1 ∧ k = L.length))

theorem pcs_on {L : List ByteArray} {l : List UInt8} {i p k : Nat} (h : PcsAt L l i p k) (hi : i < l.length) (hc : l[i]? ≠ some 44) : PcsAt L l (i + 1) p k := by
  obtain ⟨hk, ⟨h1, h2, h3, h4⟩ | ⟨h1, _⟩⟩ := h
  · exact ⟨hk, .inl ⟨hi, by omega, h3, fun j hj hji => by
      by_cases he : j = i
      · rw [he]; exact hc
      · exact h4 j hj (by omega)⟩⟩
  · omega

theorem pcs_end {L : List ByteArray} {l : List UInt8} {i p k : Nat} (h : PcsAt L l i p k) (hi : i ≤ l.length) (hc : i < l.length → l[i]? = some 44) :
    p ≤ i ∧ ∃ x, L[k]? = some x ∧ x.data.toList = (l.drop p).take (i - p) ∧ PcsAt L l (i + 1) (i + 1) (k + 1) := by
  obtain ⟨hk, ⟨h1, h2, h3, h4⟩ | ⟨h1, _⟩⟩ := h
  · refine ⟨h2, ?_⟩
    have hno : (44 : UInt8) ∉ (l.drop p).take (i - p) := by
      intro hm
      obtain ⟨j, hj, he⟩ := List.mem_iff_getElem.1 hm
      have hj2 : j < i - p := by rw [List.length_take] at hj; omega
      refine h4 (p + j) (by omega) (by omega) ?_
      have : ((l.drop p).take (i - p))[j]? = some 44 := by rw [List.getElem?_eq_getElem hj, he]
      rw [List.getElem?_take, if_pos hj2, List.getElem?_drop] at this
      exact this
    have hsplit : l.drop p = (l.drop p).take (i - p) ++ l.drop i := by
      have := (List.take_append_drop (i - p) (l.drop p)).symm
      rw [List.drop_drop] at this
      rwa [show p + (i - p) = i by omega] at this
    rw [hsplit, slc_app 44 _ _ hno] at h3
    cases hd : L.drop k with
    | nil => rw [hd] at h3; cases h3
    | cons x r =>
      rw [hd, List.map_cons] at h3
      obtain ⟨e1, e2⟩ := List.cons.inj h3
      have hkl : k < L.length := by
        rcases Nat.lt_or_ge k L.length with h | h
        · exact h
        · rw [List.drop_eq_nil_of_le h] at hd; cases hd
      have hk1 : L[k]? = some x := by
        have := List.getElem?_drop (xs := L) (i := k) (j := 0)
        rw [hd] at this
        simpa using this.symm
      have hr : L.drop (k + 1) = r := by
        have := List.drop_drop (i := 1) (j := k) (l := L)
        rw [hd] at this
        simpa using this.symm
      rcases Nat.lt_or_ge i l.length with hil | hil
      · have hci := hc hil
        have hdi : l.drop i = 44 :: l.drop (i + 1) := by
          rw [List.drop_eq_getElem_cons hil]
          rw [List.getElem?_eq_getElem hil] at hci
          rw [Option.some.inj hci]
        rw [hdi] at e1 e2
        simp [slc] at e1 e2
        exact ⟨x, hk1, e1, hkl, .inl ⟨hil, Nat.le_refl _, by rw [hr]; exact e2, fun j hj hji => by omega⟩⟩
      · rw [List.drop_eq_nil_of_le hil] at e1 e2
        simp [slc] at e1 e2
        refine ⟨x, hk1, e1, hkl, .inr ⟨by omega, ?_⟩⟩
        have h5 := congrArg List.length hr
        rw [e2, List.length_drop] at h5
        simp at h5
        omega
  · omega

end Go.Proofs.YtjmokodifkjfgaaDoor
