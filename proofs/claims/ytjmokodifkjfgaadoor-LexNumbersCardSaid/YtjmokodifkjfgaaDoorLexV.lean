/- The document's Number at every text; pairs. -/
import Derived.Test.YtjmokodifkjfgaaDoorLexU
namespace Go.Proofs.YtjmokodifkjfgaaDoor
open Go.RowKit Go.Shelf Go.Lib

set_option maxHeartbeats 1000000 in
set_option maxRecDepth 100000 in
theorem refNumber_none (most : Int) (w : World) :
    Calls Tryd.prog 22 #[.string ByteArray.empty, .int .i64 most] w fun e w' => e = .returned (.agg #[.int .i64 0, .bool false]) ∧ Below w.heap.size w w' := by
  go_enter Tryd.func22, Tryd.ntmps22
  go_wp2
  exact num_ret rfl ⟨rfl, (Below.refl _ w).alloc (Nat.le_refl _) _⟩

theorem refNumber_any (s : ByteArray) (most : Int) (w : World) (hs : s.size ≤ 1000000) (hm2 : most ≤ 9223372036854775807) :
    Calls Tryd.prog 22 #[.string s, .int .i64 most] w fun e w' =>
      ((NumOk s.data.toList most ∧ e = .returned (.agg #[.int .i64 (numV s.data.toList), .bool true])) ∨ (¬ NumOk s.data.toList most ∧ e = .returned (.agg #[.int .i64 0, .bool false]))) ∧ Below w.heap.size w w' := by
  rcases Nat.eq_zero_or_pos s.size with h | h
  · have he : s.data.toList = [] := List.eq_nil_of_length_eq_zero (by rw [← Lib.size_eq]; exact h)
    have hs' : s = ByteArray.empty := by
      apply ByteArray.ext
      apply Array.toList_inj.1
      rw [he]; rfl
    rw [hs']
    exact (refNumber_none most w).mono fun e w' ⟨h1, h2⟩ => ⟨.inr ⟨fun h => h.1.1 rfl, h1⟩, h2⟩
  · exact refNumber_pos s most w h hs hm2

/-- What a pair is. -/
def pairV (s : ByteArray) : ByteArray × ByteArray × Bool :=
  if 0 ≤ Lib.indexByte s.data.toList 61 then (⟨(s.data.toList.take (Lib.indexByte s.data.toList 61).toNat).toArray⟩, ⟨(s.data.toList.drop ((Lib.indexByte s.data.toList 61).toNat + 1)).toArray⟩, true) else (ByteArray.empty, ByteArray.empty, false)

theorem pairV_none {s : ByteArray} (h : ∀ (j : Nat), s.data.toList[j]? ≠ some 61) : pairV s = (ByteArray.empty, ByteArray.empty, false) := by
  unfold pairV
  rw [if_neg]
  intro h0
  exact h _ (Lib.indexByte_some (o := (Lib.indexByte s.data.toList 61).toNat) (by omega)).1

theorem pairV_some {s : ByteArray} {k : Nat} (h : s.data.toList[k]? = some 61) (hk : ∀ (j : Nat), j < k → s.data.toList[j]? ≠ some 61) : pairV s = (s.extract 0 k, s.extract (k + 1) s.size, true) := by
  have h0 : Lib.indexByte s.data.toList 61 = (k : Nat) := by
    rcases Int.lt_or_le (Lib.indexByte s.data.toList 61) 0 with h1 | h1
    · have h2 := Lib.indexByte_ge s.data.toList 61
      exact absurd h (Lib.indexByte_none (by omega) k)
    · obtain ⟨h2, h3⟩ := Lib.indexByte_some (o := (Lib.indexByte s.data.toList 61).toNat) (l := s.data.toList) (c := 61) (by omega)
      have : ¬ (Lib.indexByte s.data.toList 61).toNat < k := fun h4 => hk _ h4 h2
      have : ¬ k < (Lib.indexByte s.data.toList 61).toNat := fun h4 => h3 _ h4 h
      omega
  unfold pairV
  rw [if_pos (by omega), h0]
  have e1 : (⟨(s.data.toList.take k).toArray⟩ : ByteArray) = s.extract 0 k := by
    apply ByteArray.ext
    apply Array.toList_inj.1
    simp
  have e2 : (⟨(s.data.toList.drop (k + 1)).toArray⟩ : ByteArray) = s.extract (k + 1) s.size := by
    apply ByteArray.ext
    apply Array.toList_inj.1
    rw [ByteArray.data_extract, Array.toList_extract, List.extract_eq_take_drop, List.take_of_length_le]
    rw [List.length_drop, ← Lib.size_eq]
    exact Nat.le_refl _
  simp only [Int.toNat_natCast]
  rw [e1, e2]

theorem cut_61 (s : ByteArray) (m : Int) (w : World) (hs : s.size < 4294967281) (hm : w.cell? ⟨1, 0, none⟩ = some (.int .i64 m)) :
    Calls Tryd.prog 33 #[.string s, .string ⟨#[61]⟩] w fun e w' =>
      (∃ a b ok, e = .returned (.tuple #[.string a, .string b, .bool ok]) ∧ ((ok = false ∧ pairV s = (ByteArray.empty, ByteArray.empty, false)) ∨ (ok = true ∧ pairV s = (a, b, true)))) ∧ Below w.heap.size w w' :=
  (Tryd.strings_Cut s ⟨#[61]⟩ m w hs hm).mono fun e w' ⟨he, n, hw⟩ => by
    refine ⟨⟨_, _, _, he, ?_⟩, by rw [hw]; exact below_drewN (Below.refl _ _) _⟩
    have h1 : (ByteArray.mk #[61]).data.toList = [61] := rfl
    rw [h1]
    unfold Lib.cut pairV
    rw [Lib.index_one]
    by_cases h : 0 ≤ Lib.indexByte s.data.toList 61
    · rw [if_pos h, if_pos h]
      exact .inr ⟨rfl, rfl⟩
    · rw [if_neg h, if_neg h]
      exact .inl ⟨rfl, rfl⟩

set_option maxHeartbeats 1000000 in
theorem lexPair_any (s : ByteArray) (m : Int) (w : World) (hs : s.size < 4294967281) (hm : w.cell? ⟨1, 0, none⟩ = some (.int .i64 m)) :
    Calls Tryd.prog 24 #[.string s] w fun e w' => e = .returned (.tuple #[.string (pairV s).1, .string (pairV s).2.1, .bool (pairV s).2.2]) ∧ Below w.heap.size w w' := by
  have hc := Lib.hid (cut_61 s m w hs hm)
  go_enter Tryd.func24, Tryd.ntmps24
  go_upto_if 12 with (go_at_call 33; refine hc.out.mono ?_; rintro e w1 ⟨⟨a, b, ok, rfl, hok⟩, hb1⟩)
  rcases hok with ⟨rfl, hp⟩ | ⟨rfl, hp⟩
  · go_wp2
    go_ret3
    exact ⟨by rw [hp]; rfl, hb1⟩
  · go_wp2
    go_ret3
    exact ⟨by rw [hp]; rfl, hb1⟩

theorem two_ret {R : Ending → World → Prop} {tmps : Array Value} {W : World} {bk : Nat} {t : TypeId} {a b c : Value} (ht : tmps[2]?.getD undef = .pointer (some ⟨bk, 0, none⟩)) (hb : W.heap[bk]? = some (.cells #[a, b, c] t (0, 0)))
    (hR : R (.returned (.agg #[a, b, c])) W) :
    bodyPost Tryd.prog Tryd.f25 R .ret { tmps := tmps, defers := [] } W := by
  refine bodyPost_ret ?_ rfl hR
  have h0 : W.cell? ⟨bk, 0, none⟩ = some a := by simp [World.cell?, hb]
  have h1 : W.cell? ⟨bk, 1, none⟩ = some b := by simp [World.cell?, hb]
  have h2 : W.cell? ⟨bk, 2, none⟩ = some c := by simp [World.cell?, hb]
  simp [results, Tryd.f25, go_sem, ht, h0, h1, h2]

set_option maxHeartbeats 2000000 in
set_option maxRecDepth 100000 in
theorem refPair_any (s : ByteArray) (w : World) (hs : s.size ≤ 1000000) :
    Calls Tryd.prog 25 #[.string s] w fun e w' => e = .returned (.agg #[.string (pairV s).1, .string (pairV s).2.1, .bool (pairV s).2.2]) ∧ Below w.heap.size w w' := by
  go_enter Tryd.func25, Tryd.ntmps25
  go_wp2
  go_loopw [3] (fun v3 wr => ∃ i : Nat, v3 = .int .i64 i ∧ i ≤ s.size ∧ Hid (∀ (j : Nat), j < i → s.data.toList[j]? ≠ some 61) ∧ wr = w.alloc (.cells #[.string ByteArray.empty, .string ByteArray.empty, .bool false] 50)) (fun v3 _ => s.size - (RowKit.intOf v3).toNat)
  case atStart => exact ⟨0, rfl, Nat.zero_le _, Lib.hid (fun j h => absurd h (by omega)), rfl⟩
  case round =>
    obtain ⟨i, rfl, hi, hno, rfl⟩ := hrel
    by_cases his : i < s.size
    · have hget : s.data.toList[i]? = some s[i] := by rw [List.getElem?_eq_getElem (by rw [← Lib.size_eq]; exact his)]; rfl
      have HG := Lib.hid hget
      clear hget
      by_cases h61 : s[i] = 61
      · have HP := Lib.hid (pairV_some (by rw [HG.out, h61]) hno.out)
        have h611 : ((s[i].toNat : Int) == 61) = true := by rw [h61]; rfl
        obtain ⟨k, hk⟩ : ∃ k, k = i + 1 := ⟨_, rfl⟩
        rw [← hk] at HP
        have hi1 : IntKind.i64.wrap ((i : Int) + 1) = (k : Int) := by rw [IntKind.wrap_i64]; omega
        have hi2 : k ≤ s.size := by omega
        clear hk
        go_upto_region 5 with (fail)
        go_region_law (fail)
        all_goals go_wp2
        all_goals exact two_ret (bk := w.heap.size) rfl (heap_alloc_new w (.cells #[.string (s.extract 0 i), .string (s.extract k s.size), .bool true] 50)) ⟨by rw [HP.out], ((Below.refl _ w).alloc (Nat.le_refl _) _).drew⟩
      · have h611 : ((s[i].toNat : Int) == 61) = false := by
          have : (s[i].toNat : Int) ≠ 61 := fun he => h61 (UInt8.toNat_inj.1 (by show s[i].toNat = 61; omega))
          simpa using this
        go_wp2
        go_roundw
        case rel => exact ⟨i + 1, by simp, his, Lib.hid (fun j hj => by
          by_cases hji : j = i
          · subst hji
            rw [HG.out]
            exact fun e => h61 (Option.some.inj e)
          · exact hno.out j (by omega)), trivial⟩
        case measure => simp [RowKit.intOf]; omega
    · obtain rfl : i = s.size := by omega
      have HP := Lib.hid (pairV_none (s := s) (fun j e => hno.out j (by rw [Lib.size_eq]; exact (List.getElem?_eq_some_iff.1 e).1) e))
      go_wp2
      exact two_ret rfl (heap_alloc_new w _) ⟨by rw [HP.out]; rfl, (Below.refl _ w).alloc (Nat.le_refl _) _⟩

end Go.Proofs.YtjmokodifkjfgaaDoor
