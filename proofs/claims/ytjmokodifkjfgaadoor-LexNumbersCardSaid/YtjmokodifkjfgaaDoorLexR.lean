/- Numbers of a join are the numbers. -/
import Derived.Test.YtjmokodifkjfgaaDoorLexJ
import Derived.Test.YtjmokodifkjfgaaDoorLexS
namespace Go.Proofs.YtjmokodifkjfgaaDoor
open Go.RowKit Go.Shelf Go.Lib

/-- A text's pieces between bytes s. -/
def slc (s : UInt8) : List UInt8 → List (List UInt8)
  | [] => [[]]
  | c :: l => if c = s then [] :: slc s l else (c :: (slc s l).headD []) :: (slc s l).tail

theorem slc_cons (s : UInt8) (l : List UInt8) : ∃ h t, slc s l = h :: t := by
  cases l with
  | nil => exact ⟨[], [], rfl⟩
  | cons c l =>
    by_cases hc : c = s
    · exact ⟨[], slc s l, by simp [slc, hc]⟩
    · exact ⟨_, _, by simp [slc, hc]; exact ⟨rfl, rfl⟩⟩

theorem splitK_slc (s : UInt8) : ∀ l : List UInt8, Lib.splitK [s] 0 (Lib.count l [s]) l = slc s l := by
  intro l
  induction l with
  | nil => rfl
  | cons c l ih =>
    by_cases hc : c = s
    · subst hc
      rw [Lib.count_cons_eq, Nat.add_comm]
      have hi : Lib.index (c :: l) [c] = 0 := by rw [Lib.index_one, indexByte_cons, if_pos rfl]
      rw [Lib.splitK, hi]
      simp [slc, ih]
    · rw [Lib.count_cons_ne c s l hc]
      have hs : slc s (c :: l) = (c :: (slc s l).headD []) :: (slc s l).tail := by simp [slc, hc]
      rw [hs, ← ih]
      have hi : Lib.index (c :: l) [s] = if Lib.indexByte l s = -1 then -1 else Lib.indexByte l s + 1 := by rw [Lib.index_one, indexByte_cons, if_neg hc]
      cases hk : Lib.count l [s] with
      | zero => simp [Lib.splitK]
      | succ k =>
        rw [Lib.splitK, Lib.splitK, hi, Lib.index_one]
        by_cases h1 : Lib.indexByte l s = -1
        · simp [h1]
        · have h2 := Lib.indexByte_ge l s
          obtain ⟨i, h3⟩ : ∃ i : Nat, Lib.indexByte l s = i := ⟨(Lib.indexByte l s).toNat, by omega⟩
          rw [h3]
          have h4 : ¬ ((i : Int) = -1) := by omega
          have h5 : ¬ ((i : Int) + 1 = -1) := by omega
          have h6 : ((i : Int) + 1).toNat = i + 1 := by omega
          simp [h4, h5, h6]

theorem slc_app (s : UInt8) (l : List UInt8) : ∀ x : List UInt8, s ∉ x → slc s (x ++ l) = (x ++ (slc s l).headD []) :: (slc s l).tail := by
  intro x
  induction x with
  | nil =>
    intro _
    obtain ⟨h, t, e⟩ := slc_cons s l
    simp [e]
  | cons c x ih =>
    intro h
    have hc : c ≠ s := fun e => h (by rw [e]; exact List.mem_cons_self)
    have := ih (fun hm => h (List.mem_cons_of_mem _ hm))
    simp only [List.cons_append, slc, if_neg hc]
    rw [this]
    rfl

theorem slc_join (s : UInt8) : ∀ (r : List (List UInt8)) (x : List UInt8), s ∉ x → (∀ y ∈ r, s ∉ y) → slc s (Lib.join (x :: r) [s]) = x :: r := by
  intro r
  induction r with
  | nil =>
    intro x hx _
    rw [Lib.join_one]
    have := slc_app s [] x hx
    simpa [slc] using this
  | cons y r ih =>
    intro x hx hr
    have h1 := ih y (hr y List.mem_cons_self) (fun z hz => hr z (List.mem_cons_of_mem _ hz))
    rw [Lib.join_cons] at h1 ⊢
    have e : Lib.joinTail [s] (y :: r) = s :: (y ++ Lib.joinTail [s] r) := by simp [Lib.joinTail]
    rw [e, slc_app s _ x hx]
    simp only [slc]
    rw [h1]
    simp

theorem dec_no44 (u : Nat) : (44 : UInt8) ∉ decDigits u := by
  intro h
  have := (dec_num u).2.1 44 h
  unfold isD at this
  revert this
  decide

theorem map_inj : ∀ (L M : List ByteArray), L.map (·.data.toList) = M.map (·.data.toList) → L = M := by
  intro L
  induction L with
  | nil => intro M h; cases M with
    | nil => rfl
    | cons a b => simp at h
  | cons x L ih =>
    intro M h
    cases M with
    | nil => simp at h
    | cons y M =>
      simp only [List.map_cons, List.cons.injEq] at h
      rw [ih M h.2]
      congr 1
      exact ByteArray.ext (Array.toList_inj.1 h.1)

/-- The pieces of the digits' join. -/
theorem split_join (x : Int) (L : List Int) (h : ∀ y ∈ x :: L, 0 ≤ y) (s : ByteArray) (hs : s = ⟨(Lib.join ((x :: L).map itoa) [44]).toArray⟩) : Lib.splitB ⟨#[44]⟩ 0 (Lib.countB s ⟨#[44]⟩) s = digs (x :: L) := by
  apply map_inj
  rw [Lib.splitB_data, digs_data]
  have h1 : (ByteArray.mk #[44]).data.toList = [44] := rfl
  rw [h1]
  have hc : Lib.countB s ⟨#[44]⟩ = Lib.count s.data.toList [44] := rfl
  rw [hc, splitK_slc, hs]
  have hno : ∀ y : Int, 0 ≤ y → (44 : UInt8) ∉ itoa y := fun y hy => by
    unfold itoa
    rw [if_neg (by omega)]
    exact dec_no44 _
  exact slc_join 44 (L.map itoa) (itoa x) (hno x (h x List.mem_cons_self)) (fun y hy => by
    obtain ⟨z, hz, rfl⟩ := List.mem_map.1 hy
    exact hno z (h z (List.mem_cons_of_mem _ hz)))

end Go.Proofs.YtjmokodifkjfgaaDoor
