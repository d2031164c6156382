/- Notes, plainly; lines read. -/
import Derived.Test.YtnejkfccdnadcaaDoorLexL
namespace Go.Proofs.YtnejkfccdnadcaaDoor
open Go.RowKit Go.Shelf Go.Lib

theorem scan_off (q : Nat) : ∀ (y : List UInt8) (i : Nat), (10 : UInt8) ∉ y → scan q true none i y = [] := by
  intro y
  induction y with
  | nil => intro i _; rfl
  | cons c y ih =>
    intro i h
    have hc : c ≠ 10 := fun e => h (by rw [e]; exact List.mem_cons_self)
    simp [scan, hc, emit, ih (i + 1) (fun e => h (List.mem_cons_of_mem _ e))]

theorem scan_note : ∀ (x : List UInt8) (q : Nat) (off : Bool) (cur : Option (Nat × List UInt8)) (i : Nat) (y : List UInt8), (10 : UInt8) ∉ y → scan q off cur i (x ++ 35 :: y) = scan q off cur i (x ++ [35]) := by
  intro x
  induction x with
  | nil =>
    intro q off cur i y h
    simp only [List.nil_append, scan]
    rw [if_neg (by decide), if_pos (by simp), if_neg (by decide), if_pos (by simp), scan_off q y _ h]
    simp [emit]
  | cons c x ih =>
    intro q off cur i y h
    simp only [List.cons_append, scan]
    rw [ih _ _ _ _ y h, ih _ _ _ _ y h, ih _ _ _ _ y h, ih _ _ _ _ y h]

theorem scan_blank_note : ∀ (x : List UInt8) (q : Nat) (off : Bool) (cur : Option (Nat × List UInt8)) (i : Nat) (y : List UInt8), (10 : UInt8) ∉ y → scan q off cur i (x ++ 32 :: 9 :: 35 :: y) = scan q off cur i x := by
  intro x
  induction x with
  | nil =>
    intro q off cur i y h
    have h3 := scan_off q y (i + 1 + 1 + 1) h
    cases off with
    | true =>
      simp [scan, emit, h3]
    | false =>
      have e1 : ws 32 = true := rfl
      have e2 : ws 9 = true := rfl
      simp [scan, emit, h3, e1, e2]
  | cons c x ih =>
    intro q off cur i y h
    simp only [List.cons_append, scan]
    rw [ih _ _ _ _ y h, ih _ _ _ _ y h, ih _ _ _ _ y h, ih _ _ _ _ y h]

theorem emit_line {q : Nat} {cur : Option (Nat × List UInt8)} : ∀ x ∈ emit q cur, x.q = (q : Int) := by
  intro x hx
  cases cur with
  | none => simp [emit] at hx
  | some c => simp [emit] at hx; rw [hx]

theorem scan_line : ∀ (l : List UInt8) (q : Nat) (off : Bool) (cur : Option (Nat × List UInt8)) (i : Nat), (10 : UInt8) ∉ l → ∀ x ∈ scan q off cur i l, x.q = (q : Int) := by
  intro l
  induction l with
  | nil => intro q off cur i _ x hx; exact emit_line x hx
  | cons c l ih =>
    intro q off cur i h x hx
    have hc : c ≠ 10 := fun e => h (by rw [e]; exact List.mem_cons_self)
    have hl : (10 : UInt8) ∉ l := fun e => h (List.mem_cons_of_mem _ e)
    simp only [scan, if_neg hc] at hx
    split at hx
    · rcases List.mem_append.1 hx with hx | hx
      · exact emit_line x hx
      · exact ih _ _ _ _ hl x hx
    · split at hx
      · rcases List.mem_append.1 hx with hx | hx
        · exact emit_line x hx
        · exact ih _ _ _ _ hl x hx
      · exact ih _ _ _ _ hl x hx

theorem lns_lastN : ∀ (n : Nat) (l : List Wd), l.length = n → l ≠ [] → ∃ G g y, lns l = G ++ [g ++ [y]] ∧ l.getLast? = some y := by
  intro n
  induction n with
  | zero => intro l h0 h; exact absurd (List.eq_nil_of_length_eq_zero h0) h
  | succ n ih =>
    intro l0 hn h0
    rcases List.eq_nil_or_concat l0 with rfl | ⟨l, x, rfl⟩
    · exact absurd rfl h0
    · by_cases h : l = []
      · subst h
        exact ⟨[], [], x, rfl, rfl⟩
      · simp at hn
        obtain ⟨G, g, y, h1, _⟩ := ih l hn h
        by_cases hq : y.q = x.q
        · exact ⟨G, g ++ [y], x, by simpa using lns_same h1 hq, by simp⟩
        · exact ⟨G ++ [g ++ [y]], [], x, by simpa using lns_new h1 hq, by simp⟩

theorem lns_last (l : List Wd) (h : l ≠ []) : ∃ G g y, lns l = G ++ [g ++ [y]] ∧ l.getLast? = some y := lns_lastN _ l rfl h

theorem lns_len (l : List Wd) : (lns l).length ≤ l.length := by
  have : ∀ (m : List Wd) (acc : List (List Wd)), (m.foldl lnStep acc).length ≤ acc.length + m.length := by
    intro m
    induction m with
    | nil => intro acc; simp
    | cons x m ih =>
      intro acc
      have h1 := ih (lnStep acc x)
      have h2 : (lnStep acc x).length ≤ acc.length + 1 := by
        unfold lnStep
        split
        · simp
        · split
          · simp
          · simp
      simp only [List.foldl_cons, List.length_cons]
      omega
  have h := this l []
  simpa [lns] using h

/-- A word of another line than all ahead of it. -/
theorem lns_other {l : List Wd} {x : Wd} (h : ∀ y ∈ l, y.q ≠ x.q) : lns (l ++ [x]) = lns l ++ [[x]] := by
  by_cases hl : l = []
  · subst hl; rfl
  · obtain ⟨G, g, y, h1, h2⟩ := lns_last l hl
    rw [h1]
    exact lns_new h1 (h y (List.mem_of_getLast? h2))

theorem cell_kept {w w' : World} {p : Addr} {v : Value} (h : w.cell? p = some v) (hb : Below w.heap.size w w') : w'.cell? p = some v :=
  (hb.cell (cell_lt h)).trans h

/-- Lines in memory, below block B. -/
def LRow (w : World) (B : Nat) (A : Option Addr) (L : List (List Wd)) : Prop :=
  0 < L.length → ∃ b off, A = some ⟨b, off, none⟩ ∧ b < B ∧ ∀ i (h : i < L.length), ∃ Ai ci, w.cell? ⟨b, off + i, none⟩ = some (.slice Ai L[i].length ci) ∧ WRow w B Ai L[i]

theorem LRow.below {w w' : World} {B C : Nat} {A : Option Addr} {L : List (List Wd)} (h : LRow w B A L) (hb : Below C w w') (hBC : B ≤ C) : LRow w' B A L := by
  intro hl
  obtain ⟨b, off, e, hlt, hc⟩ := h hl
  refine ⟨b, off, e, hlt, fun i hi => ?_⟩
  obtain ⟨Ai, ci, h1, h2⟩ := hc i hi
  exact ⟨Ai, ci, (hb.cell (p := ⟨b, _, none⟩) (by show b < C; omega)).trans h1, h2.below hb hBC⟩

theorem LRow.more {w : World} {B C : Nat} {A : Option Addr} {L : List (List Wd)} (h : LRow w B A L) (hBC : B ≤ C) : LRow w C A L := by
  intro hl
  obtain ⟨b, off, e, hlt, hc⟩ := h hl
  refine ⟨b, off, e, by omega, fun i hi => ?_⟩
  obtain ⟨Ai, ci, h1, h2⟩ := hc i hi
  exact ⟨Ai, ci, h1, h2.more hBC⟩

/-- What the lines give to a reader. -/
theorem lrow_own {n0 : Nat} {eo ei : TypeId} {l : List Wd} {vo : Value} {w : World} (h : LS n0 eo ei l vo w) : ∃ A cap, vo = .slice A (lns l).length cap ∧ LRow w w.heap.size A (lns l) := by
  rcases h with ⟨rfl, rfl⟩ | ⟨G, g, y, V, v, hs, h1, h2, h3, h4, hms⟩
  · exact ⟨none, 0, rfl, fun h => by simp [lns] at h⟩
  · obtain ⟨bo, cap, rfl, hb, hlt, _, _⟩ := hms.at
    have hlen : V.length + 1 = (lns l).length := by rw [h1, List.length_append, hms.len]; rfl
    refine ⟨_, cap, by rw [← hlen], fun _ => ⟨bo, 0, rfl, hlt, fun i hi => ?_⟩⟩
    have hget : (lns l)[i]? = some (lns l)[i] := List.getElem?_eq_getElem hi
    generalize (lns l)[i] = L at hget ⊢
    rw [h1] at hget
    have hiV : i < V.length + 1 := by rw [hlen]; exact hi
    have hcell := hms.out.cellAt i (by omega)
    rw [Nat.zero_add, hcell]
    rcases Nat.lt_or_ge i V.length with hi2 | hi2
    · rw [List.getElem?_append_left (by rw [← hms.len]; exact hi2)] at hget
      rw [List.getElem?_append_left hi2, List.getElem?_eq_getElem hi2]
      obtain ⟨Ai, ci, e1, _, _, e2⟩ := wrow_own (hms.done i _ _ (List.getElem?_eq_getElem hi2) hget).1
      exact ⟨Ai, ci, by rw [e1], e2⟩
    · obtain rfl : i = V.length := by omega
      rw [List.getElem?_append_right (by rw [hms.len]; exact Nat.le_refl _), hms.len] at hget
      rw [List.getElem?_append_right (Nat.le_refl _)]
      simp only [Nat.sub_self, List.getElem?_cons_zero, Option.some.injEq] at hget ⊢
      subst hget
      obtain ⟨Ai, ci, e1, _, _, e2⟩ := wrow_own hms.cur
      exact ⟨Ai, ci, e1, e2⟩

set_option maxHeartbeats 1000000 in
theorem lexLines_any (s : ByteArray) (hs : s.size ≤ 65536) (m : Int) (w : World) (hm : w.cell? ⟨1, 0, none⟩ = some (.int .i64 m)) :
    Calls Tryd.prog 22 #[.string s] w fun e w' => (∃ A cap, e = .returned (.slice A (lns (textW s)).length cap) ∧ LRow w' w'.heap.size A (lns (textW s))) ∧ Below w.heap.size w w' :=
  (callsIn_wide.1 (lines_in s hs m w hm)).mono fun e w' ⟨v, he, hls, hb⟩ => by
    obtain ⟨A, cap, rfl, hr⟩ := lrow_own hls
    exact ⟨⟨A, cap, he, hr⟩, hb⟩

end Go.Proofs.YtnejkfccdnadcaaDoor
