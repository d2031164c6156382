/- LexTells: what the walk shows. -/
import Derived.Test.YtjmokodifkjfgaaDoorLexZ
namespace Go.Proofs.YtjmokodifkjfgaaDoor
open Go.RowKit Go.Shelf Go.Lib

theorem lns_each (l : List Wd) : ∀ g ∈ lns l, g.length ≤ l.length := by
  have : ∀ (m : List Wd) (acc : List (List Wd)) (k : Nat), (∀ g ∈ acc, g.length ≤ k) → ∀ g ∈ m.foldl lnStep acc, g.length ≤ k + m.length := by
    intro m
    induction m with
    | nil => intro acc k h g hg; exact h g hg
    | cons x m ih =>
      intro acc k h g hg
      have h1 : ∀ g ∈ lnStep acc x, g.length ≤ k + 1 := by
        intro g hg
        unfold lnStep at hg
        split at hg
        · simp at hg; subst hg; simp
        · rename_i g0 he
          have hm := List.mem_of_getLast? he
          have h0 := h g0 hm
          split at hg
          · rcases List.mem_append.1 hg with hg | hg
            · have := h g ((List.dropLast_sublist _).subset hg); omega
            · simp at hg; subst hg; simp; omega
          · rcases List.mem_append.1 hg with hg | hg
            · have := h g hg; omega
            · simp at hg; subst hg; simp
      have h2 := ih (lnStep acc x) (k + 1) h1 g hg
      simp only [List.length_cons]
      omega
  intro g hg
  have h := this l [] 0 (fun g h => by cases h) g hg
  omega

theorem words_row' (s : ByteArray) (hs : s.size ≤ 65536) (m : Int) (w : World) (hm : w.cell? ⟨1, 0, none⟩ = some (.int .i64 m)) :
    Calls Tryd.prog 11 #[.string s] w fun e w' => (∃ A cap, e = .returned (.slice A (textW s).length cap) ∧ WRow w' w'.heap.size A (textW s)) ∧ Below w.heap.size w w' :=
  (lexWords_any s hs m w hm).mono fun e w' ⟨v, he, hr, hb⟩ => by
    obtain ⟨A, cap, rfl, _, _, h⟩ := wrow_own hr
    exact ⟨⟨A, cap, he, h⟩, hb⟩

set_option maxHeartbeats 4000000 in
set_option maxRecDepth 100000 in
theorem lexTells_true (a0 : ByteArray) (m : Int) (w : World) (hm : w.cell? ⟨1, 0, none⟩ = some (.int .i64 m)) :
    Calls Tryd.prog 5 #[.string a0] w fun e w' => e = .returned (.bool true) ∧ Below w.heap.size w w' := by
  have hlt : 1 < w.heap.size := cell_lt hm
  go_enter Tryd.func5, Tryd.ntmps5
  go_upto_region 3 with (first
    | (go_at_call 9; refine (awake_yes m w hm).mono ?_; rintro e w1 ⟨rfl, hb1⟩)
    | (go_at_call 10; refine (short_any a0 160 (by decide) _).mono ?_; rintro e wx ⟨⟨s, rfl, hs⟩, rfl⟩))
  have hm1 := cell_kept hm hb1
  have h1 := fun W h => lexLines_any s (by omega) m W h
  have h2 := fun W => refLines_any s (by omega) W
  have h3 := fun W h => words_row' s (by omega) m W h
  have h4 := fun W => refWords_any s (by omega) W
  have hN := textW_len s
  have hE := lns_each (textW s)
  have hLN := lns_len (textW s)
  generalize textW s = T at *
  obtain ⟨Ls, hLs⟩ : ∃ L, lns T = L := ⟨_, rfl⟩
  rw [hLs] at h1 h2 hE hLN
  obtain ⟨n, hn⟩ : ∃ n, Ls.length = n := ⟨_, rfl⟩
  rw [hn] at h1 h2 hLN
  have HN := Lib.hid hn
  have H1 := Lib.hid h1
  have H2 := Lib.hid h2
  have H3 := Lib.hid h3
  have H4 := Lib.hid h4
  have HE := Lib.hid hE
  clear h1 h2 h3 h4 hLs hn hE
  go_wp2_with (first
    | (go_at_call 13; refine (H1.out _ hm1).mono ?_; rintro e w2 ⟨⟨A2, c2, rfl, r2⟩, hb2⟩; have hm2 := cell_kept hm1 hb2)
    | (go_at_call 14; refine (H2.out _).mono ?_; rintro e w3 ⟨⟨A3, c3, rfl, r3⟩, hb3⟩; have hm3 := cell_kept hm2 hb3; have r2' := (r2.below hb3 (Nat.le_refl _)).more hb3.size))
  have hb13 := hb1.trans ((hb2.trans (hb3.mono hb2.size)).mono hb1.size)
  go_loopw [6] (fun v6 wr => ∃ i : Nat, v6 = .int .i64 i ∧ i ≤ n ∧ Below w3.heap.size w3 wr) (fun v6 _ => n - (RowKit.intOf v6).toNat)
  case atStart => exact ⟨0, rfl, Nat.zero_le _, Below.refl _ _⟩
  case round =>
    obtain ⟨i, rfl, hi, hbr⟩ := hrel
    by_cases hin : i < n
    · have hil : i < Ls.length := by rw [HN.out]; exact hin
      obtain ⟨bA, oA, rfl, hltA, hcA⟩ := r2' (by omega)
      obtain ⟨bB, oB, rfl, hltB, hcB⟩ := r3 (by omega)
      obtain ⟨Ai, ci, a0, a1⟩ := hcA i hil
      obtain ⟨Bi, di, d0, d1⟩ := hcB i hil
      have hlen := HE.out Ls[i] (List.getElem_mem hil)
      generalize Ls[i] = L at a0 a1 d0 d1 hlen
      have a0r : wr.drew.cell? ⟨bA, oA + i, none⟩ = _ := (hbr.cell (p := ⟨bA, _, none⟩) hltA).trans a0
      have d0r : wr.drew.cell? ⟨bB, oB + i, none⟩ = _ := (hbr.cell (p := ⟨bB, _, none⟩) hltB).trans d0
      have HS := Lib.hid (fun W (hb : Below w3.heap.size w3 W) => same_yes Ai Bi ci di L W (by omega) ((a1.below hb (Nat.le_refl _)).more hb.size) ((d1.below hb (Nat.le_refl _)).more hb.size))
      clear hcA hcB a0 d0 a1 d1
      go_upto_region 10 with (fail)
      go_region_law (go_simp; go_at_call 12; refine (HS.out _ hbr.drew).mono ?_; rintro e w5 ⟨rfl, hb5⟩)
      all_goals go_wp2
      all_goals exact ⟨⟨i + 1, by simp, hin, hbr.drew.trans (hb5.mono hbr.drew.size)⟩, by simp [RowKit.intOf] <;> omega⟩
    · obtain rfl : i = n := by omega
      have hm4 := (hbr.cell (p := ⟨1, 0, none⟩) (cell_lt hm3)).trans hm3
      go_wp2_with (first
        | (go_at_call 11; refine (H3.out _ hm4).mono ?_; rintro e w5 ⟨⟨A5, c5, rfl, r5⟩, hb5⟩)
        | (go_at_call 15; refine (H4.out _).mono ?_; rintro e w6 ⟨⟨A6, c6, rfl, r6⟩, hb6⟩; have r5' := (r5.below hb6 (Nat.le_refl _)).more hb6.size)
        | (go_at_call 12; refine (same_yes A5 A6 c5 c6 T w6 (by omega) r5' r6).mono ?_; rintro e w7 ⟨rfl, hb7⟩))
      go_ret
      exact ⟨rfl, hb13.trans ((hbr.trans ((hb5.trans ((hb6.trans (hb7.mono hb6.size)).mono hb5.size)).mono hbr.size)).mono hb13.size)⟩

end Go.Proofs.YtjmokodifkjfgaaDoor
