/- run.ParseScript. -/
import Derived.Test.YtnejkfccdnadcaaDoorRunC
import Derived.Deep.RegionHeld
namespace Go.Proofs.YtnejkfccdnadcaaDoor
open Go.RowKit Go.Shelf Go.Lib

/-- Where a line's first word stands. -/
def at0 : List Wd → Int
  | [] => 0
  | x :: _ => x.p

def lastA (acc : List Ak) : Int := match acc.getLast? with
  | none => 0
  | some y => y.a

/-- What lines say: requests; or where a line is wrong. -/
noncomputable def pv (acc : List Ak) : List (List Wd) → List Ak × Option Int
  | [] => (acc, none)
  | w :: r => match lineV w with
    | none => ([], some (at0 w))
    | some a => if a.a < lastA acc then ([], some (at0 w)) else pv (acc ++ [a]) r

theorem pv_bad {acc : List Ak} {w : List Wd} {r : List (List Wd)} (h : lineV w = none) : pv acc (w :: r) = ([], some (at0 w)) := by
  rw [pv, h]

theorem pv_early {acc : List Ak} {w : List Wd} {r : List (List Wd)} {a : Ak} (h : lineV w = some a) (hl : a.a < lastA acc) : pv acc (w :: r) = ([], some (at0 w)) := by
  rw [pv, h]
  simp only
  rw [if_pos hl]

theorem pv_on {acc : List Ak} {w : List Wd} {r : List (List Wd)} {a : Ak} (h : lineV w = some a) (hl : ¬ a.a < lastA acc) : pv acc (w :: r) = pv (acc ++ [a]) r := by
  rw [pv, h]
  simp only
  rw [if_neg hl]

theorem lastA_snoc (acc : List Ak) (a : Ak) : lastA (acc ++ [a]) = a.a := by simp [lastA]

/-- Every line has a word; it stands at 0 or further on. -/
theorem lns_words (l : List Wd) (h : ∀ x ∈ l, 0 ≤ x.p) : ∀ g ∈ lns l, g ≠ [] ∧ 0 ≤ at0 g := by
  have key : ∀ (m : List Wd) (acc : List (List Wd)), (∀ x ∈ m, 0 ≤ x.p) → (∀ g ∈ acc, g ≠ [] ∧ 0 ≤ at0 g) → ∀ g ∈ m.foldl lnStep acc, g ≠ [] ∧ 0 ≤ at0 g := by
    intro m
    induction m with
    | nil => intro acc _ h g hg; exact h g hg
    | cons x m ih =>
      intro acc hm h g hg
      refine ih (lnStep acc x) (fun y hy => hm y (List.mem_cons_of_mem _ hy)) (fun g hg => ?_) g hg
      have hx := hm x List.mem_cons_self
      unfold lnStep at hg
      split at hg
      · simp at hg; subst hg; exact ⟨by simp, hx⟩
      · rename_i g0 he
        have h0 := h g0 (List.mem_of_getLast? he)
        split at hg
        · rcases List.mem_append.1 hg with hg | hg
          · exact h g ((List.dropLast_sublist _).subset hg)
          · simp at hg
            subst hg
            refine ⟨by simp, ?_⟩
            cases g0 with
            | nil => exact absurd rfl h0.1
            | cons y r => exact h0.2
        · rcases List.mem_append.1 hg with hg | hg
          · exact h g hg
          · simp at hg; subst hg; exact ⟨by simp, hx⟩
  exact key l [] h (fun g hg => by cases hg)

theorem lns_each' (l : List Wd) : ∀ g ∈ lns l, g.length ≤ l.length := by
  have : ∀ (m : List Wd) (acc : List (List Wd)) (k : Nat), (∀ g ∈ acc, g.length ≤ k) → ∀ g ∈ m.foldl lnStep acc, g.length ≤ k + m.length := by
    intro m
    induction m with
    | nil => intro acc k h g hg; exact h g hg
    | cons x m ih =>
      intro acc k h g hg
      have h1 : ∀ g ∈ lnStep acc x, g.length ≤ k + 1 := by
        intro g hg
        unfold lnStep at hg
        split at hg
        · simp at hg; subst hg; simp
        · rename_i g0 he
          have hm := List.mem_of_getLast? he
          have h0 := h g0 hm
          split at hg
          · rcases List.mem_append.1 hg with hg | hg
            · have := h g ((List.dropLast_sublist _).subset hg); omega
            · simp at hg; subst hg; simp; omega
          · rcases List.mem_append.1 hg with hg | hg
            · have := h g hg; omega
            · simp at hg; subst hg; simp
      have h2 := ih (lnStep acc x) (k + 1) h1 g hg
      simp only [List.length_cons]
      omega
  intro g hg
  have h := this l [] 0 (fun g h => by cases h) g hg
  omega

set_option maxHeartbeats 4000000 in
set_option maxRecDepth 100000 in
theorem parse_any (s : ByteArray) (hs : s.size ≤ 65536) (m : Int) (w : World) (hm : w.cell? ⟨1, 0, none⟩ = some (.int .i64 m)) :
    Calls Tryd.prog 9 #[.string s] w fun e w' => (∃ v, e = .returned (.tuple #[v, .int .i64 ((pv [] (lns (textW s))).2.getD (s.size : Int)), .bool (pv [] (lns (textW s))).2.isNone]) ∧ w'.ownsRow w.heap.size 46 3 v (pv [] (lns (textW s))).1.length ((pv [] (lns (textW s))).1.flatMap Ak.cells)) ∧ Below w.heap.size w w' := by
  have hlt : 1 < w.heap.size := cell_lt hm
  obtain ⟨i0, hi0, hz0, hz1, hz2⟩ := info_parts infoA
  have hN := textW_len s
  have hLL := lns_len (textW s)
  have hEE := lns_each' (textW s)
  have hWW := lns_words (textW s) (fun x hx => (text_bd s x hx).1.1)
  have H1 := Lib.hid (lexLines_any s hs m w hm)
  generalize lns (textW s) = Ls at *
  obtain ⟨n, hn⟩ : ∃ n, n = Ls.length := ⟨_, rfl⟩
  rw [← hn] at H1 hLL
  have HN := Lib.hid hn
  have HE := Lib.hid hEE
  have HW := Lib.hid hWW
  obtain ⟨R, hR⟩ : ∃ R, R = pv [] Ls := ⟨_, rfl⟩
  rw [← hR]
  have HR : Hid (R = pv [] (Ls.drop 0)) := Lib.hid hR
  clear hn hEE hWW hR
  generalize (textW s).length = nt at *
  go_enter Tryd.func9, Tryd.ntmps9
  go_wp2
  go_step3
  go_wp2
  go_step3
  go_wp2_with (go_at_call 22; refine H1.out.mono ?_; rintro e w1 ⟨⟨A1, c1, rfl, r1⟩, hb1⟩)
  obtain ⟨B, hB⟩ : ∃ B, w1.heap.size = B := ⟨_, rfl⟩
  rw [hB] at r1
  go_loopw [5, 6, 7, 15] (fun v5 v6 v7 v15 wr => ∃ (i : Nat) (acc : List Ak), v6 = .int .i64 (lastA acc) ∧ v7 = .int .i64 (-1) ∧ v15 = .int .i64 i ∧ i ≤ n ∧ acc.length ≤ i ∧ Hid (R = pv acc (Ls.drop i)) ∧ wr.ownsRow B 46 3 v5 acc.length (acc.flatMap Ak.cells) ∧ Below B w1 wr) (fun _ _ _ v15 _ => n - (RowKit.intOf v15).toNat)
  case atStart => exact ⟨0, [], rfl, rfl, rfl, Nat.zero_le _, Nat.zero_le _, HR, World.ownsRow_nil _ _ _ _, Below.refl _ _⟩
  case round =>
    obtain ⟨i, acc, rfl, rfl, rfl, hi, hacc, hS, hrow, hbr⟩ := hrel
    have hBw : B ≤ wr.heap.size := by rw [← hB]; exact hbr.size
    by_cases hin : i < n
    · have hil : i < Ls.length := by rw [← HN.out]; exact hin
      obtain ⟨bA, oA, rfl, hltA, hcA⟩ := r1 (by omega)
      obtain ⟨Ai, ci, x0, x1⟩ := hcA i hil
      have a0 := (hbr.cell (p := ⟨bA, _, none⟩) (by show bA < B; omega)).trans x0
      have hlen := HE.out Ls[i] (List.getElem_mem hil)
      have hne := HW.out Ls[i] (List.getElem_mem hil)
      have hdrop : Ls.drop i = Ls[i] :: Ls.drop (i + 1) := List.drop_eq_getElem_cons hil
      generalize Ls[i] = L at a0 x0 x1 hlen hne hdrop
      have hrL := x1.below hbr (Nat.le_refl _)
      clear hcA x0 x1
      have HD := Lib.hid hdrop
      have HREQ := Lib.hid (request_any Ai ci L wr (by omega) (hrL.more hBw))
      obtain ⟨nl, hnl⟩ : ∃ k, L.length = k := ⟨_, rfl⟩
      rw [hnl] at a0 HREQ
      clear hdrop
      go_upto_region 8 with (go_at_call 23; refine HREQ.out.mono ?_; rintro e w2 ⟨⟨xa, xt, xd, ok, rfl, ho1, ho2⟩, hb2⟩)
      obtain ⟨x, r, rfl⟩ : ∃ x r, L = x :: r := by
        cases L with
        | nil => exact absurd rfl hne.1
        | cons x r => exact ⟨x, r, rfl⟩
      have hp : 0 ≤ x.p := hne.2
      obtain ⟨bi, oi, rfl, hlti, fi⟩ := hrL (by simp)
      have f0 := (fi 0 (by simp)).1
      simp only [Nat.zero_mul, Nat.add_zero, List.getElem_cons_zero] at f0
      clear fi hrL hne
      have hrow2 := ownsRow_below hrow hb2 (Nat.le_refl _)
      have hbx := hbr.trans (hb2.mono hBw)
      have hBw2 : B ≤ w2.heap.size := Nat.le_trans hBw hb2.size
      have hby := hbx.alloc hBw2 (.cells #[.int .i64 xa, .int .i64 xt, .int .i64 xd] 46)
      have g0 : (w2.alloc (.cells #[.int .i64 xa, .int .i64 xt, .int .i64 xd] 46)).cell? ⟨bi, oi, none⟩ = some (.int .i64 x.p) :=
        (World.cell?_alloc_lt _ _ _ (Nat.lt_of_lt_of_le (cell_lt f0) hb2.size)).trans (cell_kept f0 hb2)
      have hblk := heap_alloc_new w2 (.cells #[.int .i64 xa, .int .i64 xt, .int .i64 xd] 46)
      have hrow3 := hrow2.alloc (.cells #[.int .i64 xa, .int .i64 xt, .int .i64 xd] 46)
      have hrlt : ∀ k, u5.ownBlock = some k → k < w2.heap.size := fun k e => (hrow2.lt k e).2
      have hB3 : B ≤ (w2.alloc (.cells #[.int .i64 xa, .int .i64 xt, .int .i64 xd] 46)).heap.size := by simp; omega
      generalize w2.alloc (.cells #[.int .i64 xa, .int .i64 xt, .int .i64 xd] 46) = W at hby g0 hblk hrow3 hB3 ⊢
      obtain ⟨b2, hb2e⟩ : ∃ b, w2.heap.size = b := ⟨_, rfl⟩
      rw [hb2e] at hblk hrlt ⊢
      have c0 := cell_of_row W b2 0 _ _ _ hblk
      have c1' := cell_of_row W b2 1 _ _ _ hblk
      have c2' := cell_of_row W b2 2 _ _ _ hblk
      simp at c0 c1' c2'
      clear hb2 hbx hrow2 hBw2 hrow f0 HREQ
      have HAT : Hid (at0 (x :: r) = x.p) := Lib.hid rfl
      have hnl0 : 0 < nl := by rw [← hnl]; simp
      clear hnl
      have HO1 := Lib.hid ho1
      have HO2 := Lib.hid ho2
      clear ho1 ho2
      generalize x.p = xp at *
      have HBAD : Hid (R = ([], some xp) → ∀ v', v' = Value.slice none 0 0 → (∃ v, Ending.returned (.tuple #[v', .int .i64 xp, .bool false]) = .returned (.tuple #[v, .int .i64 (R.2.getD (s.size : Int)), .bool R.2.isNone]) ∧ W.ownsRow w.heap.size 46 3 v R.1.length (R.1.flatMap Ak.cells)) ∧ Below w.heap.size w W) := Lib.hid (fun e v' hv => by
        subst hv
        rw [e]
        exact ⟨⟨_, rfl, World.ownsRow_nil _ _ _ _⟩, hb1.trans (hby.mono (by rw [← hB]; exact hb1.size))⟩)
      cases ok with
      | false =>
        have HB : Hid (R = ([], some xp)) := Lib.hid (by rw [hS.out, HD.out, pv_bad (HO2.out rfl), HAT.out])
        go_wp2
        repeat rw [Exit.noGoto_ret]
        go_wp2
        go_ret3
        exact HBAD.out HB.out _ rfl
      | true =>
        have HL := Lib.hid (HO1.out rfl)
        by_cases hlast : xa < lastA acc
        · have HB : Hid (R = ([], some xp)) := Lib.hid (by rw [hS.out, HD.out, pv_early HL.out hlast, HAT.out])
          go_wp2
          repeat rw [Exit.noGoto_ret]
          go_wp2
          go_ret3
          exact HBAD.out HB.out _ rfl
        · have HB : Hid (R = pv (acc ++ [⟨xa, xt, xd⟩]) (Ls.drop (i + 1))) := Lib.hid (by rw [hS.out, HD.out, pv_on HL.out hlast])
          obtain ⟨k, hk⟩ : ∃ k, acc.length = k := ⟨_, rfl⟩
          rw [hk] at hrow3 hacc
          have HK := Lib.hid hk
          clear hk
          have hrowd : W.drew.ownsRow B 46 3 u5 k (acc.flatMap Ak.cells) := hrow3
          have HROW := Lib.hid hrowd
          clear hrow3 hrowd
          have hBd : B ≤ W.drew.heap.size := hB3
          have hS0 : W.drew.cell? ⟨b2, 0, none⟩ = some (.int .i64 xa) ∧ W.drew.cell? ⟨b2, 1, none⟩ = some (.int .i64 xt) ∧ W.drew.cell? ⟨b2, 2, none⟩ = some (.int .i64 xd) := ⟨c0, c1', c2'⟩
          have hb2W : b2 < W.heap.size := lt_of_block hblk
          go_upto_region 10 with (fail)
          refine wp_region_held_drew (S := fun W' => W'.cell? ⟨b2, 0, none⟩ = some (.int .i64 xa) ∧ W'.cell? ⟨b2, 1, none⟩ = some (.int .i64 xt) ∧ W'.cell? ⟨b2, 2, none⟩ = some (.int .i64 xd)) (by kernel_rfl) hS0 (fun _ => ?_)
          refine wpAnyH_take (i := 0) (v := ?_) rfl (by kernel_rfl) (by kernel_rfl) (by kernel_rfl) (fun _ _ _ h => h) (Or.inl ⟨by rfl, fun W' hS => ?_⟩) hS0 ?_
          rotate_left
          · obtain ⟨s0, s1, s2⟩ := hS
            go_simp
            try with_reducible rfl
          refine wpAnyH_take (i := 1) (v := ?_) rfl (by kernel_rfl) (by kernel_rfl) (by kernel_rfl) (fun _ _ _ h => h) (Or.inl ⟨by rfl, fun W' hS => ?_⟩) hS0 ?_
          rotate_left
          · obtain ⟨s0, s1, s2⟩ := hS
            go_simp
            try with_reducible rfl
          refine wpAnyH_take (i := 4) (v := ?_) rfl (by kernel_rfl) (by kernel_rfl) (by kernel_rfl) (fun _ _ _ h => h) (Or.inl ⟨by rfl, fun W' hS => ?_⟩) hS0 ?_
          rotate_left
          · obtain ⟨s0, s1, s2⟩ := hS
            go_simp
            try with_reducible rfl
          refine wpAnyH_take (i := 5) (v := ?_) rfl (by kernel_rfl) (by kernel_rfl) (by kernel_rfl) (fun _ _ _ h => h) (Or.inl ⟨by rfl, fun W' hS => ?_⟩) hS0 ?_
          rotate_left
          · obtain ⟨s0, s1, s2⟩ := hS
            go_simp
            try with_reducible rfl
          refine wpAnyH_ready (rs := [2]) (by kernel_rfl) (by simp) ?_
          refine AllReadyH.cons rfl (fun K9 hK9 => ?_) AllReadyH.nil
          go_simp
          have hS1 : (W.drew.alloc (.cells #[.int .i64 xa, .int .i64 xt, .int .i64 xd] 46)).cell? ⟨b2, 0, none⟩ = some (.int .i64 xa) ∧ (W.drew.alloc (.cells #[.int .i64 xa, .int .i64 xt, .int .i64 xd] 46)).cell? ⟨b2, 1, none⟩ = some (.int .i64 xt) ∧ (W.drew.alloc (.cells #[.int .i64 xa, .int .i64 xt, .int .i64 xd] 46)).cell? ⟨b2, 2, none⟩ = some (.int .i64 xd) :=
            ⟨(World.cell?_alloc_lt _ _ _ hb2W).trans c0, (World.cell?_alloc_lt _ _ _ hb2W).trans c1', (World.cell?_alloc_lt _ _ _ hb2W).trans c2'⟩
          refine hK9.out _ _ hS1 (fun _ => ?_)
          clear hK9 K9
          refine wpAnyH_ready (rs := [3]) (by kernel_rfl) (by simp) ?_
          refine AllReadyH.cons rfl (fun K9 hK9 => ?_) AllReadyH.nil
          refine step_append_lies _ (by rfl) (.tmp 36) (.tmp 38) 27 (by rfl) B 46 i0 _ 3 24 Tryd.underlying27 hi0 hz0 hz1 hz2 rfl (by decide) u5 k (acc.flatMap Ak.cells) (by rfl) ((HROW.out).alloc _) ⟨W.heap.size, 0, none⟩ 1 1 [.int .i64 xa, .int .i64 xt, .int .i64 xd] (by rfl) rfl (three_new W.drew _ _ _ _) (by simp [Value.oneCell']) (by decide) (by unfold maxLen; omega) (by omega) (by simp; omega) _ rfl ?_
          intro g' cap' w3 hown' hgrow _ _
          have hfar : ∀ j, w3.cell? ⟨b2, j, none⟩ = (W.drew.alloc (.cells #[.int .i64 xa, .int .i64 xt, .int .i64 xd] 46)).cell? ⟨b2, j, none⟩ := fun j => hgrow.cell_far ⟨b2, j, none⟩ (by simp; omega) (fun e => by have := hrlt b2 e.symm; omega)
          have hS3 : w3.cell? ⟨b2, 0, none⟩ = some (.int .i64 xa) ∧ w3.cell? ⟨b2, 1, none⟩ = some (.int .i64 xt) ∧ w3.cell? ⟨b2, 2, none⟩ = some (.int .i64 xd) := ⟨(hfar 0).trans hS1.1, (hfar 1).trans hS1.2.1, (hfar 2).trans hS1.2.2⟩
          have hB4 : Below B W.drew w3 := ((Below.refl B W.drew).alloc hBd _).grown hgrow (by simp; omega) (fun k e => (HROW.out.lt k e).1)
          refine hK9.out _ _ hS3 (fun _ => ?_)
          clear hK9 K9
          refine wpAnyH_take (i := 6) (v := ?_) rfl (by kernel_rfl) (by kernel_rfl) (by kernel_rfl) (fun _ _ _ h => h) (Or.inl ⟨by rfl, fun W' hS => ?_⟩) hS3 ?_
          rotate_left
          · obtain ⟨s0, s1, s2⟩ := hS
            go_simp
            try with_reducible rfl
          refine wpAnyH_take (i := 7) (v := ?_) rfl (by kernel_rfl) (by kernel_rfl) (by kernel_rfl) (fun _ _ _ h => h) (Or.inl ⟨by rfl, fun W' hS => ?_⟩) hS3 ?_
          rotate_left
          · obtain ⟨s0, s1, s2⟩ := hS
            go_simp
            try with_reducible rfl
          refine wpAnyH_done (by kernel_rfl) ?_ _
          go_wp2
          go_roundw
          case rel => exact ⟨i + 1, acc ++ [⟨xa, xt, xd⟩], by rw [lastA_snoc], rfl, by simp, hin, by have := HK.out; simp; omega, HB, by have h9 := HK.out; simpa [h9, Ak.cells] using hown', hby.drew.trans hB4⟩
          case measure => simp [RowKit.intOf] <;> omega
    · obtain rfl : i = n := by omega
      have HK : Hid (R = (acc, none)) := Lib.hid (by rw [hS.out, HN.out, List.drop_eq_nil_of_le (Nat.le_refl _)]; rfl)
      go_wp2
      repeat rw [Exit.noGoto_ret]
      go_wp2
      go_ret3
      rw [HK.out]
      exact ⟨⟨_, rfl, ownsRow_base hrow (by rw [← hB]; exact hb1.size)⟩, hb1.trans (hbr.mono (by rw [← hB]; exact hb1.size))⟩

end Go.Proofs.YtnejkfccdnadcaaDoor
