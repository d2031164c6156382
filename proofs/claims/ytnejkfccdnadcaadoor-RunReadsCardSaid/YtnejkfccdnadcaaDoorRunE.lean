/- The document's ParseScript. -/
import Derived.Test.YtnejkfccdnadcaaDoorRunD
namespace Go.Proofs.YtnejkfccdnadcaaDoor
open Go.RowKit Go.Shelf Go.Lib

theorem got_ret {R : Ending → World → Prop} {tmps : Array Value} {W : World} {bk : Nat} {t : TypeId} {a b c : Value} (ht : tmps[2]?.getD undef = .pointer (some ⟨bk, 0, none⟩)) (hb : W.heap[bk]? = some (.cells #[a, b, c] t (0, 0)))
    (hR : R (.returned (.agg #[a, b, c])) W) :
    bodyPost Tryd.prog Tryd.f11 R .ret { tmps := tmps, defers := [] } W := by
  refine bodyPost_ret ?_ rfl hR
  have h0 : W.cell? ⟨bk, 0, none⟩ = some a := by simp [World.cell?, hb]
  have h1 : W.cell? ⟨bk, 1, none⟩ = some b := by simp [World.cell?, hb]
  have h2 : W.cell? ⟨bk, 2, none⟩ = some c := by simp [World.cell?, hb]
  simp [results, Tryd.f11, go_sem, ht, h0, h1, h2]

/-- A number's word, at a bound: what it gives. -/
theorem refNum_val (s : ByteArray) (most : Int) (hs : s.size ≤ 1000000) (hm2 : most ≤ 9223372036854775807) : ∃ (n : Int) (ok : Bool), (ok = true → NumOk s.data.toList most ∧ n = (numV s.data.toList : Nat)) ∧ (ok = false → ¬ NumOk s.data.toList most) ∧
    ∀ w, Calls Tryd.prog 25 #[.string s, .int .i64 most] w fun e w' => e = .returned (.agg #[.int .i64 n, .bool ok]) ∧ Below w.heap.size w w' := by
  by_cases h : NumOk s.data.toList most
  · refine ⟨_, true, fun _ => ⟨h, rfl⟩, (fun e => by cases e), fun w => (refNumber_any s most w hs hm2).mono ?_⟩
    rintro e w' ⟨⟨_, he⟩ | ⟨hn, _⟩, hb⟩
    · exact ⟨he, hb⟩
    · exact absurd h hn
  · refine ⟨0, false, (fun e => by cases e), fun _ => h, fun w => (refNumber_any s most w hs hm2).mono ?_⟩
    rintro e w' ⟨⟨hn, _⟩ | ⟨_, he⟩, hb⟩
    · exact absurd hn h
    · exact ⟨he, hb⟩

theorem scan_tsize : ∀ (l : List UInt8) (q : Nat) (off : Bool) (cur : Option (Nat × List UInt8)) (i k : Nat), (∀ p t, cur = some (p, t) → t.length ≤ k) → ∀ x ∈ scan q off cur i l, x.t.size ≤ k + l.length := by
  intro l
  induction l with
  | nil =>
    intro q off cur i k h x hx
    cases cur with
    | none => simp [scan, emit] at hx
    | some c =>
      simp [scan, emit] at hx
      subst hx
      have := h c.1 c.2 rfl
      simp [Lib.size_eq]
      exact this
  | cons c l ih =>
    intro q off cur i k h x hx
    have hem : ∀ x ∈ emit q cur, x.t.size ≤ k := by
      intro x hx
      cases cur with
      | none => simp [emit] at hx
      | some c =>
        simp [emit] at hx
        subst hx
        have := h c.1 c.2 rfl
        simp [Lib.size_eq]
        exact this
    have h0 : ∀ p t, (none : Option (Nat × List UInt8)) = some (p, t) → t.length ≤ 0 := fun _ _ e => by cases e
    simp only [scan] at hx
    simp only [List.length_cons]
    split at hx
    · rcases List.mem_append.1 hx with hx | hx
      · have := hem x hx; omega
      · have := ih _ _ _ _ 0 h0 x hx; omega
    · split at hx
      · rcases List.mem_append.1 hx with hx | hx
        · have := hem x hx; omega
        · have := ih _ _ _ _ 0 h0 x hx; omega
      · split at hx
        · rcases List.mem_append.1 hx with hx | hx
          · have := hem x hx; omega
          · have := ih _ _ _ _ 0 h0 x hx; omega
        · have := ih _ _ (grow i c cur) _ (k + 1) (fun p t e => by
            cases cur with
            | none => simp [grow] at e; rw [← e.2]; simp
            | some d => simp [grow] at e; rw [← e.2]; have := h d.1 d.2 rfl; simp; omega) x hx
          omega

theorem text_tsize (s : ByteArray) : ∀ x ∈ textW s, x.t.size ≤ s.size := by
  intro x hx
  rw [textW_scan] at hx
  have := scan_tsize _ _ _ _ _ 0 (fun _ _ e => by cases e) x hx
  rw [← Lib.size_eq] at this
  omega

theorem lns_mem (l : List Wd) : ∀ g ∈ lns l, ∀ x ∈ g, x ∈ l := by
  have key : ∀ (m : List Wd) (acc : List (List Wd)) (P : Wd → Prop), (∀ x ∈ m, P x) → (∀ g ∈ acc, ∀ x ∈ g, P x) → ∀ g ∈ m.foldl lnStep acc, ∀ x ∈ g, P x := by
    intro m
    induction m with
    | nil => intro acc P _ h g hg; exact h g hg
    | cons y m ih =>
      intro acc P hm h g hg
      refine ih (lnStep acc y) P (fun z hz => hm z (List.mem_cons_of_mem _ hz)) (fun g hg => ?_) g hg
      have hy := hm y List.mem_cons_self
      unfold lnStep at hg
      split at hg
      · simp at hg; subst hg; intro x hx; simp at hx; rw [hx]; exact hy
      · rename_i g0 he
        have h0 := h g0 (List.mem_of_getLast? he)
        split at hg
        · rcases List.mem_append.1 hg with hg | hg
          · exact h g ((List.dropLast_sublist _).subset hg)
          · simp at hg
            subst hg
            intro x hx
            rcases List.mem_append.1 hx with hx | hx
            · exact h0 x hx
            · simp at hx; rw [hx]; exact hy
        · rcases List.mem_append.1 hg with hg | hg
          · exact h g hg
          · simp at hg; subst hg; intro x hx; simp at hx; rw [hx]; exact hy
  exact key l [] (fun x => x ∈ l) (fun _ h => h) (fun g hg => by cases hg)

theorem box_ne1 {w : World} {b c o k : Nat} {x : Int} {d : Bool} {t : TypeId} {A : Addr} {n cc : Nat} (h : w.heap[b]? = some (.cells #[.slice none 0 0, .int .i64 x, .bool d] t (0, 0))) (hc : w.cell? ⟨c, o, none⟩ = some (.slice (some A) n cc)) (hk : k = b) : c ≠ k := by
  rintro rfl
  subst hk
  rw [cell_of_row w c o _ t (0, 0) h] at hc
  rcases o with _ | _ | _ | o <;> simp at hc

theorem box_ne2 {w : World} {b c o k : Nat} {x y z : Int} {d : Bool} {t : TypeId} (h : w.heap[b]? = some (.cells #[.slice none 0 0, .int .i64 x, .bool d] t (0, 0))) (h0 : w.cell? ⟨c, o, none⟩ = some (.int .i64 y)) (h1 : w.cell? ⟨c, o + 1, none⟩ = some (.int .i64 z)) (hk : k = b) : c ≠ k := by
  rintro rfl
  subst hk
  rw [cell_of_row w c o _ t (0, 0) h] at h0
  rw [cell_of_row w c (o + 1) _ t (0, 0) h] at h1
  rcases o with _ | _ | _ | o <;> simp at h0 h1

set_option maxHeartbeats 8000000 in
set_option maxRecDepth 100000 in
theorem refParse_any (s : ByteArray) (hs : s.size ≤ 65536) (w : World) :
    Calls Tryd.prog 11 #[.string s] w fun e w' => (∃ v, e = .returned (.agg #[v, .int .i64 ((pv [] (lns (textW s))).2.getD (s.size : Int)), .bool (pv [] (lns (textW s))).2.isNone]) ∧ w'.ownsRow w.heap.size 46 3 v (pv [] (lns (textW s))).1.length ((pv [] (lns (textW s))).1.flatMap Ak.cells)) ∧ Below w.heap.size w w' := by
  obtain ⟨i0, hi0, hz0, hz1, hz2⟩ := info_parts infoA
  have hN := textW_len s
  have hLL := lns_len (textW s)
  have hEE := lns_each' (textW s)
  have hWW := lns_words (textW s) (fun x hx => (text_bd s x hx).1.1)
  have hTT : ∀ g ∈ lns (textW s), ∀ x ∈ g, x.t.size ≤ s.size := fun g hg x hx => text_tsize s x (lns_mem _ g hg x hx)
  have h1 := fun W => refLines_any s hs W
  generalize lns (textW s) = Ls at *
  obtain ⟨n, hn⟩ : ∃ n, n = Ls.length := ⟨_, rfl⟩
  rw [← hn] at h1 hLL
  have H1 := Lib.hid h1
  have HN := Lib.hid hn
  have HE := Lib.hid hEE
  have HW := Lib.hid hWW
  have HTT := Lib.hid hTT
  obtain ⟨R, hR⟩ : ∃ R, R = pv [] Ls := ⟨_, rfl⟩
  rw [← hR]
  have HR : Hid (R = pv [] (Ls.drop 0)) := Lib.hid hR
  clear hn hEE hWW hR h1 hTT
  generalize (textW s).length = nt at *
  go_enter Tryd.func11, Tryd.ntmps11
  go_upto_region 2 with (fail)
  have hb0 := (Below.refl w.heap.size w).alloc (Nat.le_refl _) (.cells #[.slice none 0 0, .int .i64 0, .bool false] 41)
  have hs1 : (w.alloc (.cells #[.slice none 0 0, .int .i64 0, .bool false] 41)).heap.size = w.heap.size + 1 := by simp
  have hl0 := heap_alloc_new w (.cells #[.slice none 0 0, .int .i64 0, .bool false] 41)
  generalize w.alloc (.cells #[.slice none 0 0, .int .i64 0, .bool false] 41) = wA at hb0 hs1 hl0 ⊢
  have hb1 := hb0.alloc hb0.size (.cells #[.slice none 0 0, .int .i64 s.size, .bool true] 41)
  have hl1 := heap_alloc_new wA (.cells #[.slice none 0 0, .int .i64 s.size, .bool true] 41)
  have hl2 := (Below.heap_alloc wA (.cells #[.slice none 0 0, .int .i64 s.size, .bool true] 41) _ (lt_of_block hl0)).trans hl0
  rw [hs1] at hl1
  generalize wA.alloc (.cells #[.slice none 0 0, .int .i64 s.size, .bool true] 41) = wB at hb1 hl1 hl2 ⊢
  clear hb0 hs1 hl0
  go_wp2_with (go_at_call 24; refine (H1.out _).mono ?_; rintro e w1 ⟨⟨A1, c1, rfl, r1⟩, hb2⟩)
  have hb3 := hb1.trans (hb2.mono hb1.size)
  have hm1 := (hb2.block _ (lt_of_block hl1)).trans hl1
  have hm2 := (hb2.block _ (lt_of_block hl2)).trans hl2
  have hBs : w.heap.size + 1 < w1.heap.size := lt_of_block hm1
  clear hb1 hb2 hl1 hl2
  obtain ⟨B, hB⟩ : ∃ B, w1.heap.size = B := ⟨_, rfl⟩
  rw [hB] at r1 hBs
  have HBSL := Lib.hid hBs
  go_loopw [5] (fun v5 wr => ∃ (i : Nat) (acc : List Ak) (v : Value), v5 = .int .i64 i ∧ i ≤ n ∧ acc.length ≤ i ∧ Hid (R = pv acc (Ls.drop i)) ∧ wr.ownsRow B 46 3 v acc.length (acc.flatMap Ak.cells) ∧ wr.heap[w.heap.size + 1]? = some (.cells #[v, .int .i64 s.size, .bool true] 41 (0, 0)) ∧
      wr.heap[w.heap.size]? = some (.cells #[.slice none 0 0, .int .i64 0, .bool false] 41 (0, 0)) ∧ B ≤ wr.heap.size ∧ Hid (∀ p : Addr, p.block < B → p.block ≠ w.heap.size + 1 → wr.cell? p = w1.cell? p) ∧ Below w.heap.size w wr) (fun v5 _ => n - (RowKit.intOf v5).toNat)
  case atStart => exact ⟨0, [], _, rfl, Nat.zero_le _, Nat.zero_le _, HR, World.ownsRow_nil _ _ _ _, hm1, hm2, by omega, Lib.hid (fun _ _ _ => rfl), hb3⟩
  case round =>
    obtain ⟨i, acc, v, rfl, hi, hacc, hS, hrow, hg, h0, hBw, hfar, hbr⟩ := hrel
    obtain ⟨Av, cv, rfl, _, _, hrA⟩ := arow_own hrow
    by_cases hin : i < n
    · have hil : i < Ls.length := by rw [← HN.out]; exact hin
      obtain ⟨bA, oA, rfl, hltA, hcA⟩ := r1 (by omega)
      obtain ⟨Ai, ci, a1, hrL1⟩ := hcA i hil
      have hne := HW.out Ls[i] (List.getElem_mem hil)
      have htt := HTT.out Ls[i] (List.getElem_mem hil)
      have hdrop : Ls.drop i = Ls[i] :: Ls.drop (i + 1) := List.drop_eq_getElem_cons hil
      generalize Ls[i] = L at a1 hrL1 hne hdrop htt
      have HD := Lib.hid hdrop
      have HTL := Lib.hid htt
      clear hdrop htt
      obtain ⟨x, r, rfl⟩ : ∃ x r, L = x :: r := by
        cases L with
        | nil => exact absurd rfl hne.1
        | cons x r => exact ⟨x, r, rfl⟩
      obtain ⟨bi, oi, rfl, hlti, fi⟩ := hrL1 (by simp)
      have hneA : bA ≠ w.heap.size + 1 := box_ne1 hm1 a1 rfl
      have hnei : bi ≠ w.heap.size + 1 := box_ne2 hm1 (fi 0 (by simp)).1 (fi 0 (by simp)).2.1 rfl
      have a0 := (hfar.out ⟨bA, oA + i, none⟩ hltA hneA).trans a1
      have hrL : WRow wr B (some ⟨bi, oi, none⟩) (x :: r) := fun _ => ⟨bi, oi, rfl, hlti, fun k hk => ⟨(hfar.out ⟨bi, _, none⟩ hlti hnei).trans (fi k hk).1, (hfar.out ⟨bi, _, none⟩ hlti hnei).trans (fi k hk).2.1, (hfar.out ⟨bi, _, none⟩ hlti hnei).trans (fi k hk).2.2⟩⟩
      clear fi hrL1 a1
      obtain ⟨bi', oi', hei, _, fi⟩ := hrL (by simp)
      cases hei
      obtain ⟨f0, f1, f2⟩ := fi 0 (by simp)
      simp only [Nat.zero_mul, Nat.add_zero, List.getElem_cons_zero] at f0 f1 f2
      obtain ⟨nl, hnl⟩ : ∃ k, (x :: r).length = k := ⟨_, rfl⟩
      rw [hnl] at a0
      have hnl0 : 0 < nl := by rw [← hnl]; simp
      have HNL := Lib.hid hnl
      have HAT : Hid (at0 (x :: r) = x.p) := Lib.hid rfl
      clear hnl hne
      obtain ⟨xp, hxp⟩ : ∃ p, x.p = p := ⟨_, rfl⟩
      rw [hxp] at f0 HAT
      go_upto_region 8 with (fail)
      have hbW := hbr.alloc hbr.size (.cells #[.slice none 0 0, .int .i64 xp, .bool false] 41)
      have hlW := heap_alloc_new wr (.cells #[.slice none 0 0, .int .i64 xp, .bool false] 41)
      have hgW := (Below.heap_alloc wr (.cells #[.slice none 0 0, .int .i64 xp, .bool false] 41) _ (lt_of_block hg)).trans hg
      have h0W := (Below.heap_alloc wr (.cells #[.slice none 0 0, .int .i64 xp, .bool false] 41) _ (lt_of_block h0)).trans h0
      have hrowW := hrow.alloc (.cells #[.slice none 0 0, .int .i64 xp, .bool false] 41)
      have hBW : B ≤ (wr.alloc (.cells #[.slice none 0 0, .int .i64 xp, .bool false] 41)).heap.size := by simp; omega
      have hal := (Below.refl wr.heap.size wr).alloc (Nat.le_refl _) (.cells #[.slice none 0 0, .int .i64 xp, .bool false] 41)
      have hLW := hrL.below hal hBw
      have hfarW : Hid (∀ p : Addr, p.block < B → p.block ≠ w.heap.size + 1 → (wr.alloc (.cells #[.slice none 0 0, .int .i64 xp, .bool false] 41)).cell? p = w1.cell? p) := Lib.hid (fun p h1 h2 => (World.cell?_alloc_lt _ _ _ (by omega)).trans (hfar.out p h1 h2))
      have hAW := (hrA.below hal (Nat.le_refl _)).more hal.size
      generalize wr.alloc (.cells #[.slice none 0 0, .int .i64 xp, .bool false] 41) = W at hbW hlW hgW h0W hrowW hBW hLW hfarW hAW ⊢
      obtain ⟨bb, hbb⟩ : ∃ b, wr.heap.size = b := ⟨_, rfl⟩
      rw [hbb] at hlW ⊢
      have q0 := cell_of_row W bb 0 _ _ _ hlW
      have q1 := cell_of_row W bb 1 _ _ _ hlW
      have q2 := cell_of_row W bb 2 _ _ _ hlW
      have j0 := cell_of_row W w.heap.size 0 _ _ _ h0W
      have j1 := cell_of_row W w.heap.size 1 _ _ _ h0W
      have j2 := cell_of_row W w.heap.size 2 _ _ _ h0W
      have e0 := frozen_of_row W w.heap.size 0 _ _ h0W
      have e1 := frozen_of_row W w.heap.size 1 _ _ h0W
      have e2 := frozen_of_row W w.heap.size 2 _ _ h0W
      simp at q0 q1 q2 j0 j1 j2
      clear hal hbr hg h0 hrow hfar a0 f0 f1 f2 fi hrL hrA
      have HEND : Hid (∀ W', W'.heap[w.heap.size]? = some (.cells #[.slice none 0 0, .int .i64 0, .bool false] 41 (0, 0)) → Below w.heap.size w W' → R = ([], some xp) → (∃ v, Ending.returned (.agg #[.slice none 0 0, .int .i64 xp, .bool false]) = .returned (.agg #[v, .int .i64 (R.2.getD (s.size : Int)), .bool R.2.isNone]) ∧
          (((W'.setCell ⟨w.heap.size, 0, none⟩ (.slice none 0 0)).setCell ⟨w.heap.size, 1, none⟩ (.int .i64 xp)).setCell ⟨w.heap.size, 2, none⟩ (.bool false)).ownsRow w.heap.size 46 3 v R.1.length (R.1.flatMap Ak.cells)) ∧ Below w.heap.size w (((W'.setCell ⟨w.heap.size, 0, none⟩ (.slice none 0 0)).setCell ⟨w.heap.size, 1, none⟩ (.int .i64 xp)).setCell ⟨w.heap.size, 2, none⟩ (.bool false))) :=
        Lib.hid (fun W' _ hb e => by rw [e]; exact ⟨⟨_, rfl, World.ownsRow_nil _ _ _ _⟩, below3 hb (Nat.le_refl _) _ _ _⟩)
      by_cases h3 : nl = 3
      · subst h3
        obtain ⟨y, z, rfl⟩ : ∃ y z, r = [y, z] := by
          have h := HNL.out
          match r, h with
          | [y, z], _ => exact ⟨y, z, rfl⟩
        obtain ⟨bi', oi', hei, _, fi⟩ := hLW (by simp)
        cases hei
        have t0 := (fi 0 (by simp)).2.2
        have t1 := (fi 1 (by simp)).2.2
        have t2 := (fi 2 (by simp)).2.2
        simp at t0 t1 t2
        obtain ⟨n0, k0, A1', A2', C0⟩ := refNum_val x.t 2147483648 (by have := HTL.out x (by simp); omega) (by omega)
        obtain ⟨n1, k1, B1, B2, C1⟩ := refNum_val y.t 99 (by have := HTL.out y (by simp); omega) (by omega)
        obtain ⟨n2, k2, D1, D2, C2⟩ := refNum_val z.t 1073741824 (by have := HTL.out z (by simp); omega) (by omega)
        have HC0 := Lib.hid C0
        have HC1 := Lib.hid C1
        have HC2 := Lib.hid C2
        have HR1 : Hid (k0 = false ∨ k1 = false ∨ k2 = false ∨ n1 < 1 ∨ n2 < 1 → R = ([], some xp)) := Lib.hid (fun h => by
          rw [hS.out, HD.out, pv_bad, HAT.out]
          rw [lineV_three, if_neg]
          rintro ⟨u0, u1, u2, u3, u4⟩
          rcases h with h | h | h | h | h
          · exact A2' h u0
          · exact B2 h u1
          · exact D2 h u2
          · cases hk : k1 with
            | false => exact B2 hk u1
            | true => have := (B1 hk).2; omega
          · cases hk : k2 with
            | false => exact D2 hk u2
            | true => have := (D1 hk).2; omega)
        have HN0 : Hid (k0 = true → 0 ≤ n0) := Lib.hid (fun g => by rw [(A1' g).2]; omega)
        have HR2 : Hid (k0 = true → k1 = true → k2 = true → ¬ n1 < 1 → ¬ n2 < 1 → R = if n0 < lastA acc then ([], some xp) else pv (acc ++ [⟨n0, n1, n2⟩]) (Ls.drop (i + 1))) := Lib.hid (fun g0 g1 g2 g3 g4 => by
          have hl : lineV [x, y, z] = some ⟨n0, n1, n2⟩ := by
            rw [lineV_three, if_pos ⟨(A1' g0).1, (B1 g1).1, (D1 g2).1, by have := (B1 g1).2; omega, by have := (D1 g2).2; omega⟩, (A1' g0).2, (B1 g1).2, (D1 g2).2]
          rw [hS.out, HD.out]
          by_cases he : n0 < lastA acc
          · rw [pv_early hl he, HAT.out, if_pos he]
          · rw [pv_on hl he, if_neg he])
        clear A1' A2' B1 B2 D1 D2 C0 C1 C2 fi hLW
        generalize x.t = xt at *
        generalize y.t = yt at *
        generalize z.t = zt at *
        go_upto_region 11 with (go_at_call 25; refine (HC0.out _).mono ?_; rintro e w2 ⟨rfl, hc2⟩)
        clear t0
        have P1 := hc2.alloc hc2.size (.cells #[.int .i64 n0, .bool k0] 79)
        have la := heap_alloc_new w2 (.cells #[.int .i64 n0, .bool k0] 79)
        have T1 := cell_kept t1 P1
        have T2 := cell_kept t2 P1
        generalize w2.alloc (.cells #[.int .i64 n0, .bool k0] 79) = W1 at P1 la T1 T2 ⊢
        obtain ⟨ba, hba⟩ : ∃ b, w2.heap.size = b := ⟨_, rfl⟩
        rw [hba] at la ⊢
        clear t1 t2 hc2 hba
        go_upto_region 12 with (go_at_call 25; refine (HC1.out _).mono ?_; rintro e w3 ⟨rfl, hc3⟩)
        have P2 := (P1.trans (hc3.mono P1.size)).alloc (P1.trans (hc3.mono P1.size)).size (.cells #[.int .i64 n1, .bool k1] 79)
        have lb := heap_alloc_new w3 (.cells #[.int .i64 n1, .bool k1] 79)
        have la2 := (Below.heap_alloc w3 (.cells #[.int .i64 n1, .bool k1] 79) _ (Nat.lt_of_lt_of_le (lt_of_block la) hc3.size)).trans ((hc3.block _ (lt_of_block la)).trans la)
        have T3 := (World.cell?_alloc_lt w3 (.cells #[.int .i64 n1, .bool k1] 79) _ (Nat.lt_of_lt_of_le (cell_lt T2) hc3.size)).trans (cell_kept T2 hc3)
        generalize w3.alloc (.cells #[.int .i64 n1, .bool k1] 79) = W2 at P2 lb la2 T3 ⊢
        obtain ⟨bb1, hbb1⟩ : ∃ b, w3.heap.size = b := ⟨_, rfl⟩
        rw [hbb1] at lb ⊢
        clear T1 T2 hc3 hbb1 la P1
        go_upto_region 13 with (go_at_call 25; refine (HC2.out _).mono ?_; rintro e w4 ⟨rfl, hc4⟩)
        have P3 := (P2.trans (hc4.mono P2.size)).alloc (P2.trans (hc4.mono P2.size)).size (.cells #[.int .i64 n2, .bool k2] 79)
        have lc := heap_alloc_new w4 (.cells #[.int .i64 n2, .bool k2] 79)
        have la3 := (Below.heap_alloc w4 (.cells #[.int .i64 n2, .bool k2] 79) _ (Nat.lt_of_lt_of_le (lt_of_block la2) hc4.size)).trans ((hc4.block _ (lt_of_block la2)).trans la2)
        have lb3 := (Below.heap_alloc w4 (.cells #[.int .i64 n2, .bool k2] 79) _ (Nat.lt_of_lt_of_le (lt_of_block lb) hc4.size)).trans ((hc4.block _ (lt_of_block lb)).trans lb)
        generalize w4.alloc (.cells #[.int .i64 n2, .bool k2] 79) = W3 at P3 lc la3 lb3 ⊢
        obtain ⟨bc, hbc⟩ : ∃ b, w4.heap.size = b := ⟨_, rfl⟩
        rw [hbc] at lc ⊢
        clear T3 hc4 hbc la2 lb P2
        have hb3W := hbW.trans (P3.mono hbW.size)
        have h03 := (P3.block _ (lt_of_block h0W)).trans h0W
        have hg3 := (P3.block _ (lt_of_block hgW)).trans hgW
        have hl3 := (P3.block _ (lt_of_block hlW)).trans hlW
        have hrow3 := ownsRow_below hrowW P3 (Nat.le_refl _)
        have hA3 := (hAW.below P3 (Nat.le_refl _)).more P3.size
        have hB3 : B ≤ W3.heap.size := Nat.le_trans hBW P3.size
        have hfar3 : Hid (∀ p : Addr, p.block < B → p.block ≠ w.heap.size + 1 → W3.cell? p = w1.cell? p) := Lib.hid (fun p g1 g2 => (P3.cell (p := p) (by omega)).trans (hfarW.out p g1 g2))
        clear q0 q1 q2 j0 j1 j2 e0 e1 e2 hbW h0W hgW hlW hrowW hAW hBW hfarW P3 HC0 HC1 HC2
        have a0 := cell_of_row W3 ba 0 _ _ _ la3
        have a1 := cell_of_row W3 ba 1 _ _ _ la3
        have b0 := cell_of_row W3 bb1 0 _ _ _ lb3
        have b1 := cell_of_row W3 bb1 1 _ _ _ lb3
        have d0 := cell_of_row W3 bc 0 _ _ _ lc
        have d1 := cell_of_row W3 bc 1 _ _ _ lc
        have g0 := cell_of_row W3 (w.heap.size + 1) 0 _ _ _ hg3
        simp at a0 a1 b0 b1 d0 d1 g0
        obtain ⟨k, hk⟩ : ∃ k, acc.length = k := ⟨_, rfl⟩
        rw [hk] at g0 hrow3 hacc
        have HK := Lib.hid hk
        clear hk
        have HROW := Lib.hid hrow3
        clear hrow3
        go_cut [92] from 107 (fun v92 wx => (∃ m, wx = W3.drewN m) ∧ ∃ bq, v92 = .bool bq ∧ Hid (bq = true → R = ([], some xp)) ∧ Hid (bq = false → R = pv (acc ++ [⟨n0, n1, n2⟩]) (Ls.drop (i + 1))))
        case first =>
          cases k0 with
          | false =>
            have HQ := Lib.hid (HR1.out (.inl rfl))
            go_quiet (fail)
            go_wp2
            go_meet
            exact ⟨⟨_, rfl⟩, true, rfl, Lib.hid (fun _ => HQ.out), Lib.hid (fun e => by cases e)⟩
          | true =>
            cases k1 with
            | false =>
              have HQ := Lib.hid (HR1.out (.inr (.inl rfl)))
              go_quiet (fail)
              go_wp2
              go_meet
              exact ⟨⟨_, rfl⟩, true, rfl, Lib.hid (fun _ => HQ.out), Lib.hid (fun e => by cases e)⟩
            | true =>
              cases k2 with
              | false =>
                have HQ := Lib.hid (HR1.out (.inr (.inr (.inl rfl))))
                go_quiet (fail)
                go_wp2
                go_meet
                exact ⟨⟨_, rfl⟩, true, rfl, Lib.hid (fun _ => HQ.out), Lib.hid (fun e => by cases e)⟩
              | true =>
                by_cases hn1 : n1 < 1
                · have HQ := Lib.hid (HR1.out (.inr (.inr (.inr (.inl hn1)))))
                  go_quiet (fail)
                  go_wp2
                  go_meet
                  exact ⟨⟨_, rfl⟩, true, rfl, Lib.hid (fun _ => HQ.out), Lib.hid (fun e => by cases e)⟩
                · have dn1 : decide (n1 < 1) = false := decide_eq_false hn1
                  by_cases hn2 : n2 < 1
                  · have HQ := Lib.hid (HR1.out (.inr (.inr (.inr (.inr hn2)))))
                    clear hn1
                    go_quiet (fail)
                    go_wp2
                    go_meet
                    exact ⟨⟨_, rfl⟩, true, rfl, Lib.hid (fun _ => HQ.out), Lib.hid (fun e => by cases e)⟩
                  · have dn2 : decide (n2 < 1) = false := decide_eq_false hn2
                    have HR3 := Lib.hid (HR2.out rfl rfl rfl (by omega) (by omega))
                    clear hn1 hn2
                    by_cases hk0 : k = 0
                    · subst hk0
                      have HNIL : Hid (R = pv (acc ++ [⟨n0, n1, n2⟩]) (Ls.drop (i + 1))) := Lib.hid (by
                        rw [HR3.out, if_neg]
                        rw [List.eq_nil_of_length_eq_zero HK.out]
                        have := HN0.out rfl
                        simp [lastA]
                        omega)
                      go_quiet (fail)
                      go_wp2
                      go_meet
                      exact ⟨⟨_, rfl⟩, false, rfl, Lib.hid (fun e => by cases e), Lib.hid (fun _ => HNIL.out)⟩
                    · obtain ⟨k', rfl⟩ : ∃ k', k = k' + 1 := ⟨k - 1, by omega⟩
                      have hkl : k' < acc.length := by rw [HK.out]; omega
                      obtain ⟨bv, ov, rfl, _, hcv⟩ := hA3 (by omega)
                      have ya := (hcv k' hkl).1
                      have HLA : Hid (lastA acc = acc[k'].a) := Lib.hid (by
                        unfold lastA
                        rw [List.getLast?_eq_getElem?, HK.out, Nat.add_sub_cancel, List.getElem?_eq_getElem hkl])
                      generalize acc[k'].a = yv at *
                      have hkk : IntKind.i64.wrap (k' : Int) = (k' : Int) := by rw [IntKind.wrap_i64]; omega
                      have hkk2 : (k' : Int) < (k' : Int) + 1 := by omega
                      have hkk3 : (0 : Int) < (k' : Int) + 1 := by omega
                      clear hcv hk0
                      by_cases he : n0 < yv
                      · have HQ : Hid (R = ([], some xp)) := Lib.hid (by rw [HR3.out, HLA.out, if_pos he])
                        go_quiet (fail)
                        go_wp2
                        go_meet
                        exact ⟨⟨_, rfl⟩, true, rfl, Lib.hid (fun _ => HQ.out), Lib.hid (fun e => by cases e)⟩
                      · have HQ : Hid (R = pv (acc ++ [⟨n0, n1, n2⟩]) (Ls.drop (i + 1))) := Lib.hid (by rw [HR3.out, HLA.out, if_neg he])
                        have dhe : decide (n0 < yv) = false := decide_eq_false he
                        clear he
                        go_quiet (fail)
                        go_wp2
                        go_meet
                        exact ⟨⟨_, rfl⟩, false, rfl, Lib.hid (fun e => by cases e), Lib.hid (fun _ => HQ.out)⟩
        case rest =>
          obtain ⟨⟨m, rfl⟩, bq, rfl, HQ1, HQ2⟩ := hcut
          have h04 : (W3.drewN m).heap[w.heap.size]? = some (.cells #[.slice none 0 0, .int .i64 0, .bool false] 41 (0, 0)) := h03
          have hg4 : (W3.drewN m).heap[w.heap.size + 1]? = _ := hg3
          have hl4 : (W3.drewN m).heap[bb]? = _ := hl3
          have la4 : (W3.drewN m).heap[ba]? = _ := la3
          have lb4 : (W3.drewN m).heap[bb1]? = _ := lb3
          have lc4 : (W3.drewN m).heap[bc]? = _ := lc
          have hrow4 : (W3.drewN m).ownsRow B 46 3 (.slice Av k cv) k (acc.flatMap Ak.cells) := HROW.out
          have hb4W : Below w.heap.size w (W3.drewN m) := below_drewN hb3W m
          have hB4 : B ≤ (W3.drewN m).heap.size := hB3
          have hfar4 : Hid (∀ p : Addr, p.block < B → p.block ≠ w.heap.size + 1 → (W3.drewN m).cell? p = w1.cell? p) := Lib.hid (fun p g1 g2 => hfar3.out p g1 g2)
          clear h03 hg3 hl3 la3 lb3 lc HROW hb3W hB3 hfar3 a0 a1 b0 b1 d0 d1 g0 hA3 HR1 HR2 HN0
          generalize W3.drewN m = W4 at h04 hg4 hl4 la4 lb4 lc4 hrow4 hb4W hB4 hfar4 ⊢
          rw [HK.out] at hg4
          cases bq with
          | true =>
            have HB := Lib.hid (HQ1.out rfl)
            have q0 := cell_of_row W4 bb 0 _ _ _ hl4
            have q1 := cell_of_row W4 bb 1 _ _ _ hl4
            have q2 := cell_of_row W4 bb 2 _ _ _ hl4
            have j0 := cell_of_row W4 w.heap.size 0 _ _ _ h04
            have j1 := cell_of_row W4 w.heap.size 1 _ _ _ h04
            have j2 := cell_of_row W4 w.heap.size 2 _ _ _ h04
            have e0 := frozen_of_row W4 w.heap.size 0 _ _ h04
            have e1 := frozen_of_row W4 w.heap.size 1 _ _ h04
            have e2 := frozen_of_row W4 w.heap.size 2 _ _ h04
            simp at q0 q1 q2 j0 j1 j2
            go_wp2
            exact got_ret (bk := w.heap.size) rfl (set3 h04) (HEND.out W4 h04 hb4W HB.out)
          | false =>
            have HB := Lib.hid (HQ2.out rfl)
            have a0 := cell_of_row W4 ba 0 _ _ _ la4
            have b0 := cell_of_row W4 bb1 0 _ _ _ lb4
            have d0 := cell_of_row W4 bc 0 _ _ _ lc4
            have g0 := cell_of_row W4 (w.heap.size + 1) 0 _ _ _ hg4
            simp at a0 b0 d0 g0
            have hrk : ∀ q, (Value.slice Av k cv).ownBlock = some q → B ≤ q := fun q e => (hrow4.lt q e).1
            have hg1lt := lt_of_block hg4
            have h0lt := lt_of_block h04
            have HROW4 := Lib.hid hrow4
            clear hrow4
            go_wp2_with (at_builtin; refine wpList_append_own _ rfl _ _ 27 rfl B 46 i0 _ 3 24 Tryd.underlying27 hi0 hz0 hz1 hz2 rfl (by decide) (.slice Av k cv) k (acc.flatMap Ak.cells) rfl (HROW4.out.alloc _) ⟨W4.heap.size, 0, none⟩ 1 1 [.int .i64 n0, .int .i64 n1, .int .i64 n2] rfl rfl (three_new _ _ _ _ _) (by simp [Value.oneCell']) (by unfold maxLen; omega) (by omega) (by simp; omega) ?_; intro v' w9 hown' hgrow _; obtain ⟨gn, capn, rfl⟩ := ownsRow_succ hown'; have hg9 := (hgrow.block (w.heap.size + 1) (by simp; omega) (fun e => by have := hrk _ e.symm; omega)).trans ((Below.heap_alloc W4 _ _ hg1lt).trans hg4); have h09 := (hgrow.block w.heap.size (by simp; omega) (fun e => by have := hrk _ e.symm; omega)).trans ((Below.heap_alloc W4 _ _ h0lt).trans h04); have x0 := cell_of_row w9 (w.heap.size + 1) 0 _ _ _ hg9; have x1 := frozen_of_row w9 (w.heap.size + 1) 0 _ _ hg9)
            have hwB : w.heap.size + 1 < B := HBSL.out
            have hsz := hgrow.size
            have hrow9 : (w9.setCell ⟨w.heap.size + 1, 0, none⟩ (.slice (some ⟨gn, 0, none⟩) (k + 1) capn)).ownsRow B 46 3 (.slice (some ⟨gn, 0, none⟩) (k + 1) capn) (acc ++ [(⟨n0, n1, n2⟩ : Ak)]).length ((acc ++ [(⟨n0, n1, n2⟩ : Ak)]).flatMap Ak.cells) := by
              have e1 : (acc ++ [(⟨n0, n1, n2⟩ : Ak)]).length = k + 1 := by rw [List.length_append, HK.out]; rfl
              have e2 : (acc ++ [(⟨n0, n1, n2⟩ : Ak)]).flatMap Ak.cells = acc.flatMap Ak.cells ++ [.int .i64 n0, .int .i64 n1, .int .i64 n2] := by rw [List.flatMap_append]; rfl
              rw [e1, e2]
              exact ownsRow_setCell_below hown' (a := ⟨w.heap.size + 1, 0, none⟩) hwB _
            have hgr := heap_setCell_same w9 (w.heap.size + 1) 0 _ _ (.slice (some ⟨gn, 0, none⟩) (k + 1) capn) hg9
            simp at hgr hsz
            have h0r := (Below.heap_setCell w9 ⟨w.heap.size + 1, 0, none⟩ (.slice (some ⟨gn, 0, none⟩) (k + 1) capn) w.heap.size (by show w.heap.size ≠ w.heap.size + 1; omega)).trans h09
            have hfr : Hid (∀ p : Addr, p.block < B → p.block ≠ w.heap.size + 1 → (w9.setCell ⟨w.heap.size + 1, 0, none⟩ (.slice (some ⟨gn, 0, none⟩) (k + 1) capn)).cell? p = w1.cell? p) := Lib.hid (fun p q1 q2 =>
              (World.cell?_setCell_far w9 ⟨w.heap.size + 1, 0, none⟩ p _ (by show w.heap.size + 1 ≠ p.block; omega)).trans ((hgrow.cell_far p (by simp; omega) (fun e => by have := hrk _ e.symm; omega)).trans ((World.cell?_alloc_lt _ _ _ (by omega)).trans (hfar4.out p q1 q2))))
            have hbr' := ((hb4W.alloc hb4W.size (.cells #[.int .i64 n0, .int .i64 n1, .int .i64 n2] 46)).grown hgrow (by simp; omega) (fun q e => by have := hrk q e; omega)).setCell (p := ⟨w.heap.size + 1, 0, none⟩) (by show w.heap.size ≤ w.heap.size + 1; omega) (.slice (some ⟨gn, 0, none⟩) (k + 1) capn)
            exact ⟨⟨i + 1, acc ++ [⟨n0, n1, n2⟩], _, by simp, hin, by rw [List.length_append, HK.out]; simp; omega, HB, hrow9, hgr, h0r, by simp; omega, hfr, hbr'⟩, by simp [RowKit.intOf]; omega⟩
      · have HB : Hid (R = ([], some xp)) := Lib.hid (by rw [hS.out, HD.out, pv_bad (lineV_len (by rw [HNL.out]; exact h3)), HAT.out])
        have h3' : ((nl : Int) != 3) = true := by simp; omega
        go_wp2
        exact got_ret (bk := w.heap.size) rfl (set3 h0W) (HEND.out W h0W hbW HB.out)
    · obtain rfl : i = n := by omega
      have HK : Hid (R = (acc, none)) := Lib.hid (by rw [hS.out, HN.out, List.drop_eq_nil_of_le (Nat.le_refl _)]; rfl)
      have k0 := cell_of_row wr (w.heap.size + 1) 0 _ _ _ hg
      have k1 := cell_of_row wr (w.heap.size + 1) 1 _ _ _ hg
      have k2 := cell_of_row wr (w.heap.size + 1) 2 _ _ _ hg
      have j0 := cell_of_row wr w.heap.size 0 _ _ _ h0
      have j1 := cell_of_row wr w.heap.size 1 _ _ _ h0
      have j2 := cell_of_row wr w.heap.size 2 _ _ _ h0
      have e0 := frozen_of_row wr w.heap.size 0 _ _ h0
      have e1 := frozen_of_row wr w.heap.size 1 _ _ h0
      have e2 := frozen_of_row wr w.heap.size 2 _ _ h0
      simp at k0 k1 k2 j0 j1 j2
      go_wp2
      refine got_ret (bk := w.heap.size) rfl (set3 h0) ?_
      rw [HK.out]
      have hws : w.heap.size < B := by omega
      exact ⟨⟨_, rfl, ownsRow_base (ownsRow_setCell_below (ownsRow_setCell_below (ownsRow_setCell_below hrow (a := ⟨w.heap.size, 0, none⟩) hws _) (a := ⟨w.heap.size, 1, none⟩) hws _) (a := ⟨w.heap.size, 2, none⟩) hws _) (by omega)⟩, below3 hbr (Nat.le_refl _) _ _ _⟩

end Go.Proofs.YtnejkfccdnadcaaDoor
