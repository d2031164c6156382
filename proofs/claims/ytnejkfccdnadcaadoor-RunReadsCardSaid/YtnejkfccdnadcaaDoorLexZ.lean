/- The document's Lines. -/
import Derived.Test.YtnejkfccdnadcaaDoorLexW
import Derived.Deep.RegionHeld
namespace Go.Proofs.YtnejkfccdnadcaaDoor
open Go.RowKit Go.Shelf Go.Lib

theorem ls_drewN {n0 : Nat} {eo ei : TypeId} {pre : List Wd} {vo : Value} {W : World} (h : LS n0 eo ei pre vo W) (m : Nat) : LS n0 eo ei pre vo (W.drewN m) := by
  rcases h with h | ⟨G, g, y, V, v, hs, h1, h2, h3, h4, h5⟩
  · exact .inl h
  · exact .inr ⟨G, g, y, V, v, hs, h1, h2, h3, h4, ⟨h5.out, h5.len, h5.low, h5.high, h5.done, h5.cur⟩⟩

theorem lns_take {T : List Wd} {i : Nat} (h : i < T.length) : T.take (i + 1) = T.take i ++ [T[i]] := by rw [List.take_succ_eq_append_getElem h]

theorem take_last {T : List Wd} {i : Nat} (h : i < T.length) : (T.take (i + 1)).getLast? = some T[i] := by rw [lns_take h]; exact List.getLast?_concat

theorem struct_cells (w : World) (b o : Nat) (a c d : Value) (h0 : w.cell? ⟨b, o, none⟩ = some a) (h1 : w.cell? ⟨b, o + 1, none⟩ = some c) (h2 : w.cell? ⟨b, o + 2, none⟩ = some d) : ∀ j u, [a, c, d][j]? = some u → w.cell? (Addr.add ⟨b, o, none⟩ j) = some u := by
  intro j u h
  have ha : ∀ j, (⟨b, o, none⟩ : Addr).add j = ⟨b, o + j, none⟩ := fun j => by unfold Addr.add; split <;> simp_all
  rw [ha]
  rcases j with _ | _ | _ | j
  · simp at h; subst h; exact h0
  · simp at h; subst h; exact h1
  · simp at h; subst h; exact h2
  · simp at h

set_option maxHeartbeats 4000000 in
set_option maxRecDepth 100000 in
theorem refLines_any (s : ByteArray) (hs : s.size ≤ 65536) (w : World) :
    Calls Tryd.prog 24 #[.string s] w fun e w' => (∃ A cap, e = .returned (.slice A (lns (textW s)).length cap) ∧ LRow w' w'.heap.size A (lns (textW s))) ∧ Below w.heap.size w w' := by
  obtain ⟨i0, hi0, hz0, hz1, hz2⟩ := info_parts infoW
  obtain ⟨j0, hj0, hy0, hy1, hy2⟩ := info_parts infoR
  have hN := textW_len s
  have HW := Lib.hid (refWords_any s hs w)
  generalize textW s = T at *
  obtain ⟨n, hn⟩ : ∃ n, n = T.length := ⟨_, rfl⟩
  rw [← hn] at hN HW
  have HN := Lib.hid hn
  clear hn
  go_enter Tryd.func24, Tryd.ntmps24
  go_wp2_with (go_at_call 36; refine HW.out.mono ?_; rintro e w1 ⟨⟨A, cap, rfl, hr⟩, hb1⟩)
  obtain ⟨B, hB⟩ : ∃ B, w1.heap.size = B := ⟨_, rfl⟩
  rw [hB] at hr
  go_loopw [3, 5] (fun v3 v5 wr => ∃ i : Nat, v5 = .int .i64 i ∧ i ≤ n ∧ LS B 73 77 (T.take i) v3 wr ∧ Below B w1 wr) (fun _ v5 _ => n - (RowKit.intOf v5).toNat)
  case atStart => exact ⟨0, rfl, Nat.zero_le _, .inl ⟨rfl, rfl⟩, Below.refl _ _⟩
  case round =>
    obtain ⟨i, rfl, hi, hls, hbr⟩ := hrel
    have hBw : B ≤ wr.heap.size := by rw [← hB]; exact hbr.size
    by_cases hin : i < n
    · have hil : i < T.length := by rw [← HN.out]; exact hin
      obtain ⟨b1, o1, rfl, hlt1, hc1⟩ := hr (by omega)
      obtain ⟨x0, x1, x2⟩ := hc1 i hil
      have a0 := (hbr.cell (p := ⟨b1, _, none⟩) (by show b1 < B; omega)).trans x0
      have a1 := (hbr.cell (p := ⟨b1, _, none⟩) (by show b1 < B; omega)).trans x1
      have a2 := (hbr.cell (p := ⟨b1, _, none⟩) (by show b1 < B; omega)).trans x2
      have HTK := Lib.hid (lns_take hil)
      have HCELL : Hid (∀ (k : Nat) (h : k < T.length), wr.cell? ⟨b1, o1 + k * 3 + 1, none⟩ = some (.int .i64 T[k].q)) := Lib.hid (fun k h => (hbr.cell (p := ⟨b1, _, none⟩) (by show b1 < B; omega)).trans (hc1 k h).2.1)
      clear x0 x1 x2 hc1
      obtain ⟨⟨xp, xq, xt⟩, hx⟩ : ∃ x, T[i] = x := ⟨_, rfl⟩
      rw [hx] at a0 a1 a2 HTK
      simp only at a0 a1 a2
      clear hx
      obtain ⟨bq, hbq⟩ : ∃ b : Bool, b = (match (T.take i).getLast? with | none => true | some y => xq != y.q) := ⟨_, rfl⟩
      have HBQ := Lib.hid hbq
      clear hbq
      have HLS := Lib.hid hls
      clear hls
      go_upto_region 6 with (fail)
      go_cut [30] from 51 (fun v30 wx => (∃ m, wx = wr.drewN m) ∧ v30 = .bool bq)
      case first =>
        by_cases hi0 : i = 0
        · subst hi0
          have hb : bq = true := by rw [HBQ.out]; rfl
          go_quiet (fail)
          go_wp2
          go_meet
          exact ⟨⟨_, rfl⟩, by rw [hb]⟩
        · obtain ⟨k, rfl⟩ : ∃ k, i = k + 1 := ⟨i - 1, by omega⟩
          have hkl : k < T.length := by rw [← HN.out]; omega
          have a3 := HCELL.out k hkl
          have hb : bq = (xq != T[k].q) := by rw [HBQ.out, take_last hkl]
          generalize T[k].q = yq at *
          have hk1 : IntKind.i64.wrap (k : Int) = (k : Int) := by rw [IntKind.wrap_i64]; omega
          have hk0 : ((k : Int) + 1 == 0) = false := by simp; omega
          go_quiet (fail)
          go_wp2
          go_meet
          exact ⟨⟨_, rfl⟩, by rw [hb]⟩
      case rest =>
        obtain ⟨⟨m, rfl⟩, rfl⟩ := hcut
        have hlsd : LS B 73 77 (T.take i) u3 (wr.drewN m) := ls_drewN HLS.out m
        have hbd : Below B w1 (wr.drewN m) := below_drewN hbr m
        have hBd : B ≤ (wr.drewN m).heap.size := hBw
        have d0 : (wr.drewN m).cell? ⟨b1, o1 + i * 3, none⟩ = some (.int .i64 xp) := a0
        have d1 : (wr.drewN m).cell? ⟨b1, o1 + i * 3 + 1, none⟩ = some (.int .i64 xq) := a1
        have d2 : (wr.drewN m).cell? ⟨b1, o1 + i * 3 + 2, none⟩ = some (.string xt) := a2
        clear HLS HCELL a0 a1 a2 hbr hBw
        generalize wr.drewN m = W at hlsd hbd hBd d0 d1 d2 ⊢
        go_upto_if 30 with (fail)
        go_cut [3] from 51 (fun v3 wx => (∃ G g V v hs', Hid (lns (T.take (i + 1)) = G ++ [g ++ [⟨xp, xq, xt⟩]]) ∧ G.length ≤ i ∧ g.length ≤ i ∧ MS B 73 77 G g V v hs' v3 wx) ∧ Below B W wx)
        case first =>
          rcases hlsd with ⟨hp0, rfl⟩ | ⟨G, g, y, V, v, hs', h1, h2, h3, h4, hms⟩
          · have hb : bq = true := by rw [HBQ.out, hp0]; rfl
            subst hb
            have HL : Hid (lns (T.take (i + 1)) = [] ++ [[] ++ [⟨xp, xq, xt⟩]]) := Lib.hid (by rw [HTK.out, hp0]; rfl)
            have hrow := World.ownsRow_nil W B 73 1
            go_wp2_with (at_builtin; refine wpList_append_own _ rfl _ _ 71 rfl B 73 j0 _ 1 24 Tryd.underlying71 hj0 hy0 hy1 hy2 rfl (by decide) _ 0 [] rfl (hrow.alloc _) ⟨W.heap.size, 0, none⟩ 1 1 [.slice none 0 0] rfl rfl (cell_one_new _ _ _) (by simp [Value.oneCell']) (by unfold maxLen; omega) (by omega) (by simp; omega) ?_; intro v' w2 hown' hgrow _)
            go_meet
            exact ⟨⟨[], [], [], .slice none 0 0, _, HL, by simp, by simp, ms_first hown' (by have h9 := hgrow.size; simp at h9; omega)⟩, ((Below.refl B W).alloc hBd _).grown hgrow (by simp; omega) (fun k e => (hrow.lt k e).1)⟩
          · have hilen : (T.take i).length = i := by rw [List.length_take]; omega
            rw [hilen] at h3 h4
            have hq : bq = (xq != y.q) := by rw [HBQ.out, h2]
            cases hbq : bq with
            | false =>
              subst hbq
              have hyq : y.q = xq := by simp at hq; omega
              clear hq HBQ
              have HL := Lib.hid (lns_same (x := ⟨xp, xq, xt⟩) h1 hyq)
              go_wp2
              go_meet
              exact ⟨⟨G, g ++ [y], V, v, hs', Lib.hid (by rw [HTK.out]; exact HL.out), by omega, by simp; omega, hms⟩, Below.refl _ _⟩
            | true =>
              subst hbq
              have hyq : y.q ≠ xq := by simp at hq; omega
              clear hq HBQ
              have HL := Lib.hid (lns_new (x := ⟨xp, xq, xt⟩) h1 hyq)
              have hrow := hms.out
              have HLN := Lib.hid hms.len
              go_wp2_with (at_builtin; refine wpList_append_own _ rfl _ _ 71 rfl B 73 j0 _ 1 24 Tryd.underlying71 hj0 hy0 hy1 hy2 rfl (by decide) _ (V.length + 1) (V ++ [v]) rfl (hrow.alloc _) ⟨W.heap.size, 0, none⟩ 1 1 [.slice none 0 0] rfl rfl (cell_one_new _ _ _) (by simp [Value.oneCell']) (by have := HLN.out; unfold maxLen; omega) (by have := HLN.out; omega) (by simp; omega) ?_; intro v' w2 hown' hgrow _)
              go_meet
              exact ⟨⟨G ++ [g ++ [y]], [], V ++ [v], .slice none 0 0, _, Lib.hid (by rw [HTK.out]; simpa using HL.out), by simp; omega, by simp, hms.next (by decide) hgrow hown'⟩, ((Below.refl B W).alloc hBd _).grown hgrow (by simp; omega) (fun k e => (hrow.lt k e).1)⟩
        case rest =>
          obtain ⟨⟨G, g, V, v, hs', HL, hG, hg, hms⟩, hb2⟩ := hcut
          have hbw := hbd.trans (hb2.mono (by omega))
          have e0 := (hb2.cell (p := ⟨b1, _, none⟩) (by show b1 < B; omega)).trans d0
          have e1 := (hb2.cell (p := ⟨b1, _, none⟩) (by show b1 < B; omega)).trans d1
          have e2 := (hb2.cell (p := ⟨b1, _, none⟩) (by show b1 < B; omega)).trans d2
          clear hlsd hbd hBd d0 d1 d2
          obtain ⟨bo, cap2, rfl, hbo1, hbo2, hcb, hfb⟩ := hms.at
          obtain ⟨A2, c2, rfl⟩ := hms.val
          have HLN := Lib.hid hms.len
          have hkb : V.length ≤ 65537 := by rw [HLN.out]; omega
          have HMS := Lib.hid hms
          have hcur := hms.cur
          obtain ⟨k, hk⟩ : ∃ k, V.length = k := ⟨_, rfl⟩
          rw [hk] at hcb hfb hkb ⊢
          have HK := Lib.hid hk
          obtain ⟨gl, hgl⟩ : ∃ k, g.length = k := ⟨_, rfl⟩
          rw [hgl] at hcb hcur
          have HGL := Lib.hid hgl
          have hgb : gl ≤ 65537 := by rw [← hgl]; omega
          clear hk hms hgl
          have hk1 : IntKind.i64.wrap (k : Int) = (k : Int) := by rw [IntKind.wrap_i64]; omega
          have hk2 : (k : Int) < (k : Int) + 1 := by omega
          have hBc : B ≤ wc.drew.heap.size := by rw [← hB]; exact hbw.size
          have hcd : wc.drew.cell? ⟨bo, k, none⟩ = some (.slice A2 gl c2) := hcb
          have hS0 : wc.drew.cell? ⟨b1, o1 + i * 3, none⟩ = some (.int .i64 xp) ∧ wc.drew.cell? ⟨b1, o1 + i * 3 + 1, none⟩ = some (.int .i64 xq) ∧ wc.drew.cell? ⟨b1, o1 + i * 3 + 2, none⟩ = some (.string xt) := ⟨e0, e1, e2⟩
          have HBS : Hid (∀ W, Below B wc.drew W → W.cell? ⟨b1, o1 + i * 3, none⟩ = some (.int .i64 xp) ∧ W.cell? ⟨b1, o1 + i * 3 + 1, none⟩ = some (.int .i64 xq) ∧ W.cell? ⟨b1, o1 + i * 3 + 2, none⟩ = some (.string xt)) := Lib.hid (fun W hb =>
            ⟨(hb.cell (p := ⟨b1, _, none⟩) (by show b1 < B; omega)).trans hS0.1, (hb.cell (p := ⟨b1, _, none⟩) (by show b1 < B; omega)).trans hS0.2.1, (hb.cell (p := ⟨b1, _, none⟩) (by show b1 < B; omega)).trans hS0.2.2⟩)
          have hcurd : wc.drew.ownsRow hs' 77 3 (.slice A2 gl c2) gl (g.flatMap Wd.cells) := hcur
          have HCUR := Lib.hid hcurd
          clear hcur hcurd
          have hi2 : (i : Int) < (n : Int) := by omega
          go_upto_region 9 with (fail)
          refine wp_region_held_drew (S := fun W' => W'.cell? ⟨b1, o1 + i * 3, none⟩ = some (.int .i64 xp) ∧ W'.cell? ⟨b1, o1 + i * 3 + 1, none⟩ = some (.int .i64 xq) ∧ W'.cell? ⟨b1, o1 + i * 3 + 2, none⟩ = some (.string xt)) (by kernel_rfl) hS0 (fun _ => ?_)
          refine wpAnyH_take (i := 0) (v := ?_) rfl (by kernel_rfl) (by kernel_rfl) (by kernel_rfl) (fun _ _ _ h => h) (Or.inl ⟨by rfl, fun W' hS => ?_⟩) hS0 ?_
          rotate_left
          · obtain ⟨s0, s1, s2⟩ := hS
            go_simp
            try with_reducible rfl
          refine wpAnyH_take (i := 1) (v := ?_) rfl (by kernel_rfl) (by kernel_rfl) (by kernel_rfl) (fun _ _ _ h => h) (Or.inl ⟨by rfl, fun W' hS => ?_⟩) hS0 ?_
          rotate_left
          · obtain ⟨s0, s1, s2⟩ := hS
            go_simp
            try with_reducible rfl
          refine wpAnyH_take (i := 2) (v := ?_) rfl (by kernel_rfl) (by kernel_rfl) (by kernel_rfl) (fun _ _ _ h => h) (Or.inl ⟨by rfl, fun W' hS => ?_⟩) hS0 ?_
          rotate_left
          · obtain ⟨s0, s1, s2⟩ := hS
            go_simp
            try with_reducible rfl
          refine wpAnyH_take (i := 3) (v := ?_) rfl (by kernel_rfl) (by kernel_rfl) (by kernel_rfl) (fun _ _ _ h => h) (Or.inl ⟨by rfl, fun W' hS => ?_⟩) hS0 ?_
          rotate_left
          · obtain ⟨s0, s1, s2⟩ := hS
            go_simp
            try with_reducible rfl
          refine wpAnyH_take (i := 4) (v := ?_) rfl (by kernel_rfl) (by kernel_rfl) (by kernel_rfl) (fun _ _ _ h => h) (Or.inl ⟨by rfl, fun W' hS => ?_⟩) hS0 ?_
          rotate_left
          · obtain ⟨s0, s1, s2⟩ := hS
            go_simp
            try with_reducible rfl
          refine wpAnyH_take (i := 6) (v := ?_) rfl (by kernel_rfl) (by kernel_rfl) (by kernel_rfl) (fun _ _ _ h => h) (Or.inl ⟨by rfl, fun W' hS => ?_⟩) hS0 ?_
          rotate_left
          · obtain ⟨s0, s1, s2⟩ := hS
            go_simp
            try with_reducible rfl
          refine wpAnyH_take (i := 7) (v := ?_) rfl (by kernel_rfl) (by kernel_rfl) (by kernel_rfl) (fun _ _ _ h => h) (Or.inl ⟨by rfl, fun W' hS => ?_⟩) hS0 ?_
          rotate_left
          · obtain ⟨s0, s1, s2⟩ := hS
            go_simp
            try with_reducible rfl
          refine wpAnyH_take (i := 8) (v := ?_) rfl (by kernel_rfl) (by kernel_rfl) (by kernel_rfl) (fun _ _ _ h => h) (Or.inl ⟨by rfl, fun W' hS => ?_⟩) hS0 ?_
          rotate_left
          · obtain ⟨s0, s1, s2⟩ := hS
            go_simp
            try with_reducible rfl
          refine wpAnyH_take (i := 9) (v := ?_) rfl (by kernel_rfl) (by kernel_rfl) (by kernel_rfl) (fun _ _ _ h => h) (Or.inl ⟨by rfl, fun W' hS => ?_⟩) hS0 ?_
          rotate_left
          · obtain ⟨s0, s1, s2⟩ := hS
            go_simp
            try with_reducible rfl
          refine wpAnyH_ready (rs := [5, 10]) (by kernel_rfl) (by simp) ?_
          refine AllReadyH.cons rfl (fun K9 hK9 => ?_) (AllReadyH.cons rfl (fun K9 hK9 => ?_) AllReadyH.nil)
          · skip
            go_simp
            refine hK9.out _ _ hS0 (fun _ => ?_)
            clear hK9 K9
            refine wpAnyH_ready (rs := [10]) (by kernel_rfl) (by simp) ?_
            refine AllReadyH.cons rfl (fun K9 hK9 => ?_) AllReadyH.nil
            go_simp
            refine hK9.out _ _ (HBS.out _ ((Below.refl B wc.drew).alloc hBc _)) (fun _ => ?_)
            clear hK9 K9
            refine wpAnyH_ready (rs := [11]) (by kernel_rfl) (by simp) ?_
            refine AllReadyH.cons rfl (fun K9 hK9 => ?_) AllReadyH.nil
            refine step_append_lies _ (by rfl) (.tmp 42) (.tmp 47) 73 (by rfl) hs' 77 i0 _ 3 32 Tryd.underlying73 hi0 hz0 hz1 hz2 rfl (by decide) (.slice A2 gl c2) gl (g.flatMap Wd.cells) (by rfl) ((HCUR.out).alloc _) ⟨wc.heap.size, 0, none⟩ 1 1 [.int .i64 xp, .int .i64 xq, .string xt] (by rfl) rfl (three_new wc.drew _ _ _ _) (by simp [Value.oneCell']) (by decide) (by unfold maxLen; omega) (by omega) (by have := HMS.out.high; simp; omega) _ rfl ?_
            intro g' cap' w2 hown' hgrow _ _
            have hgrow2 : (wc.drew.alloc (.cells #[.int .i64 xp, .int .i64 xq, .string xt] 77)).grownBy w2 (Value.slice A2 g.length c2).ownBlock := by rw [HGL.out]; exact hgrow
            obtain ⟨_, m2, m3⟩ := HMS.out.drew.mid (by decide) hgrow2
            have nw := HMS.out.drew.add (x := ⟨xp, xq, xt⟩) (v' := .slice (some ⟨g', 0, none⟩) (gl + 1) cap') (by decide) hgrow2 (by rw [HGL.out]; exact hown')
            rw [HK.out] at m2 m3 nw
            have hlow := HMS.out.low
            have hB2 : Below B wc.drew w2 := ((Below.refl B wc.drew).alloc hBc _).grown hgrow (by simp; omega) (fun k e => by have := (HCUR.out.lt k e).1; omega)
            have hB3 : Below B wc.drew (w2.setCell ⟨bo, k, none⟩ (.slice (some ⟨g', 0, none⟩) (gl + 1) cap')) := hB2.setCell (p := ⟨bo, k, none⟩) hbo1 _
            refine hK9.out _ _ (HBS.out _ hB2) (fun _ => ?_)
            clear hK9 K9
            refine wpAnyH_ready (rs := [12]) (by kernel_rfl) (by simp) ?_
            refine AllReadyH.cons rfl (fun K9 hK9 => ?_) AllReadyH.nil
            go_simp
            refine hK9.out _ _ (HBS.out _ hB2) (fun _ => ?_)
            clear hK9 K9
            refine wpAnyH_ready (rs := [13]) (by kernel_rfl) (by simp) ?_
            refine AllReadyH.cons rfl (fun K9 hK9 => ?_) AllReadyH.nil
            go_simp
            refine hK9.out _ _ (HBS.out _ hB3) (fun _ => ?_)
            clear hK9 K9
            refine wpAnyH_done (by kernel_rfl) ?_ _
            go_wp2
            go_roundw
            case rel => exact ⟨i + 1, by simp, hin, .inr ⟨G, g, ⟨xp, xq, xt⟩, V, _, hs', HL.out, by rw [HTK.out]; simp, by rw [List.length_take, ← HN.out]; omega, by have := HGL.out; rw [List.length_take, ← HN.out]; omega, nw⟩, hbw.drew.trans hB3⟩
            case measure => simp [RowKit.intOf] <;> omega
          · skip
            go_simp
            refine hK9.out _ _ (HBS.out _ ((Below.refl B wc.drew).alloc hBc _)) (fun _ => ?_)
            clear hK9 K9
            have hcd1 : (wc.drew.alloc (.cells #[.int .i64 xp, .int .i64 xq, .string xt] 77)).cell? ⟨bo, k, none⟩ = some (.slice A2 gl c2) := (World.cell?_alloc_lt _ _ _ hbo2).trans hcd
            refine wpAnyH_ready (rs := [5]) (by kernel_rfl) (by simp) ?_
            refine AllReadyH.cons rfl (fun K9 hK9 => ?_) AllReadyH.nil
            go_simp
            refine hK9.out _ _ (HBS.out _ ((Below.refl B wc.drew).alloc hBc _)) (fun _ => ?_)
            clear hK9 K9
            refine wpAnyH_ready (rs := [11]) (by kernel_rfl) (by simp) ?_
            refine AllReadyH.cons rfl (fun K9 hK9 => ?_) AllReadyH.nil
            refine step_append_lies _ (by rfl) (.tmp 42) (.tmp 47) 73 (by rfl) hs' 77 i0 _ 3 32 Tryd.underlying73 hi0 hz0 hz1 hz2 rfl (by decide) (.slice A2 gl c2) gl (g.flatMap Wd.cells) (by rfl) ((HCUR.out).alloc _) ⟨wc.heap.size, 0, none⟩ 1 1 [.int .i64 xp, .int .i64 xq, .string xt] (by rfl) rfl (three_new wc.drew _ _ _ _) (by simp [Value.oneCell']) (by decide) (by unfold maxLen; omega) (by omega) (by have := HMS.out.high; simp; omega) _ rfl ?_
            intro g' cap' w2 hown' hgrow _ _
            have hgrow2 : (wc.drew.alloc (.cells #[.int .i64 xp, .int .i64 xq, .string xt] 77)).grownBy w2 (Value.slice A2 g.length c2).ownBlock := by rw [HGL.out]; exact hgrow
            obtain ⟨_, m2, m3⟩ := HMS.out.drew.mid (by decide) hgrow2
            have nw := HMS.out.drew.add (x := ⟨xp, xq, xt⟩) (v' := .slice (some ⟨g', 0, none⟩) (gl + 1) cap') (by decide) hgrow2 (by rw [HGL.out]; exact hown')
            rw [HK.out] at m2 m3 nw
            have hlow := HMS.out.low
            have hB2 : Below B wc.drew w2 := ((Below.refl B wc.drew).alloc hBc _).grown hgrow (by simp; omega) (fun k e => by have := (HCUR.out.lt k e).1; omega)
            have hB3 : Below B wc.drew (w2.setCell ⟨bo, k, none⟩ (.slice (some ⟨g', 0, none⟩) (gl + 1) cap')) := hB2.setCell (p := ⟨bo, k, none⟩) hbo1 _
            refine hK9.out _ _ (HBS.out _ hB2) (fun _ => ?_)
            clear hK9 K9
            refine wpAnyH_ready (rs := [12]) (by kernel_rfl) (by simp) ?_
            refine AllReadyH.cons rfl (fun K9 hK9 => ?_) AllReadyH.nil
            go_simp
            refine hK9.out _ _ (HBS.out _ hB2) (fun _ => ?_)
            clear hK9 K9
            refine wpAnyH_ready (rs := [13]) (by kernel_rfl) (by simp) ?_
            refine AllReadyH.cons rfl (fun K9 hK9 => ?_) AllReadyH.nil
            go_simp
            refine hK9.out _ _ (HBS.out _ hB3) (fun _ => ?_)
            clear hK9 K9
            refine wpAnyH_done (by kernel_rfl) ?_ _
            go_wp2
            go_roundw
            case rel => exact ⟨i + 1, by simp, hin, .inr ⟨G, g, ⟨xp, xq, xt⟩, V, _, hs', HL.out, by rw [HTK.out]; simp, by rw [List.length_take, ← HN.out]; omega, by have := HGL.out; rw [List.length_take, ← HN.out]; omega, nw⟩, hbw.drew.trans hB3⟩
            case measure => simp [RowKit.intOf] <;> omega
    · obtain rfl : i = n := by omega
      rw [HN.out, List.take_length] at hls
      obtain ⟨A2, c2, rfl, h2⟩ := lrow_own hls
      go_wp2
      go_ret
      exact ⟨⟨A2, c2, rfl, h2⟩, hb1.trans (hbr.mono (by rw [← hB]; exact hb1.size))⟩

end Go.Proofs.YtnejkfccdnadcaaDoor
