/- LexPlaces: what the walk shows. -/
import Derived.Test.YtjmokodifkjfgaaDoorLexPartsW
import Derived.Test.YtjmokodifkjfgaaDoorLexG
namespace Go.Proofs.YtjmokodifkjfgaaDoor
open Go.RowKit Go.Shelf Go.Lib

theorem ws_two {c : UInt8} (h : ws c = true) : ((c.toNat : Int) != 32) = false ∨ (((c.toNat : Int) != 32) = true ∧ ((c.toNat : Int) != 9) = false) := by
  simp [ws] at h
  rcases h with rfl | rfl
  · left; rfl
  · right; exact ⟨rfl, rfl⟩

theorem ext_byte {s xt : ByteArray} {p P2 k j : Nat} (h : s.extract p P2 = xt) (hP : P2 = p + k) (hj : j < k) (hj' : j < xt.size) : s.data.toList[p + j]? = some (xt[j]'hj') := by
  subst h
  have h1 : (s.extract p P2).data.toList[j]? = some ((s.extract p P2)[j]'hj') := by
    rw [List.getElem?_eq_getElem (by rw [← Lib.size_eq]; exact hj')]; rfl
  rw [← h1, Lib.extract_data, hP, Nat.add_sub_cancel_left, List.getElem?_take_of_lt hj, List.getElem?_drop]

theorem wordB_no {c : UInt8} (h : wordB c) : ((c.toNat : Int) == 32) = false ∧ ((c.toNat : Int) == 9) = false ∧ ((c.toNat : Int) == 10) = false ∧ ((c.toNat : Int) == 35) = false := by
  obtain ⟨h1, h2, h3⟩ := h
  have key : ∀ v : UInt8, c ≠ v → ((c.toNat : Int) == (v.toNat : Int)) = false := by
    intro v hv
    rw [beq_eq_false_iff_ne]
    intro he
    exact hv (UInt8.toNat_inj.1 (by omega))
  exact ⟨key 32 (by rintro rfl; revert h1; decide), key 9 (by rintro rfl; revert h1; decide), key 10 h2, key 35 h3⟩

set_option maxHeartbeats 4000000 in
set_option maxRecDepth 100000 in
theorem lexPlaces_true (s0 : ByteArray) (m : Int) (w : World) (hm : w.cell? ⟨1, 0, none⟩ = some (.int .i64 m)) :
    Calls Tryd.prog 3 #[.string s0] w fun e w' => e = .returned (.bool true) ∧ Below w.heap.size w w' := by
  have hlt : 1 < w.heap.size := cell_lt hm
  go_enter Tryd.func3, Tryd.ntmps3
  go_upto_region 2 with (go_at_call 9; refine (awake_yes m w hm).mono ?_; rintro e w1 ⟨rfl, hb1⟩)
  go_upto_region 3 with (go_at_call 10; refine (short_any s0 160 (by decide) _).mono ?_; rintro e w' ⟨⟨s, rfl, hs⟩, rfl⟩)
  have hm1 := (hb1.cell (p := ⟨1, 0, none⟩) hlt).trans hm
  go_upto_region 4 with (go_at_call 11; refine (lexWords_any s (by omega) m _ hm1).mono ?_; rintro e w2 ⟨v, rfl, hrow, hb2⟩; obtain ⟨A1, c1, rfl, hcap1, _, hr1⟩ := wrow_own hrow)
  have hbel : Below w.heap.size w w2 := hb1.trans (hb2.mono hb1.size)
  have hpl := text_placed s
  have hlen := textW_len s
  have hbd := text_bd s
  obtain ⟨L, hL⟩ : ∃ L, textW s = L := ⟨_, rfl⟩
  rw [hL] at hr1 hcap1 hpl hlen hbd ⊢
  obtain ⟨n, hn⟩ : ∃ n, n = L.length := ⟨_, rfl⟩
  rw [← hn] at hcap1 hlen ⊢
  have HN := Lib.hid hn
  have HR := Lib.hid hr1
  have HP := Lib.hid hpl
  have HBD := Lib.hid hbd
  clear hrow hr1 hL hpl hbd hb1 hb2 hm1 hm hn
  go_wp2
  go_loopw [5, 6, 7] (fun v5 v6 v7 wr => ∃ (i e line : Nat) (rest : List Wd), v5 = .int .i64 e ∧ v6 = .int .i64 line ∧ v7 = .int .i64 i ∧ i ≤ n ∧ e ≤ s.size ∧ line ≤ s.size + 1 ∧ Hid (L.drop i = rest) ∧ Hid (Placed s.data.toList (i == 0) e line rest) ∧
      Hid (∀ h : 0 < i ∧ i ≤ L.length, (L[i - 1]'(by omega)).q = (line : Int)) ∧ Below w2.heap.size w2 wr) (fun _ _ v7 _ => n - (RowKit.intOf v7).toNat)
  case atStart => exact ⟨0, 0, 1, L, rfl, rfl, rfl, Nat.zero_le _, Nat.zero_le _, by omega, Lib.hid rfl, HP, Lib.hid (fun h => absurd h.1 (by omega)), Below.refl _ _⟩
  case round =>
    obtain ⟨i, e, line, rest, rfl, rfl, rfl, hi, he, hline, hrest, hplc, hprev, hbr⟩ := hrel
    by_cases hin : i < n
    · have hil : i < L.length := by rw [← HN.out]; exact hin
      obtain ⟨b1, o1, rfl, hlt1, hc1⟩ := HR.out (by omega)
      obtain ⟨d0, d1, d2⟩ := hc1 i hil
      have hr2 : rest = L[i] :: L.drop (i + 1) := by rw [← hrest.out, List.drop_eq_getElem_cons hil]
      have hplc2 := hplc.out
      rw [hr2] at hplc2
      obtain ⟨p, k, q, hx, hep, hk0, hkl, hnl, hgood, hgap, hnext⟩ := hplc2
      have hxp : L[i].p = (p : Int) := by rw [hx]
      have hxq : L[i].q = (q : Int) := by rw [hx]
      have hxt : L[i].t = ⟨((s.data.toList.drop p).take k).toArray⟩ := by rw [hx]
      rw [hxp] at d0
      rw [hxq] at d1
      rw [hxt] at d2
      obtain ⟨xt, hxte⟩ : ∃ xt : ByteArray, s.extract p (p + k) = xt := ⟨_, rfl⟩
      have hxk : xt.size = k := by rw [← hxte]; simp; rw [Lib.size_eq]; omega
      have hxb : (⟨((s.data.toList.drop p).take k).toArray⟩ : ByteArray) = xt := by
        rw [← hxte]
        apply ByteArray.ext
        apply Array.toList_inj.1
        rw [Lib.extract_data, Nat.add_sub_cancel_left]
      rw [hxb] at d2
      replace d0 := (hbr.cell (p := ⟨b1, _, none⟩) hlt1).trans d0
      replace d1 := (hbr.cell (p := ⟨b1, _, none⟩) hlt1).trans d1
      replace d2 := (hbr.cell (p := ⟨b1, _, none⟩) hlt1).trans d2
      have hps : p + k ≤ s.size := by rw [Lib.size_eq]; exact hkl
      have hnle : nl s.data.toList e ≤ nl s.data.toList p := (List.take_prefix_take_left (l := s.data.toList) hep).sublist.count_le (10 : UInt8)
      have hnlp : nl s.data.toList p ≤ p := by unfold nl; exact Nat.le_trans (List.count_le_length) (by rw [List.length_take]; omega)
      have HG := Lib.hid hgood
      have HQ := Lib.hid hxq
      have HQB : Hid (q ≤ s.size + 1) := Lib.hid (by have := (HBD.out L[i] (List.getElem_mem hil)).2.2; rw [hxq] at this; omega)
      have HGap := Lib.hid hgap
      have HNext := Lib.hid hnext
      have HNL := Lib.hid hnl
      have hc1' := hc1
      clear hgood hgap hnext hx hxp hxq hxt hxb hr2 hc1
      go_upto_region 10 with (fail)
      have hnew := heap_alloc_new wr (.cells #[.int .i64 (p : Int), .int .i64 (q : Int), .string xt] 27)
      have hbw := (Below.refl wr.heap.size wr).alloc (Nat.le_refl _) (.cells #[.int .i64 (p : Int), .int .i64 (q : Int), .string xt] 27)
      have hWb := hbr.trans (hbw.mono hbr.size)
      generalize wr.alloc (.cells #[.int .i64 (p : Int), .int .i64 (q : Int), .string xt] 27) = W1 at *
      have z0 : W1.cell? ⟨wr.heap.size, 0, none⟩ = some (.int .i64 (p : Int)) := by simp [World.cell?, hnew]
      have z1 : W1.cell? ⟨wr.heap.size, 1, none⟩ = some (.int .i64 (q : Int)) := by simp [World.cell?, hnew]
      have z2 : W1.cell? ⟨wr.heap.size, 2, none⟩ = some (.string xt) := by simp [World.cell?, hnew]
      clear d0 d1 d2 hnew
      have q1 : decide (p < e) = false := by simp; omega
      have q2 : xt.toList.isEmpty = false := by
        cases h : xt.toList.isEmpty with
        | false => rfl
        | true =>
          exfalso
          rw [List.isEmpty_iff] at h
          have h2 : xt.data.toList.length = 0 := by rw [← Go.ByteArray.toList_eq, h]; rfl
          rw [← Lib.size_eq] at h2
          omega
      obtain ⟨P2, hP2⟩ : ∃ P2, P2 = p + k := ⟨_, rfl⟩
      have q4 : IntKind.i64.wrap ((p : Int) + (k : Int)) = (P2 : Int) := by rw [IntKind.wrap_i64]; omega
      rw [← hP2] at hxte hps
      have q3 : decide (s.size < P2) = false := by simp; omega
      have HP2 := Lib.hid hP2
      have HPS : Hid (p ≤ s.size ∧ P2 ≤ s.size) := Lib.hid (by omega)
      have hpP : p ≤ P2 := by omega
      clear hP2
      go_quiet (fail)
      go_wp2
      have hWd := below_drewN hWb nq
      replace z0 : (W1.drewN nq).cell? ⟨wr.heap.size, 0, none⟩ = some (.int .i64 (p : Int)) := z0
      replace z1 : (W1.drewN nq).cell? ⟨wr.heap.size, 1, none⟩ = some (.int .i64 (q : Int)) := z1
      replace z2 : (W1.drewN nq).cell? ⟨wr.heap.size, 2, none⟩ = some (.string xt) := z2
      generalize W1.drewN nq = W3 at *
      clear q1 q2 q3 q4 hbw hWb
      go_loop [9] (fun v9 => ∃ j : Nat, v9 = .int .i64 j ∧ j ≤ k) (fun v9 => k - (RowKit.intOf v9).toNat)
      case atStart => exact ⟨0, rfl, Nat.zero_le _⟩
      case round =>
        obtain ⟨j, rfl, hj⟩ := hrel
        by_cases hjk : j < k
        · have hj' : j < xt.size := by omega
          have hb := wordB_no (HG.out (p + j) (xt[j]'hj') (by omega) (by omega) (ext_byte hxte HP2.out hjk hj'))
          obtain ⟨t1, t2, t3, t4⟩ := hb
          have hk160 : k ≤ 160 := by have h1 := HP2.out; have h2 := HPS.out; omega
          go_wp2
          go_round
          case rel => exact ⟨j + 1, by simp, hjk⟩
          case measure => simp [RowKit.intOf]; omega
        · obtain rfl : j = k := by omega
          go_wp2
          go_loop [6, 10] (fun v6 v10 => ∃ a y : Nat, v6 = .int .i64 a ∧ v10 = .int .i64 y ∧ e ≤ y ∧ y ≤ p ∧ a ≤ s.size + 1 + y ∧ Hid (a + nl s.data.toList e = line + nl s.data.toList y)) (fun _ v10 => p - (RowKit.intOf v10).toNat)
          case atStart => exact ⟨line, e, rfl, rfl, Nat.le_refl _, by omega, by omega, Lib.hid rfl⟩
          case round =>
            obtain ⟨a, y, rfl, rfl, hy1, hy2, ha, hcnt⟩ := hrel
            by_cases hyp : y < p
            · have hys : y < s.size := by have := HPS.out; omega
              have hget : s.data.toList[y]? = some s[y] := by rw [List.getElem?_eq_getElem (by rw [← Lib.size_eq]; exact hys)]; rfl
              have hstep := Lib.hid (nl_step hget)
              clear hget
              go_wp2
              · have hx : ((s[y].toNat : Int) == 10) = true := by assumption
                go_round
                case rel => exact ⟨a + 1, y + 1, by simp, by simp, by omega, hyp, by omega, Lib.hid (by rw [hstep.out, if_pos (byte_ten.1 hx)]; have := hcnt.out; omega)⟩
                case measure => simp [RowKit.intOf]; omega
              · have hx : ((s[y].toNat : Int) == 10) = false := by assumption
                go_round
                case rel => exact ⟨a, y + 1, rfl, by simp, by omega, hyp, by omega, Lib.hid (by rw [hstep.out, if_neg (fun h => by rw [byte_ten.2 h] at hx; cases hx)]; have := hcnt.out; omega)⟩
                case measure => simp [RowKit.intOf]; omega
            · obtain rfl : y = p := by omega
              have haq : a = q := by have := hcnt.out; have := HNL.out; omega
              subst haq
              clear hcnt
              go_upto_region 24 with (fail)
              by_cases hi0 : 0 < i
              · have hib : i - 1 < L.length := by omega
                obtain ⟨f0, f1, f2⟩ := hc1' (i - 1) hib
                rw [hprev.out ⟨hi0, by omega⟩] at f1
                replace f1 := (hWd.cell (p := ⟨b1, _, none⟩) hlt1).trans f1
                obtain ⟨i1, hi1⟩ : ∃ i1, i = i1 + 1 := ⟨i - 1, by omega⟩
                have hi1' : i - 1 = i1 := by omega
                rw [hi1'] at f1
                have hw1 : IntKind.i64.wrap ((i : Int) - 1) = (i1 : Int) := by rw [IntKind.wrap_i64]; omega
                have hi1n : i1 < n := by omega
                have hipos : decide (0 < i) = true := by simpa using hi0
                clear f0 f2 hib hi1 hi1'
                by_cases hql : line = a
                · have hif : (i == 0) = false := by simp; omega
                  obtain ⟨hey, hws⟩ := HGap.out hif hql.symm
                  have HWS := Lib.hid hws
                  have hyn : ((y : Int) == (e : Int)) = false := by simp; omega
                  have HQL := Lib.hid hql
                  rw [hql] at f1
                  clear hws hif hql
                  go_quiet (fail)
                  go_wp2
                  go_loopw [11] (fun v11 wr => ∃ z : Nat, v11 = .int .i64 z ∧ e ≤ z ∧ z ≤ y ∧ wr = W3.drewN nq) (fun v11 _ => y - (RowKit.intOf v11).toNat)
                  case atStart => exact ⟨e, rfl, Nat.le_refl _, by omega, rfl⟩
                  case round =>
                    obtain ⟨z, rfl, hz1, hz2, rfl⟩ := hrel
                    by_cases hzy : z < y
                    · have hzs : z < s.size := by have := HPS.out; omega
                      have hget : s.data.toList[z]? = some s[z] := by rw [List.getElem?_eq_getElem (by rw [← Lib.size_eq]; exact hzs)]; rfl
                      have hw := HWS.out z s[z] hz1 hzy hget
                      have hw2 : ((s[z].toNat : Int) != 32) = false ∨ (((s[z].toNat : Int) != 32) = true ∧ ((s[z].toNat : Int) != 9) = false) := ws_two hw
                      clear hget hw
                      rcases hw2 with hw2 | ⟨hw2, hw3⟩
                      · go_wp2
                        go_roundw
                        case rel => exact ⟨z + 1, by simp, by omega, hzy, trivial⟩
                        case measure => simp [RowKit.intOf]; omega
                      · go_wp2
                        go_roundw
                        case rel => exact ⟨z + 1, by simp, by omega, hzy, trivial⟩
                        case measure => simp [RowKit.intOf]; omega
                    · obtain rfl : z = y := by omega
                      go_wp2
                      go_roundw
                      case rel => exact ⟨i + 1, P2, a, L.drop (i + 1), by rw [w64 _ (by have h1 := HP2.out; have h2 := HPS.out; omega), HP2.out]; simp, rfl, by simp, hin, HPS.out.2, HQB.out, Lib.hid rfl, Lib.hid (by rw [HP2.out]; exact HNext.out), Lib.hid (fun h => by simpa using HQ.out), below_drewN hWd _⟩
                      case measure => simp [RowKit.intOf]; omega
                · have hqn : ((line : Int) == (a : Int)) = false := by simp; omega
                  clear hql
                  go_quiet (fail)
                  go_wp2
                  go_roundw
                  case rel => exact ⟨i + 1, P2, a, L.drop (i + 1), by rw [w64 _ (by have h1 := HP2.out; have h2 := HPS.out; omega), HP2.out]; simp, rfl, by simp, hin, HPS.out.2, HQB.out, Lib.hid rfl, Lib.hid (by rw [HP2.out]; exact HNext.out), Lib.hid (fun h => by simpa using HQ.out), below_drewN hWd _⟩
                  case measure => simp [RowKit.intOf]; omega
              · have hipos : decide (0 < i) = false := by simpa using hi0
                go_quiet (fail)
                go_wp2
                go_roundw
                case rel => exact ⟨i + 1, P2, a, L.drop (i + 1), by rw [w64 _ (by have h1 := HP2.out; have h2 := HPS.out; omega), HP2.out]; simp, rfl, by simp, hin, HPS.out.2, HQB.out, Lib.hid rfl, Lib.hid (by rw [HP2.out]; exact HNext.out), Lib.hid (fun h => by simpa using HQ.out), below_drewN hWd _⟩
                case measure => simp [RowKit.intOf]; omega
    · obtain rfl : i = n := by omega
      go_wp2
      go_ret
      exact ⟨rfl, hbel.trans (hbr.mono hbel.size)⟩

end Go.Proofs.YtjmokodifkjfgaaDoor
