/- The document's Script. (Printed by wip/gen_script.py.) -/
import Derived.Test.YtnejkfccdnadcaaDoorRunC
import Derived.Test.YtnejkfccdnadcaaDoorRunT
import Derived.Test.YtnejkfccdnadcaaDoorFactsB
import Derived.Test.YtnejkfccdnadcaaDoorRunL
namespace Go.Proofs.YtnejkfccdnadcaaDoor
open Go.RowKit Go.Shelf Go.Lib

/-- A request's line. -/
def lineT (x : Ak) : List UInt8 := ((((itoa x.a ++ [32]) ++ itoa x.t) ++ [32]) ++ itoa x.d) ++ [10]

/-- A script's text: none if a request is wrong, or ahead of the one before it. -/
def sT (acc : List UInt8) (last : Int) : List Ak → List UInt8
  | [] => acc
  | x :: r => if last ≤ x.a ∧ rightV x.a x.t x.d = true then sT (acc ++ lineT x) x.a r else []

theorem sT_eq : ∀ (L : List Ak) (acc : List UInt8) (last : Int), sT acc last L = if sortedV last L = true ∧ L.all (fun x => rightV x.a x.t x.d) = true then acc ++ L.flatMap lineT else [] := by
  intro L
  induction L with
  | nil => intro acc last; simp [sT, sortedV]
  | cons x r ih =>
    intro acc last
    unfold sT
    rw [ih]
    by_cases h1 : last ≤ x.a
    · by_cases h2 : rightV x.a x.t x.d = true
      · simp [sortedV, h1, h2, List.append_assoc]
      · simp [sortedV, h1, h2]
    · simp [sortedV, h1]

theorem sT_step {L : List Ak} {i : Nat} (h : i < L.length) (acc : List UInt8) (last : Int) : sT acc last (L.drop i) = if last ≤ L[i].a ∧ rightV L[i].a L[i].t L[i].d = true then sT (acc ++ lineT L[i]) L[i].a (L.drop (i + 1)) else [] := by
  rw [List.drop_eq_getElem_cons h]
  rfl

theorem rightV_iff (a t d : Int) : rightV a t d = true ↔ (0 ≤ a ∧ a ≤ 2147483648) ∧ (1 ≤ t ∧ t ≤ 99) ∧ 1 ≤ d ∧ d ≤ 1073741824 := by
  simp [rightV]

set_option maxHeartbeats 8000000 in
set_option maxRecDepth 100000 in
theorem refScript_any (A : Option Addr) (cap : Nat) (L : List Ak) (w : World) (hn : L.length ≤ 1000) (hB : ∀ x ∈ L, (-9223372036854775808 ≤ x.a ∧ x.a ≤ 9223372036854775807) ∧ (-9223372036854775808 ≤ x.t ∧ x.t ≤ 9223372036854775807) ∧ (-9223372036854775808 ≤ x.d ∧ x.d ≤ 9223372036854775807)) (hr : ARow w w.heap.size A L) :
    Calls Tryd.prog 12 #[.slice A L.length cap] w fun e w' => e = .returned (.string ⟨(sT [] 0 L).toArray⟩) ∧ Below w.heap.size w w' := by
  obtain ⟨n, hn'⟩ : ∃ n, n = L.length := ⟨_, rfl⟩
  rw [← hn'] at hn ⊢
  have HN := Lib.hid hn'
  have HBD := Lib.hid hB
  clear hn' hB
  obtain ⟨R, hR⟩ : ∃ R, R = sT [] 0 L := ⟨_, rfl⟩
  rw [← hR]
  have HR : Hid (R = sT (⟨#[]⟩ : ByteArray).data.toList 0 (L.drop 0)) := Lib.hid hR
  clear hR
  go_enter Tryd.func12, Tryd.ntmps12
  go_wp2
  go_loopw [3, 4] (fun v3 v4 wr => ∃ (i : Nat) (S : ByteArray) (last : Int), v3 = .string S ∧ v4 = .int .i64 i ∧ i ≤ n ∧ S.size ≤ 70 * i ∧ Hid (R = sT S.data.toList last (L.drop i)) ∧ Hid (i = 0 → last = 0) ∧ Hid (∀ j (h : j < L.length), i = j + 1 → last = L[j].a) ∧ Below w.heap.size w wr) (fun _ v4 _ => n - (RowKit.intOf v4).toNat)
  case atStart => exact ⟨0, ⟨#[]⟩, 0, rfl, rfl, Nat.zero_le _, Nat.zero_le (70 * 0), HR, Lib.hid (fun _ => rfl), Lib.hid (fun j _ e => by omega), Below.refl _ _⟩
  case round =>
    obtain ⟨i, S, last, rfl, rfl, hi, hSs, hS, hL0, hL1, hbr⟩ := hrel
    by_cases hin : i < n
    · have hil : i < L.length := by rw [← HN.out]; exact hin
      obtain ⟨b1, o1, rfl, hlt1, hc1⟩ := hr (by omega)
      obtain ⟨x0, x1, x2⟩ := hc1 i hil
      have a0 := (hbr.cell (p := ⟨b1, _, none⟩) hlt1).trans x0
      have a1 := (hbr.cell (p := ⟨b1, _, none⟩) hlt1).trans x1
      have a2 := (hbr.cell (p := ⟨b1, _, none⟩) hlt1).trans x2
      have HST := Lib.hid (hS.out.trans (sT_step hil S.data.toList last))
      have HB3 := HBD.out L[i] (List.getElem_mem hil)
      have HNX : Hid (∀ j (h : j < L.length), i + 1 = j + 1 → L[i].a = L[j].a) := Lib.hid (fun j _ e => by cases (show i = j from by omega); rfl)
      have HC1 := Lib.hid hc1
      clear x0 x1 x2 hc1
      generalize hx : L[i] = x at *
      obtain ⟨xa, xt, xd⟩ := x
      simp only at a0 a1 a2 HST HB3 HNX
      obtain ⟨hba, hbt, hbd⟩ := HB3
      clear hS hx
      have HBAD : Hid (xa < 0 ∨ xa > 2147483648 ∨ xt < 1 ∨ xt > 99 ∨ xd < 1 ∨ xd > 1073741824 → R = []) := Lib.hid (fun h => by
        rw [HST.out, if_neg]
        rw [rightV_iff]
        omega)
      have HOK : Hid (¬ xa < 0 → ¬ xa > 2147483648 → ¬ xt < 1 → ¬ xt > 99 → ¬ xd < 1 → ¬ xd > 1073741824 → R = if last ≤ xa then sT (S.data.toList ++ lineT ⟨xa, xt, xd⟩) xa (L.drop (i + 1)) else []) := Lib.hid (fun g1 g2 g3 g4 g5 g6 => by
        have hrv : rightV xa xt xd = true := by rw [rightV_iff]; omega
        rw [HST.out]
        by_cases hl : last ≤ xa
        · rw [if_pos ⟨hl, hrv⟩, if_pos hl]
        · rw [if_neg (fun h => hl h.1), if_neg hl])
      clear HST
      obtain ⟨Ca, hCa⟩ : ∃ V, V = itoa xa := ⟨_, rfl⟩
      go_upto_region 6 with (fail)
      have hbx := hbr.alloc hbr.size (.cells #[.int .i64 xa, .int .i64 xt, .int .i64 xd] 46)
      have hlx := heap_alloc_new wr (.cells #[.int .i64 xa, .int .i64 xt, .int .i64 xd] 46)
      have HCX : Hid (∀ j (h : j < L.length), (wr.alloc (.cells #[.int .i64 xa, .int .i64 xt, .int .i64 xd] 46)).cell? ⟨b1, o1 + j * 3, none⟩ = some (.int .i64 L[j].a)) := Lib.hid (fun j h => (World.cell?_alloc_lt _ _ _ (Nat.lt_of_lt_of_le hlt1 hbr.size)).trans ((hbr.cell (p := ⟨b1, _, none⟩) hlt1).trans (HC1.out j h).1))
      generalize wr.alloc (.cells #[.int .i64 xa, .int .i64 xt, .int .i64 xd] 46) = W3 at hbx hlx HCX ⊢
      obtain ⟨bb, hbb⟩ : ∃ b, wr.heap.size = b := ⟨_, rfl⟩
      have hbbw : w.heap.size ≤ bb := by rw [← hbb]; exact hbr.size
      rw [hbb] at hlx ⊢
      clear a0 a1 a2 hbr HC1 hbb HBD
      have q0 := cell_of_row W3 bb 0 _ _ _ hlx
      have q1 := cell_of_row W3 bb 1 _ _ _ hlx
      have q2 := cell_of_row W3 bb 2 _ _ _ hlx
      simp at q0 q1 q2
      have HSS := Lib.hid hSs
      clear hSs
      go_cut [58] from 76 (fun v58 wx => (∃ m, wx = W3.drewN m) ∧ ∃ bq, v58 = .bool bq ∧ Hid (bq = true → R = []) ∧ Hid (bq = false → R = sT (S.data.toList ++ lineT ⟨xa, xt, xd⟩) xa (L.drop (i + 1))))
      case first =>
        by_cases h0 : xa < 0
        · have HQ := Lib.hid (HBAD.out (.inl h0))
          clear HBAD HOK
          go_quiet (fail)
          go_wp2
          go_meet
          exact ⟨⟨_, rfl⟩, true, rfl, Lib.hid (fun _ => HQ.out), Lib.hid (fun e => by cases e)⟩
        have g0 := Lib.hid h0
        have d0 : decide (xa < 0) = false := decide_eq_false h0
        clear h0
        by_cases h1 : xa > 2147483648
        · have HQ := Lib.hid (HBAD.out (.inr (.inl h1)))
          clear HBAD HOK g0
          go_quiet (fail)
          go_wp2
          go_meet
          exact ⟨⟨_, rfl⟩, true, rfl, Lib.hid (fun _ => HQ.out), Lib.hid (fun e => by cases e)⟩
        have g1 := Lib.hid h1
        have d1 : decide (2147483648 < xa) = false := decide_eq_false h1
        clear h1
        by_cases h2 : xt < 1
        · have HQ := Lib.hid (HBAD.out (.inr (.inr (.inl h2))))
          clear HBAD HOK g0 g1
          go_quiet (fail)
          go_wp2
          go_meet
          exact ⟨⟨_, rfl⟩, true, rfl, Lib.hid (fun _ => HQ.out), Lib.hid (fun e => by cases e)⟩
        have g2 := Lib.hid h2
        have d2 : decide (xt < 1) = false := decide_eq_false h2
        clear h2
        by_cases h3 : xt > 99
        · have HQ := Lib.hid (HBAD.out (.inr (.inr (.inr (.inl h3)))))
          clear HBAD HOK g0 g1 g2
          go_quiet (fail)
          go_wp2
          go_meet
          exact ⟨⟨_, rfl⟩, true, rfl, Lib.hid (fun _ => HQ.out), Lib.hid (fun e => by cases e)⟩
        have g3 := Lib.hid h3
        have d3 : decide (99 < xt) = false := decide_eq_false h3
        clear h3
        by_cases h4 : xd < 1
        · have HQ := Lib.hid (HBAD.out (.inr (.inr (.inr (.inr (.inl h4))))))
          clear HBAD HOK g0 g1 g2 g3
          go_quiet (fail)
          go_wp2
          go_meet
          exact ⟨⟨_, rfl⟩, true, rfl, Lib.hid (fun _ => HQ.out), Lib.hid (fun e => by cases e)⟩
        have g4 := Lib.hid h4
        have d4 : decide (xd < 1) = false := decide_eq_false h4
        clear h4
        by_cases h5 : xd > 1073741824
        · have HQ := Lib.hid (HBAD.out (.inr (.inr (.inr (.inr (.inr (h5)))))))
          clear HBAD HOK g0 g1 g2 g3 g4
          go_quiet (fail)
          go_wp2
          go_meet
          exact ⟨⟨_, rfl⟩, true, rfl, Lib.hid (fun _ => HQ.out), Lib.hid (fun e => by cases e)⟩
        have g5 := Lib.hid h5
        have d5 : decide (1073741824 < xd) = false := decide_eq_false h5
        clear h5
        have HR3 := Lib.hid (HOK.out g0.out g1.out g2.out g3.out g4.out g5.out)
        by_cases hi0 : i = 0
        · have HQ : Hid (R = sT (S.data.toList ++ lineT ⟨xa, xt, xd⟩) xa (L.drop (i + 1))) := Lib.hid (by rw [HR3.out, if_pos]; rw [hL0.out hi0]; have := g0.out; omega)
          subst hi0
          clear HBAD HOK HR3 g0 g1 g2 g3 g4 g5
          go_quiet (fail)
          go_wp2
          go_meet
          exact ⟨⟨_, rfl⟩, false, rfl, Lib.hid (fun e => by cases e), Lib.hid (fun _ => HQ.out)⟩
        · obtain ⟨j, rfl⟩ : ∃ j, i = j + 1 := ⟨i - 1, by omega⟩
          have hjl : j < L.length := by omega
          have ya := HCX.out j hjl
          have HLJ := Lib.hid (hL1.out j hjl rfl)
          generalize L[j].a = yv at *
          have hkk : IntKind.i64.wrap (j : Int) = (j : Int) := by rw [IntKind.wrap_i64]; omega
          have hkk2 : (j : Int) < (j : Int) + 1 := by omega
          have hkk3 : (0 : Int) < (j : Int) + 1 := by omega
          clear hi0
          by_cases he : xa < yv
          · have HQ : Hid (R = []) := Lib.hid (by rw [HR3.out, HLJ.out, if_neg (by omega)])
            clear HBAD HOK HR3 g0 g1 g2 g3 g4 g5
            go_quiet (fail)
            go_wp2
            go_meet
            exact ⟨⟨_, rfl⟩, true, rfl, Lib.hid (fun _ => HQ.out), Lib.hid (fun e => by cases e)⟩
          · have HQ : Hid (R = sT (S.data.toList ++ lineT ⟨xa, xt, xd⟩) xa (L.drop (j + 1 + 1))) := Lib.hid (by rw [HR3.out, HLJ.out, if_pos (by omega)])
            have dhe : decide (xa < yv) = false := decide_eq_false he
            clear he HBAD HOK HR3 g0 g1 g2 g3 g4 g5
            go_quiet (fail)
            go_wp2
            go_meet
            exact ⟨⟨_, rfl⟩, false, rfl, Lib.hid (fun e => by cases e), Lib.hid (fun _ => HQ.out)⟩
      case rest =>
        obtain ⟨⟨m, rfl⟩, bq, rfl, HQ1, HQ2⟩ := hcut
        have hlx' : (W3.drewN m).heap[bb]? = some (.cells #[.int .i64 xa, .int .i64 xt, .int .i64 xd] 46 (0, 0)) := hlx
        have hbx' : Below w.heap.size w (W3.drewN m) := below_drewN hbx m
        clear hlx hbx q0 q1 q2 HCX HBAD HOK
        generalize W3.drewN m = W4 at hlx' hbx' ⊢
        cases bq with
        | true =>
          have HQ := Lib.hid (HQ1.out rfl)
          go_wp2
          go_ret
          exact ⟨by rw [HQ.out]; rfl, hbx'⟩
        | false =>
          have HQ := Lib.hid (HQ2.out rfl)
          clear HQ1 HQ2
          go_upto_region 8 with (fail)
          have l0 := itoa_len xa hba.1 hba.2
          have c0 := fun W => refDigits_any xa hba.1 hba.2 W
          obtain ⟨D0, hD0⟩ : ∃ D : ByteArray, D = ⟨(itoa xa).toArray⟩ := ⟨_, rfl⟩
          rw [← hD0] at c0
          have s0 : D0.size ≤ 21 := by rw [Lib.size_eq, hD0]; exact l0
          have C0 := Lib.hid c0
          have HD0 := Lib.hid hD0
          clear hD0 l0 c0
          have l1 := itoa_len xt hbt.1 hbt.2
          have c1 := fun W => refDigits_any xt hbt.1 hbt.2 W
          obtain ⟨D1, hD1⟩ : ∃ D : ByteArray, D = ⟨(itoa xt).toArray⟩ := ⟨_, rfl⟩
          rw [← hD1] at c1
          have s1 : D1.size ≤ 21 := by rw [Lib.size_eq, hD1]; exact l1
          have C1 := Lib.hid c1
          have HD1 := Lib.hid hD1
          clear hD1 l1 c1
          have l2 := itoa_len xd hbd.1 hbd.2
          have c2 := fun W => refDigits_any xd hbd.1 hbd.2 W
          obtain ⟨D2, hD2⟩ : ∃ D : ByteArray, D = ⟨(itoa xd).toArray⟩ := ⟨_, rfl⟩
          rw [← hD2] at c2
          have s2 : D2.size ≤ 21 := by rw [Lib.size_eq, hD2]; exact l2
          have C2 := Lib.hid c2
          have HD2 := Lib.hid hD2
          clear hD2 l2 c2
          have hSs := HSS.out
          have HLS : Hid (((((((S ++ D0) ++ ⟨#[32]⟩) ++ D1) ++ ⟨#[32]⟩) ++ D2) ++ ⟨#[10]⟩).data.toList = S.data.toList ++ lineT ⟨xa, xt, xd⟩) := Lib.hid (by rw [HD0.out, HD1.out, HD2.out]; simp [lineT])
          have hSF : ((((((S ++ D0) ++ ⟨#[32]⟩) ++ D1) ++ ⟨#[32]⟩) ++ D2) ++ ⟨#[10]⟩).size ≤ 70 * (i + 1) := by simp [ByteArray.size_append]; show S.size + D0.size + 1 + D1.size + 1 + D2.size + 1 ≤ _; omega
          have HSF := Lib.hid hSF
          clear hSF HD0 HD1 HD2
          refine wp_region_facts2 (by kernel_rfl) (by kernel_rfl) (fun i v W => match i with
            | 0 => v = .string S
            | 1 => v = .pointer (some ⟨bb, 0, none⟩)
            | 2 => v = .int .i64 xa
            | 3 => v = .string D0
            | 4 => v = .string (S ++ D0)
            | 5 => v = .string ((S ++ D0) ++ ⟨#[32]⟩)
            | 6 => v = .pointer (some ⟨bb, 1, none⟩)
            | 7 => v = .int .i64 xt
            | 8 => v = .string D1
            | 9 => v = .string (((S ++ D0) ++ ⟨#[32]⟩) ++ D1)
            | 10 => v = .string ((((S ++ D0) ++ ⟨#[32]⟩) ++ D1) ++ ⟨#[32]⟩)
            | 11 => v = .pointer (some ⟨bb, 2, none⟩)
            | 12 => v = .int .i64 xd
            | 13 => v = .string D2
            | 14 => v = .string (((((S ++ D0) ++ ⟨#[32]⟩) ++ D1) ++ ⟨#[32]⟩) ++ D2)
            | 15 => v = .string ((((((S ++ D0) ++ ⟨#[32]⟩) ++ D1) ++ ⟨#[32]⟩) ++ D2) ++ ⟨#[10]⟩)
            | _ => v = .string ((((((S ++ D0) ++ ⟨#[32]⟩) ++ D1) ++ ⟨#[32]⟩) ++ D2) ++ ⟨#[10]⟩)) (fun w w' => Below w.heap.size w w') ?_ (fun W => Below w.heap.size w W ∧ W.heap[bb]? = some (.cells #[.int .i64 xa, .int .i64 xt, .int .i64 xd] 46 (0, 0))) ⟨hbx'.drew, hlx'⟩ ?_ ?_
          · intro i v W W' h hb
            revert h
            split <;> exact id
          · intro k o a W ho hsz hfr hdep hG
            have hk : k < 17 := (Array.getElem?_eq_some_iff.1 ho).1
            have hkn : k = 0 ∨ k = 1 ∨ k = 2 ∨ k = 3 ∨ k = 4 ∨ k = 5 ∨ k = 6 ∨ k = 7 ∨ k = 8 ∨ k = 9 ∨ k = 10 ∨ k = 11 ∨ k = 12 ∨ k = 13 ∨ k = 14 ∨ k = 15 ∨ k = 16 := by omega
            have hbbW := hG.1.size
            have hbl := lt_of_block hG.2
            rcases hkn with rfl | rfl | rfl | rfl | rfl | rfl | rfl | rfl | rfl | rfl | rfl | rfl | rfl | rfl | rfl | rfl | rfl
            · cases ho
              have g : a.tmps.getD 3 undef = .string S := by rw [Array.getD_eq_getD_getElem?, hfr 3 (reads_at (by kernel_rfl))]; rfl
              clear hfr hdep hsz
              generalize hK : (fun (a' : Act) (w' : World) => _) = K
              go_simp
              rw [← hK]
              exact ⟨_, rfl, rfl, Below.refl _ _, hG⟩
            · cases ho
              have g : a.tmps.getD 5 undef = .pointer (some ⟨bb, 0, none⟩) := by rw [Array.getD_eq_getD_getElem?, hfr 5 (reads_at (by kernel_rfl))]; rfl
              clear hfr hdep hsz
              generalize hK : (fun (a' : Act) (w' : World) => _) = K
              go_simp
              rw [← hK]
              exact ⟨_, rfl, rfl, Below.refl _ _, hG⟩
            · cases ho
              obtain ⟨_, q1, e1⟩ := hdep ⟨1, .data⟩ (by simp) rfl _ _ rfl rfl
              have g1 : a.tmps.getD 60 undef = .pointer (some ⟨bb, 0, none⟩) := by rw [Array.getD_eq_getD_getElem?, q1, e1]; rfl
              rw [e1] at q1
              clear e1
              have hc := cell_of_row W bb 0 _ _ _ hG.2
              clear hfr hdep hsz
              generalize hK : (fun (a' : Act) (w' : World) => _) = K
              go_simp
              rw [← hK]
              exact ⟨_, rfl, rfl, Below.refl _ _, hG⟩
            · cases ho
              obtain ⟨_, q2, e2⟩ := hdep ⟨2, .data⟩ (by simp) rfl _ _ rfl rfl
              have g2 : a.tmps.getD 61 undef = .int .i64 xa := by rw [Array.getD_eq_getD_getElem?, q2, e2]; rfl
              rw [e2] at q2
              clear e2
              clear hfr hdep hsz
              generalize hK : (fun (a' : Act) (w' : World) => _) = K
              go_simp
              refine (C0.out W).mono ?_
              rintro e W2 ⟨rfl, hb⟩
              show K _ _
              rw [← hK]
              exact ⟨_, rfl, rfl, hb, hG.1.trans (hb.mono hG.1.size), (hb.block bb (lt_of_block hG.2)).trans hG.2⟩
            · cases ho
              obtain ⟨_, q0, e0⟩ := hdep ⟨0, .data⟩ (by simp) rfl _ _ rfl rfl
              have g0 : a.tmps.getD 59 undef = .string S := by rw [Array.getD_eq_getD_getElem?, q0, e0]; rfl
              rw [e0] at q0
              clear e0
              obtain ⟨_, q3, e3⟩ := hdep ⟨3, .data⟩ (by simp) rfl _ _ rfl rfl
              have g3 : a.tmps.getD 62 undef = .string D0 := by rw [Array.getD_eq_getD_getElem?, q3, e3]; rfl
              rw [e3] at q3
              clear e3
              clear hfr hdep hsz
              generalize hK : (fun (a' : Act) (w' : World) => _) = K
              go_simp
              rw [if_neg (by omega)]
              go_simp
              rw [← hK]
              exact ⟨_, rfl, rfl, Below.refl _ _, hG⟩
            · cases ho
              obtain ⟨_, q4, e4⟩ := hdep ⟨4, .data⟩ (by simp) rfl _ _ rfl rfl
              have g4 : a.tmps.getD 63 undef = .string (S ++ D0) := by rw [Array.getD_eq_getD_getElem?, q4, e4]; rfl
              rw [e4] at q4
              clear e4
              clear hfr hdep hsz
              generalize hK : (fun (a' : Act) (w' : World) => _) = K
              go_simp
              rw [if_neg (by omega)]
              go_simp
              rw [← hK]
              exact ⟨_, rfl, rfl, Below.refl _ _, hG⟩
            · cases ho
              have g : a.tmps.getD 5 undef = .pointer (some ⟨bb, 0, none⟩) := by rw [Array.getD_eq_getD_getElem?, hfr 5 (reads_at (by kernel_rfl))]; rfl
              clear hfr hdep hsz
              generalize hK : (fun (a' : Act) (w' : World) => _) = K
              go_simp
              rw [← hK]
              exact ⟨_, rfl, rfl, Below.refl _ _, hG⟩
            · cases ho
              obtain ⟨_, q6, e6⟩ := hdep ⟨6, .data⟩ (by simp) rfl _ _ rfl rfl
              have g6 : a.tmps.getD 65 undef = .pointer (some ⟨bb, 1, none⟩) := by rw [Array.getD_eq_getD_getElem?, q6, e6]; rfl
              rw [e6] at q6
              clear e6
              have hc := cell_of_row W bb 1 _ _ _ hG.2
              clear hfr hdep hsz
              generalize hK : (fun (a' : Act) (w' : World) => _) = K
              go_simp
              rw [← hK]
              exact ⟨_, rfl, rfl, Below.refl _ _, hG⟩
            · cases ho
              obtain ⟨_, q7, e7⟩ := hdep ⟨7, .data⟩ (by simp) rfl _ _ rfl rfl
              have g7 : a.tmps.getD 66 undef = .int .i64 xt := by rw [Array.getD_eq_getD_getElem?, q7, e7]; rfl
              rw [e7] at q7
              clear e7
              clear hfr hdep hsz
              generalize hK : (fun (a' : Act) (w' : World) => _) = K
              go_simp
              refine (C1.out W).mono ?_
              rintro e W2 ⟨rfl, hb⟩
              show K _ _
              rw [← hK]
              exact ⟨_, rfl, rfl, hb, hG.1.trans (hb.mono hG.1.size), (hb.block bb (lt_of_block hG.2)).trans hG.2⟩
            · cases ho
              obtain ⟨_, q5, e5⟩ := hdep ⟨5, .data⟩ (by simp) rfl _ _ rfl rfl
              have g5 : a.tmps.getD 64 undef = .string ((S ++ D0) ++ ⟨#[32]⟩) := by rw [Array.getD_eq_getD_getElem?, q5, e5]; rfl
              rw [e5] at q5
              clear e5
              obtain ⟨_, q8, e8⟩ := hdep ⟨8, .data⟩ (by simp) rfl _ _ rfl rfl
              have g8 : a.tmps.getD 67 undef = .string D1 := by rw [Array.getD_eq_getD_getElem?, q8, e8]; rfl
              rw [e8] at q8
              clear e8
              clear hfr hdep hsz
              generalize hK : (fun (a' : Act) (w' : World) => _) = K
              go_simp
              rw [if_neg (by omega)]
              go_simp
              rw [← hK]
              exact ⟨_, rfl, rfl, Below.refl _ _, hG⟩
            · cases ho
              obtain ⟨_, q9, e9⟩ := hdep ⟨9, .data⟩ (by simp) rfl _ _ rfl rfl
              have g9 : a.tmps.getD 68 undef = .string (((S ++ D0) ++ ⟨#[32]⟩) ++ D1) := by rw [Array.getD_eq_getD_getElem?, q9, e9]; rfl
              rw [e9] at q9
              clear e9
              clear hfr hdep hsz
              generalize hK : (fun (a' : Act) (w' : World) => _) = K
              go_simp
              rw [if_neg (by omega)]
              go_simp
              rw [← hK]
              exact ⟨_, rfl, rfl, Below.refl _ _, hG⟩
            · cases ho
              have g : a.tmps.getD 5 undef = .pointer (some ⟨bb, 0, none⟩) := by rw [Array.getD_eq_getD_getElem?, hfr 5 (reads_at (by kernel_rfl))]; rfl
              clear hfr hdep hsz
              generalize hK : (fun (a' : Act) (w' : World) => _) = K
              go_simp
              rw [← hK]
              exact ⟨_, rfl, rfl, Below.refl _ _, hG⟩
            · cases ho
              obtain ⟨_, q11, e11⟩ := hdep ⟨11, .data⟩ (by simp) rfl _ _ rfl rfl
              have g11 : a.tmps.getD 70 undef = .pointer (some ⟨bb, 2, none⟩) := by rw [Array.getD_eq_getD_getElem?, q11, e11]; rfl
              rw [e11] at q11
              clear e11
              have hc := cell_of_row W bb 2 _ _ _ hG.2
              clear hfr hdep hsz
              generalize hK : (fun (a' : Act) (w' : World) => _) = K
              go_simp
              rw [← hK]
              exact ⟨_, rfl, rfl, Below.refl _ _, hG⟩
            · cases ho
              obtain ⟨_, q12, e12⟩ := hdep ⟨12, .data⟩ (by simp) rfl _ _ rfl rfl
              have g12 : a.tmps.getD 71 undef = .int .i64 xd := by rw [Array.getD_eq_getD_getElem?, q12, e12]; rfl
              rw [e12] at q12
              clear e12
              clear hfr hdep hsz
              generalize hK : (fun (a' : Act) (w' : World) => _) = K
              go_simp
              refine (C2.out W).mono ?_
              rintro e W2 ⟨rfl, hb⟩
              show K _ _
              rw [← hK]
              exact ⟨_, rfl, rfl, hb, hG.1.trans (hb.mono hG.1.size), (hb.block bb (lt_of_block hG.2)).trans hG.2⟩
            · cases ho
              obtain ⟨_, q10, e10⟩ := hdep ⟨10, .data⟩ (by simp) rfl _ _ rfl rfl
              have g10 : a.tmps.getD 69 undef = .string ((((S ++ D0) ++ ⟨#[32]⟩) ++ D1) ++ ⟨#[32]⟩) := by rw [Array.getD_eq_getD_getElem?, q10, e10]; rfl
              rw [e10] at q10
              clear e10
              obtain ⟨_, q13, e13⟩ := hdep ⟨13, .data⟩ (by simp) rfl _ _ rfl rfl
              have g13 : a.tmps.getD 72 undef = .string D2 := by rw [Array.getD_eq_getD_getElem?, q13, e13]; rfl
              rw [e13] at q13
              clear e13
              clear hfr hdep hsz
              generalize hK : (fun (a' : Act) (w' : World) => _) = K
              go_simp
              rw [if_neg (by omega)]
              go_simp
              rw [← hK]
              exact ⟨_, rfl, rfl, Below.refl _ _, hG⟩
            · cases ho
              obtain ⟨_, q14, e14⟩ := hdep ⟨14, .data⟩ (by simp) rfl _ _ rfl rfl
              have g14 : a.tmps.getD 73 undef = .string (((((S ++ D0) ++ ⟨#[32]⟩) ++ D1) ++ ⟨#[32]⟩) ++ D2) := by rw [Array.getD_eq_getD_getElem?, q14, e14]; rfl
              rw [e14] at q14
              clear e14
              clear hfr hdep hsz
              generalize hK : (fun (a' : Act) (w' : World) => _) = K
              go_simp
              rw [if_neg (by omega)]
              go_simp
              rw [← hK]
              exact ⟨_, rfl, rfl, Below.refl _ _, hG⟩
            · cases ho
              obtain ⟨_, q15, e15⟩ := hdep ⟨15, .data⟩ (by simp) rfl _ _ rfl rfl
              have g15 : a.tmps.getD 74 undef = .string ((((((S ++ D0) ++ ⟨#[32]⟩) ++ D1) ++ ⟨#[32]⟩) ++ D2) ++ ⟨#[10]⟩) := by rw [Array.getD_eq_getD_getElem?, q15, e15]; rfl
              rw [e15] at q15
              clear e15
              clear hfr hdep hsz
              generalize hK : (fun (a' : Act) (w' : World) => _) = K
              go_simp
              rw [← hK]
              exact ⟨_, rfl, rfl, Below.refl _ _, hG⟩
          · intro a W hd hsz hfr hall hG
            obtain ⟨_, q3, e3⟩ := hall 16 _ 3 rfl rfl
            have f0 := hfr 0 (no_dst (by kernel_rfl))
            have f1 := hfr 1 (no_dst (by kernel_rfl))
            have f2 := hfr 2 (no_dst (by kernel_rfl))
            have f4 := hfr 4 (no_dst (by kernel_rfl))
            have f5 := hfr 5 (no_dst (by kernel_rfl))
            have f6 := hfr 6 (no_dst (by kernel_rfl))
            have f7 := hfr 7 (no_dst (by kernel_rfl))
            have f8 := hfr 8 (no_dst (by kernel_rfl))
            have f9 := hfr 9 (no_dst (by kernel_rfl))
            have f10 := hfr 10 (no_dst (by kernel_rfl))
            have f11 := hfr 11 (no_dst (by kernel_rfl))
            have f12 := hfr 12 (no_dst (by kernel_rfl))
            have f13 := hfr 13 (no_dst (by kernel_rfl))
            have f14 := hfr 14 (no_dst (by kernel_rfl))
            have f15 := hfr 15 (no_dst (by kernel_rfl))
            have f16 := hfr 16 (no_dst (by kernel_rfl))
            have f17 := hfr 17 (no_dst (by kernel_rfl))
            have f18 := hfr 18 (no_dst (by kernel_rfl))
            have f19 := hfr 19 (no_dst (by kernel_rfl))
            have f20 := hfr 20 (no_dst (by kernel_rfl))
            have f21 := hfr 21 (no_dst (by kernel_rfl))
            have f22 := hfr 22 (no_dst (by kernel_rfl))
            have f23 := hfr 23 (no_dst (by kernel_rfl))
            have f24 := hfr 24 (no_dst (by kernel_rfl))
            have f25 := hfr 25 (no_dst (by kernel_rfl))
            have f26 := hfr 26 (no_dst (by kernel_rfl))
            have f27 := hfr 27 (no_dst (by kernel_rfl))
            have f28 := hfr 28 (no_dst (by kernel_rfl))
            have f29 := hfr 29 (no_dst (by kernel_rfl))
            have f30 := hfr 30 (no_dst (by kernel_rfl))
            have f31 := hfr 31 (no_dst (by kernel_rfl))
            have f32 := hfr 32 (no_dst (by kernel_rfl))
            have f33 := hfr 33 (no_dst (by kernel_rfl))
            have f34 := hfr 34 (no_dst (by kernel_rfl))
            have f35 := hfr 35 (no_dst (by kernel_rfl))
            have f36 := hfr 36 (no_dst (by kernel_rfl))
            have f37 := hfr 37 (no_dst (by kernel_rfl))
            have f38 := hfr 38 (no_dst (by kernel_rfl))
            have f39 := hfr 39 (no_dst (by kernel_rfl))
            have f40 := hfr 40 (no_dst (by kernel_rfl))
            have f41 := hfr 41 (no_dst (by kernel_rfl))
            have f42 := hfr 42 (no_dst (by kernel_rfl))
            have f43 := hfr 43 (no_dst (by kernel_rfl))
            have f44 := hfr 44 (no_dst (by kernel_rfl))
            have f45 := hfr 45 (no_dst (by kernel_rfl))
            have f46 := hfr 46 (no_dst (by kernel_rfl))
            have f47 := hfr 47 (no_dst (by kernel_rfl))
            have f48 := hfr 48 (no_dst (by kernel_rfl))
            have f49 := hfr 49 (no_dst (by kernel_rfl))
            have f50 := hfr 50 (no_dst (by kernel_rfl))
            have f51 := hfr 51 (no_dst (by kernel_rfl))
            have f52 := hfr 52 (no_dst (by kernel_rfl))
            have f53 := hfr 53 (no_dst (by kernel_rfl))
            have f54 := hfr 54 (no_dst (by kernel_rfl))
            have f55 := hfr 55 (no_dst (by kernel_rfl))
            have f56 := hfr 56 (no_dst (by kernel_rfl))
            have f57 := hfr 57 (no_dst (by kernel_rfl))
            have f58 := hfr 58 (no_dst (by kernel_rfl))
            have f75 := hfr 75 (no_dst (by kernel_rfl))
            clear hfr hall
            have ha : a = { tmps := a.tmps, defers := [] } := by cases a; simp at hd; subst hd; rfl
            rw [ha, arr_lit76 a.tmps hsz]
            rw [show a.tmps.getD 0 undef = .slice (some ⟨b1, o1, none⟩) n cap from by rw [Array.getD_eq_getD_getElem?, f0]; rfl]
            rw [show a.tmps.getD 1 undef = undef from by rw [Array.getD_eq_getD_getElem?, f1]; rfl]
            rw [show a.tmps.getD 2 undef = u2 from by rw [Array.getD_eq_getD_getElem?, f2]; rfl]
            rw [show a.tmps.getD 4 undef = .int .i64 i from by rw [Array.getD_eq_getD_getElem?, f4]; rfl]
            rw [show a.tmps.getD 5 undef = .pointer (some ⟨bb, 0, none⟩) from by rw [Array.getD_eq_getD_getElem?, f5]; rfl]
            rw [show a.tmps.getD 6 undef = .int .i64 i from by rw [Array.getD_eq_getD_getElem?, f6]; rfl]
            rw [show a.tmps.getD 7 undef = .slice (some ⟨b1, o1, none⟩) n cap from by rw [Array.getD_eq_getD_getElem?, f7]; rfl]
            rw [show a.tmps.getD 8 undef = .int .i64 n from by rw [Array.getD_eq_getD_getElem?, f8]; rfl]
            rw [show a.tmps.getD 9 undef = .bool true from by rw [Array.getD_eq_getD_getElem?, f9]; rfl]
            rw [show a.tmps.getD 10 undef = u10 from by rw [Array.getD_eq_getD_getElem?, f10]; rfl]
            rw [show a.tmps.getD 11 undef = u11 from by rw [Array.getD_eq_getD_getElem?, f11]; rfl]
            rw [show a.tmps.getD 12 undef = .slice (some ⟨b1, o1, none⟩) n cap from by rw [Array.getD_eq_getD_getElem?, f12]; rfl]
            rw [show a.tmps.getD 13 undef = .int .i64 i from by rw [Array.getD_eq_getD_getElem?, f13]; rfl]
            rw [show a.tmps.getD 14 undef = .pointer (some ⟨b1, o1 + i * 3, none⟩) from by rw [Array.getD_eq_getD_getElem?, f14]; rfl]
            rw [show a.tmps.getD 15 undef = .agg #[.int .i64 xa, .int .i64 xt, .int .i64 xd] from by rw [Array.getD_eq_getD_getElem?, f15]; rfl]
            rw [show a.tmps.getD 16 undef = u16 from by rw [Array.getD_eq_getD_getElem?, f16]; rfl]
            rw [show a.tmps.getD 17 undef = u17 from by rw [Array.getD_eq_getD_getElem?, f17]; rfl]
            rw [show a.tmps.getD 18 undef = u18 from by rw [Array.getD_eq_getD_getElem?, f18]; rfl]
            rw [show a.tmps.getD 19 undef = u19 from by rw [Array.getD_eq_getD_getElem?, f19]; rfl]
            rw [show a.tmps.getD 20 undef = u20 from by rw [Array.getD_eq_getD_getElem?, f20]; rfl]
            rw [show a.tmps.getD 21 undef = u21 from by rw [Array.getD_eq_getD_getElem?, f21]; rfl]
            rw [show a.tmps.getD 22 undef = u22 from by rw [Array.getD_eq_getD_getElem?, f22]; rfl]
            rw [show a.tmps.getD 23 undef = u23 from by rw [Array.getD_eq_getD_getElem?, f23]; rfl]
            rw [show a.tmps.getD 24 undef = u24 from by rw [Array.getD_eq_getD_getElem?, f24]; rfl]
            rw [show a.tmps.getD 25 undef = u25 from by rw [Array.getD_eq_getD_getElem?, f25]; rfl]
            rw [show a.tmps.getD 26 undef = u26 from by rw [Array.getD_eq_getD_getElem?, f26]; rfl]
            rw [show a.tmps.getD 27 undef = u27 from by rw [Array.getD_eq_getD_getElem?, f27]; rfl]
            rw [show a.tmps.getD 28 undef = u28 from by rw [Array.getD_eq_getD_getElem?, f28]; rfl]
            rw [show a.tmps.getD 29 undef = u29 from by rw [Array.getD_eq_getD_getElem?, f29]; rfl]
            rw [show a.tmps.getD 30 undef = u30 from by rw [Array.getD_eq_getD_getElem?, f30]; rfl]
            rw [show a.tmps.getD 31 undef = u31 from by rw [Array.getD_eq_getD_getElem?, f31]; rfl]
            rw [show a.tmps.getD 32 undef = u32 from by rw [Array.getD_eq_getD_getElem?, f32]; rfl]
            rw [show a.tmps.getD 33 undef = u33 from by rw [Array.getD_eq_getD_getElem?, f33]; rfl]
            rw [show a.tmps.getD 34 undef = u34 from by rw [Array.getD_eq_getD_getElem?, f34]; rfl]
            rw [show a.tmps.getD 35 undef = u35 from by rw [Array.getD_eq_getD_getElem?, f35]; rfl]
            rw [show a.tmps.getD 36 undef = u36 from by rw [Array.getD_eq_getD_getElem?, f36]; rfl]
            rw [show a.tmps.getD 37 undef = u37 from by rw [Array.getD_eq_getD_getElem?, f37]; rfl]
            rw [show a.tmps.getD 38 undef = u38 from by rw [Array.getD_eq_getD_getElem?, f38]; rfl]
            rw [show a.tmps.getD 39 undef = u39 from by rw [Array.getD_eq_getD_getElem?, f39]; rfl]
            rw [show a.tmps.getD 40 undef = u40 from by rw [Array.getD_eq_getD_getElem?, f40]; rfl]
            rw [show a.tmps.getD 41 undef = u41 from by rw [Array.getD_eq_getD_getElem?, f41]; rfl]
            rw [show a.tmps.getD 42 undef = u42 from by rw [Array.getD_eq_getD_getElem?, f42]; rfl]
            rw [show a.tmps.getD 43 undef = u43 from by rw [Array.getD_eq_getD_getElem?, f43]; rfl]
            rw [show a.tmps.getD 44 undef = u44 from by rw [Array.getD_eq_getD_getElem?, f44]; rfl]
            rw [show a.tmps.getD 45 undef = u45 from by rw [Array.getD_eq_getD_getElem?, f45]; rfl]
            rw [show a.tmps.getD 46 undef = u46 from by rw [Array.getD_eq_getD_getElem?, f46]; rfl]
            rw [show a.tmps.getD 47 undef = u47 from by rw [Array.getD_eq_getD_getElem?, f47]; rfl]
            rw [show a.tmps.getD 48 undef = u48 from by rw [Array.getD_eq_getD_getElem?, f48]; rfl]
            rw [show a.tmps.getD 49 undef = u49 from by rw [Array.getD_eq_getD_getElem?, f49]; rfl]
            rw [show a.tmps.getD 50 undef = u50 from by rw [Array.getD_eq_getD_getElem?, f50]; rfl]
            rw [show a.tmps.getD 51 undef = u51 from by rw [Array.getD_eq_getD_getElem?, f51]; rfl]
            rw [show a.tmps.getD 52 undef = u52 from by rw [Array.getD_eq_getD_getElem?, f52]; rfl]
            rw [show a.tmps.getD 53 undef = u53 from by rw [Array.getD_eq_getD_getElem?, f53]; rfl]
            rw [show a.tmps.getD 54 undef = u54 from by rw [Array.getD_eq_getD_getElem?, f54]; rfl]
            rw [show a.tmps.getD 55 undef = u55 from by rw [Array.getD_eq_getD_getElem?, f55]; rfl]
            rw [show a.tmps.getD 56 undef = u56 from by rw [Array.getD_eq_getD_getElem?, f56]; rfl]
            rw [show a.tmps.getD 57 undef = u57 from by rw [Array.getD_eq_getD_getElem?, f57]; rfl]
            rw [show a.tmps.getD 58 undef = .bool false from by rw [Array.getD_eq_getD_getElem?, f58]; rfl]
            rw [show a.tmps.getD 75 undef = undef from by rw [Array.getD_eq_getD_getElem?, f75]; rfl]
            rw [show a.tmps.getD 3 undef = .string ((((((S ++ D0) ++ ⟨#[32]⟩) ++ D1) ++ ⟨#[32]⟩) ++ D2) ++ ⟨#[10]⟩) from by rw [Array.getD_eq_getD_getElem?, q3, e3]; rfl]
            clear ha hd hsz q3 e3 f0 f1 f2 f4 f5 f6 f7 f8 f9 f10 f11 f12 f13 f14 f15 f16 f17 f18 f19 f20 f21 f22 f23 f24 f25 f26 f27 f28 f29 f30 f31 f32 f33 f34 f35 f36 f37 f38 f39 f40 f41 f42 f43 f44 f45 f46 f47 f48 f49 f50 f51 f52 f53 f54 f55 f56 f57 f58 f75
            generalize a.tmps.getD 59 undef = z59
            generalize a.tmps.getD 60 undef = z60
            generalize a.tmps.getD 61 undef = z61
            generalize a.tmps.getD 62 undef = z62
            generalize a.tmps.getD 63 undef = z63
            generalize a.tmps.getD 64 undef = z64
            generalize a.tmps.getD 65 undef = z65
            generalize a.tmps.getD 66 undef = z66
            generalize a.tmps.getD 67 undef = z67
            generalize a.tmps.getD 68 undef = z68
            generalize a.tmps.getD 69 undef = z69
            generalize a.tmps.getD 70 undef = z70
            generalize a.tmps.getD 71 undef = z71
            generalize a.tmps.getD 72 undef = z72
            generalize a.tmps.getD 73 undef = z73
            generalize a.tmps.getD 74 undef = z74
            generalize ((((((S ++ D0) ++ ⟨#[32]⟩) ++ D1) ++ ⟨#[32]⟩) ++ D2) ++ ⟨#[10]⟩) = S' at HLS HSF ⊢
            have hb8 := hG.1
            clear C0 C1 C2 s0 s1 s2 hSs hG
            go_wp2
            go_roundw
            case rel => exact ⟨i + 1, S', xa, rfl, by simp, hin, HSF.out, Lib.hid (by rw [HLS.out]; exact HQ.out), Lib.hid (fun e => by omega), HNX, hb8⟩
            case measure => simp [RowKit.intOf]; omega
    · obtain rfl : i = n := by omega
      have HE : Hid (S = ⟨R.toArray⟩) := Lib.hid (by rw [hS.out, HN.out, List.drop_eq_nil_of_le (Nat.le_refl _)]; rfl)
      go_wp2
      go_ret
      exact ⟨by rw [HE.out]; rfl, hbr⟩

end Go.Proofs.YtnejkfccdnadcaaDoor
