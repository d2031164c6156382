/- run.Script. -/
import Derived.Test.YtnejkfccdnadcaaDoorRunS
import Derived.Test.YtnejkfccdnadcaaDoorRunW
namespace Go.Proofs.YtnejkfccdnadcaaDoor
open Go.RowKit Go.Shelf Go.Lib

theorem strCells_bytes (s : ByteArray) : Lib.strCells s = Lib.byteCells s.data.toList := rfl

theorem byteCells_append (l m : List UInt8) : Lib.byteCells (l ++ m) = Lib.byteCells l ++ Lib.byteCells m := by simp [Lib.byteCells]

theorem byteCells_len (l : List UInt8) : (Lib.byteCells l).length = l.length := by simp [Lib.byteCells]

theorem isBuilder_below {T e : TypeId} {B b : Nat} {bs : List Value} {w w' : World} (h : Lib.IsBuilder T e B b bs w) (hb : Below w.heap.size w w') : Lib.IsBuilder T e B b bs w' := by
  have key : ∀ p, Lib.BuilderAt T e B b p bs w → Lib.BuilderAt T e B b p bs w' := fun p hp => by
    obtain ⟨h1, v, h2, h3, h4⟩ := hp
    exact ⟨h1, v, (hb.block b (lt_of_block h2)).trans h2, ownsRow_below h3 hb (Nat.le_refl _), h4⟩
  exact h.imp (key _) (key _)

/-- The text of requests that are in order. -/
def tT (acc : List UInt8) (L : List Ak) : List UInt8 := if L.all (fun x => rightV x.a x.t x.d) = true then acc ++ L.flatMap lineT else []

theorem tT_cons (x : Ak) (r : List Ak) (acc : List UInt8) : tT acc (x :: r) = if rightV x.a x.t x.d = true then tT (acc ++ lineT x) r else [] := by
  unfold tT
  by_cases h2 : rightV x.a x.t x.d = true
  · simp [h2, List.append_assoc]
  · simp [h2]

theorem tT_step {L : List Ak} {i : Nat} (h : i < L.length) (acc : List UInt8) : tT acc (L.drop i) = if rightV L[i].a L[i].t L[i].d = true then tT (acc ++ lineT L[i]) (L.drop (i + 1)) else [] := by
  rw [List.drop_eq_getElem_cons h, tT_cons]

set_option maxHeartbeats 4000000 in
set_option maxRecDepth 100000 in
theorem runScript_any (A : Option Addr) (cap : Nat) (L : List Ak) (w : World) (hn : L.length ≤ 1000) (hB : ∀ x ∈ L, (-9223372036854775808 ≤ x.a ∧ x.a ≤ 9223372036854775807) ∧ (-9223372036854775808 ≤ x.t ∧ x.t ≤ 9223372036854775807) ∧ (-9223372036854775808 ≤ x.d ∧ x.d ≤ 9223372036854775807)) (hr : ARow w w.heap.size A L)
    (htab : Lib.TabIs Tryd.prog w "internal/strconv.uint64pow10" .u64 Lib.pow10Tab) (hg : 0 < w.heap.size) :
    Calls Tryd.prog 8 #[.slice A L.length cap] w fun e w' => e = .returned (.string ⟨(sT [] 0 L).toArray⟩) ∧ Below w.heap.size w w' := by
  have h1 := script_any A cap L w (by omega) hr
  obtain ⟨n, hn'⟩ : ∃ n, n = L.length := ⟨_, rfl⟩
  rw [← hn'] at hn h1 ⊢
  have H1 := Lib.hid h1
  have HN := Lib.hid hn'
  have HBD := Lib.hid hB
  clear hn' hB h1
  obtain ⟨R, hR⟩ : ∃ R, R = sT [] 0 L := ⟨_, rfl⟩
  rw [← hR]
  have HSO : Hid (sortedV 0 L = false → R = []) := Lib.hid (fun h => by rw [hR, sT_eq, if_neg]; rw [h]; simp)
  have HR : Hid (sortedV 0 L = true → R = tT [] (L.drop 0)) := Lib.hid (fun h => by rw [hR, sT_eq, List.drop_zero]; unfold tT; simp [h])
  clear hR
  generalize sortedV 0 L = so at H1 HSO HR
  go_enter Tryd.func8, Tryd.ntmps8
  cases so with
  | false =>
    have HQ := Lib.hid (HSO.out rfl)
    go_wp2_with (go_at_call 17; refine H1.out.mono ?_; rintro e w1 ⟨rfl, hb1⟩)
    go_ret
    exact ⟨by rw [HQ.out]; rfl, hb1⟩
  | true =>
    have HR' := Lib.hid (HR.out rfl)
    clear HSO HR
    go_upto_region 4 with (go_at_call 17; refine H1.out.mono ?_; rintro e w1 ⟨rfl, hb1⟩)
    have hib := fresh_isBuilder 63 5 w1
    have hb2 := hb1.alloc hb1.size (.cells #[.pointer none, .slice none 0 0] 63)
    have hbs : w1.heap.size ≤ (w1.alloc (.cells #[.pointer none, .slice none 0 0] 63)).heap.size := by simp
    generalize w1.alloc (.cells #[.pointer none, .slice none 0 0] 63) = w2 at hib hb2 hbs ⊢
    obtain ⟨b, hb⟩ : ∃ b, w1.heap.size = b := ⟨_, rfl⟩
    have hwb : w.heap.size ≤ b := by rw [← hb]; exact hb1.size
    rw [hb] at hib hbs ⊢
    clear hb hb1 H1
    go_wp2
    go_loopw [11] (fun v11 wr => ∃ (i : Nat) (acc : List UInt8), v11 = .int .i64 i ∧ i ≤ n ∧ Hid (acc.length ≤ 70 * i) ∧ Hid (R = tT acc (L.drop i)) ∧ Hid (Lib.IsBuilder 63 5 b b (Lib.byteCells acc) wr) ∧ Hid (b ≤ wr.heap.size) ∧ Below w.heap.size w wr) (fun v11 _ => n - (RowKit.intOf v11).toNat)
    case atStart => exact ⟨0, [], rfl, Nat.zero_le _, Lib.hid (Nat.zero_le _), HR', Lib.hid hib, Lib.hid hbs, hb2⟩
    case round =>
      obtain ⟨i, acc, rfl, hi, hal, hS, HIB, HBS, hbr⟩ := hrel
      by_cases hin : i < n
      · have hil : i < L.length := by rw [← HN.out]; exact hin
        obtain ⟨b1, o1, rfl, hlt1, hc1⟩ := hr (by omega)
        obtain ⟨x0, x1, x2⟩ := hc1 i hil
        have a0 := (hbr.cell (p := ⟨b1, _, none⟩) hlt1).trans x0
        have a1 := (hbr.cell (p := ⟨b1, _, none⟩) hlt1).trans x1
        have a2 := (hbr.cell (p := ⟨b1, _, none⟩) hlt1).trans x2
        have HST := Lib.hid (hS.out.trans (tT_step hil acc))
        have HB3 := HBD.out L[i] (List.getElem_mem hil)
        clear x0 x1 x2 hc1 hS
        generalize L[i] = x at *
        obtain ⟨xa, xt, xd⟩ := x
        simp only at a0 a1 a2 HST HB3
        obtain ⟨hba, hbt, hbd⟩ := HB3
        have HRT := Lib.hid (fun W => right_any xa xt xd hbt W)
        go_upto_region 7 with (fail)
        have hbx := hbr.alloc hbr.size (.cells #[.int .i64 xa, .int .i64 xt, .int .i64 xd] 46)
        have hlx := heap_alloc_new wr (.cells #[.int .i64 xa, .int .i64 xt, .int .i64 xd] 46)
        have HIB2 := Lib.hid (isBuilder_below HIB.out ((Below.refl wr.heap.size wr).alloc (Nat.le_refl _) (.cells #[.int .i64 xa, .int .i64 xt, .int .i64 xd] 46)))
        have HBS2 : Hid (b ≤ (wr.alloc (.cells #[.int .i64 xa, .int .i64 xt, .int .i64 xd] 46)).heap.size) := Lib.hid (by have := HBS.out; simp; omega)
        generalize wr.alloc (.cells #[.int .i64 xa, .int .i64 xt, .int .i64 xd] 46) = W3 at hbx hlx HIB2 HBS2 ⊢
        obtain ⟨bb, hbb⟩ : ∃ b, wr.heap.size = b := ⟨_, rfl⟩
        have HBB : Hid (b ≤ bb) := Lib.hid (by rw [← hbb]; exact HBS.out)
        rw [hbb] at hlx ⊢
        clear a0 a1 a2 hbr hbb HIB HBS
        have q0 := cell_of_row W3 bb 0 _ _ _ hlx
        have q1 := cell_of_row W3 bb 1 _ _ _ hlx
        have q2 := cell_of_row W3 bb 2 _ _ _ hlx
        simp at q0 q1 q2
        cases hrv : rightV xa xt xd with
        | false =>
          have HQ : Hid (R = []) := Lib.hid (by rw [HST.out, hrv]; rfl)
          rw [hrv] at HRT
          clear hrv
          go_wp2_with (go_at_call 18; refine (HRT.out _).mono ?_; rintro e w4 ⟨rfl, hb4⟩)
          go_ret
          exact ⟨by rw [HQ.out]; rfl, hbx.trans (hb4.mono hbx.size)⟩
        | true =>
          have HQ : Hid (R = tT (acc ++ lineT ⟨xa, xt, xd⟩) (L.drop (i + 1))) := Lib.hid (by rw [HST.out, if_pos hrv])
          rw [hrv] at HRT
          clear hrv HST
          go_upto_region 9 with (go_at_call 18; refine (HRT.out _).mono ?_; rintro e w4 ⟨rfl, hb4⟩)
          have hb5 := hbx.trans (hb4.mono hbx.size)
          have HIB4 := Lib.hid (isBuilder_below HIB2.out hb4)
          have HBS4 : Hid (b ≤ w4.heap.size) := Lib.hid (by have := HBS2.out; have := hb4.size; omega)
          have k0 := cell_kept q0 hb4
          have k1 := cell_kept q1 hb4
          have k2 := cell_kept q2 hb4
          clear q0 q1 q2 hlx hb4 hbx HIB2 HBS2 HBB
          have hD : ∀ W : World, ∃ D : ByteArray, D = ⟨(Lib.join ([xa, xt, xd].map itoa) [32]).toArray⟩ := fun _ => ⟨_, rfl⟩
          obtain ⟨D, hD⟩ := hD w4
          have HDT : Hid ((D ++ ⟨#[10]⟩ : ByteArray).data.toList = lineT ⟨xa, xt, xd⟩) := Lib.hid (by
            rw [hD]
            simp [lineT, Lib.join, List.intercalate])
          have hDS : D.size ≤ 65 := by
            have l0 := itoa_len xa hba.1 hba.2
            have l1 := itoa_len xt hbt.1 hbt.2
            have l2 := itoa_len xd hbd.1 hbd.2
            rw [Lib.size_eq, hD]
            simp [Lib.join, List.intercalate]
            omega
          have HWD : Hid (Calls Tryd.prog 20 #[.slice (some ⟨w4.heap.size, 0, none⟩) 3 3] (w4.alloc (.cells #[.int .i64 xa, .int .i64 xt, .int .i64 xd] 2)) fun e w' => e = .returned (.string D) ∧ Below w4.heap.size w4 w') := Lib.hid (by
            have hal := (Below.refl w4.heap.size w4).alloc (Nat.le_refl _) (.cells #[.int .i64 xa, .int .i64 xt, .int .i64 xd] 2)
            have hnew := heap_alloc_new w4 (.cells #[.int .i64 xa, .int .i64 xt, .int .i64 xd] 2)
            rw [hD]
            refine (words_any (some ⟨w4.heap.size, 0, none⟩) 3 [xa, xt, xd] _ (fun x hx => ?_) (by simp) (fun _ => ⟨w4.heap.size, 0, rfl, lt_of_block hnew, fun k hk => ?_⟩) (tab_below htab (hb5.trans (hal.mono hb5.size)) hg) (by have := hb5.size; have := hal.size; omega)).mono ?_
            · simp at hx
              rcases hx with rfl | rfl | rfl
              · exact hba
              · exact hbt
              · exact hbd
            · have hk3 : k = 0 ∨ k = 1 ∨ k = 2 := by simp at hk; omega
              rcases hk3 with rfl | rfl | rfl
              · exact cell_of_row _ w4.heap.size 0 _ _ _ hnew
              · exact cell_of_row _ w4.heap.size 1 _ _ _ hnew
              · exact cell_of_row _ w4.heap.size 2 _ _ _ hnew
            · rintro e w' ⟨he, hb⟩
              exact ⟨he, hal.trans (hb.mono hal.size)⟩)
          clear hD
          have hal1 := Nat.le_of_lt (show acc.length < 140737488355328 - 100 by have := hal.out; omega)
          go_wp2_with (go_at_call 20; refine HWD.out.mono ?_; rintro e w6 ⟨rfl, hb6⟩)
          have HWS := Lib.hid (writeString_any b b (Lib.byteCells acc) (D ++ ⟨#[10]⟩) w6 (isBuilder_below HIB4.out hb6) (by rw [byteCells_len]; simp [ByteArray.size_append]; show acc.length + (D.size + 1) ≤ _; omega) (by have := HBS4.out; have := hb6.size; omega))
          go_wp2_with (go_at_call 19; refine HWS.out.mono ?_; rintro e w7 ⟨rfl, hbt7, hb7⟩)
          have hb8 := (hb5.trans (hb6.mono hb5.size)).trans (hb7.mono hwb)
          have HL8 : Hid ((acc ++ lineT ⟨xa, xt, xd⟩).length ≤ 70 * (i + 1)) := Lib.hid (by
            rw [List.length_append, ← HDT.out, ← Lib.size_eq]
            have := hal.out
            simp [ByteArray.size_append]
            show acc.length + (D.size + 1) ≤ _
            omega)
          have HI8 : Hid (Lib.IsBuilder 63 5 b b (Lib.byteCells (acc ++ lineT ⟨xa, xt, xd⟩)) w7) := Lib.hid (by
            rw [byteCells_append, ← HDT.out, ← strCells_bytes]
            exact .inr hbt7)
          have HS8 : Hid (b ≤ w7.heap.size) := Lib.hid (by have := hbt7.lt; omega)
          clear hb5 hb6 hb7 hbt7 HWS HWD hal1 hDS
          go_roundw
          case rel => exact ⟨i + 1, acc ++ lineT ⟨xa, xt, xd⟩, by simp, hin, HL8, HQ, HI8, HS8, hb8⟩
          case measure => simp [RowKit.intOf]; omega
      · obtain rfl : i = n := by omega
        have HE : Hid (acc = R) := Lib.hid (by rw [hS.out, HN.out, List.drop_eq_nil_of_le (Nat.le_refl _)]; simp [tT])
        have HST := Lib.hid (Tryd.Builder_String_any b b acc wr HIB.out HBS.out)
        go_wp2_with (go_at_call 21; refine HST.out.mono ?_; rintro e w4 ⟨rfl, hb4⟩)
        go_ret
        exact ⟨by rw [HE.out]; rfl, hbr.trans (hb4.mono hwb)⟩

end Go.Proofs.YtnejkfccdnadcaaDoor
