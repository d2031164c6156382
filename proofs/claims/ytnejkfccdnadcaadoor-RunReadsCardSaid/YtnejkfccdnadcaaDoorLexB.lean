/- lex: TrimLeft, IndexAny at any text; the iterator words$1. -/
import Derived.Test.YtnejkfccdnadcaaDoorLexA
import Derived.Test.YtnejkfccdnadcaaDoorLexP
import Derived.RangeFuncNested
import Derived.RangeFuncBound
import Derived.RangeFuncCalls
import Derived.RangeFuncLeaves
import Derived.RangeFuncBox
import Derived.Shelf.Abstract
import Derived.Shelf.RegionOpen
import Derived.WalkKit
import Derived.OwnWalkIn
import Derived.TacticsInMore
import Derived.LoopNIn
import Derived.LoopIn
import Derived.Sort.CutIn
namespace Go.Proofs.YtnejkfccdnadcaaDoor
open Go.RowKit Go.Shelf Go.Lib

attribute [local go_sem] Oper.semAt_some

theorem ws_ascii : ∀ (j : Nat) b, wsB.data.toList[j]? = some b → b.toNat < 128 := by
  intro j b h
  have hm : b ∈ wsB.data.toList := List.mem_of_getElem? h
  have : wsB.data.toList = [32, 9] := rfl
  rw [this] at hm
  simp at hm
  rcases hm with rfl | rfl <;> decide

theorem trimLeft_any (s : ByteArray) (w : World) :
    Calls Tryd.prog 44 #[.string s, .string wsB] w fun e w' => e = .returned (.string ⟨(s.data.toList.dropWhile ws).toArray⟩) ∧ Below w.heap.size w w' :=
  Any.strings_TrimLeft_laid Tryd.lays161 (by kernel_rfl) s wsB w (by decide) ws_ascii

theorem indexAny_any (s : ByteArray) (w : World) (hs : s.size < 4294967281) :
    Calls Tryd.prog 45 #[.string s, .string wsB] w fun e w' => e = .returned (.int .i64 (Lib.indexAny s.data.toList [32, 9])) ∧ Below w.heap.size w w' := by
  rcases Nat.lt_or_ge 8 s.size with h | h
  · exact (Tryd.strings_IndexAny_long (zero_of_info (P := Tryd.prog) (v := .agg (Array.replicate 256 (.bool false))) (n := 256) (by kernel_rfl)).1 s wsB w (by decide) h hs (by decide) ws_ascii).mono fun e w' ⟨he, hw⟩ =>
      ⟨he, by rw [hw]; exact ((Below.refl _ w).alloc (Nat.le_refl _) _).alloc (by simp) _⟩
  · exact indexAny_short s w h

/-- Every block of cells of the type t stays as it is. -/
def KeepsT (t : TypeId) (W W' : World) : Prop := ∀ (k : Nat) (cs : Array Value) (fr : Nat × Nat), W.heap[k]? = some (.cells cs t fr) → W'.heap[k]? = some (.cells cs t fr)

/-- What a round that goes on keeps: what lay below n₀, and every row of strings. -/
def KeepsW (n₀ : Nat) (W W' : World) : Prop := Below n₀ W W' ∧ KeepsT 9 W W'

theorem keepsW_t {n₀ : Nat} {A B C : World} (h : KeepsW n₀ A B) (k : KeepsW n₀ B C) : KeepsW n₀ A C := ⟨h.1.trans k.1, fun i cs fr e => k.2 i cs fr (h.2 i cs fr e)⟩

theorem keepsW_b {n₀ : Nat} {w : World} (hn : n₀ ≤ w.heap.size) (W : World) (l : Nat) (o o' : Obj) (hl : w.heap.size ≤ l) (h : W.heap[l]? = some o) (hc : o.isCells = false) (hw : o.isWalk = false) : KeepsW n₀ W (W.putObj l o') := by
  refine ⟨belowK_b hn W l o o' hl h hc hw, fun k cs fr e => ?_⟩
  have hkl : k ≠ l := by
    rintro rfl
    rw [h] at e
    cases e
    cases hc
  exact (World.putObj_heap_other hkl).trans e

theorem grown_none {w w1 : World} (h : Below w.heap.size w w1) : w.grownBy w1 none := ⟨h.os, h.tape, h.output, h.size, fun i hi _ => h.block i hi⟩

theorem split_any (s : ByteArray) (m : Int) (w : World) (hs : s.size < 4294967281) (hm : w.cell? ⟨1, 0, none⟩ = some (.int .i64 m)) :
    Calls Tryd.prog 42 #[.string s, .string ⟨#[10]⟩] w fun e w' =>
      e = .returned (.slice (some ⟨w.heap.size, 0, none⟩) (Lib.splitB ⟨#[10]⟩ 0 (Lib.countB s ⟨#[10]⟩) s).length (Lib.splitB ⟨#[10]⟩ 0 (Lib.countB s ⟨#[10]⟩) s).length) ∧
      w' = w.alloc (.cells ((Lib.splitB ⟨#[10]⟩ 0 (Lib.countB s ⟨#[10]⟩) s).map Value.string).toArray 9) :=
  (Tryd.strings_Split s ⟨#[10]⟩ m w hs hm (by decide)).mono fun e w' ⟨he, hw⟩ => ⟨by rw [he, Lib.splitB_all ⟨#[10]⟩ (by decide) 0 _ s rfl], hw⟩

theorem cut_any (s : ByteArray) (m : Int) (w : World) (hs : s.size < 4294967281) (hm : w.cell? ⟨1, 0, none⟩ = some (.int .i64 m)) :
    Calls Tryd.prog 43 #[.string s, .string ⟨#[35]⟩] w fun e w' =>
      (∃ r b, e = .returned (.tuple #[.string ⟨(Lib.cut s.data.toList [35]).1.toArray⟩, .string r, .bool b])) ∧ Below w.heap.size w w' :=
  (Tryd.strings_Cut s ⟨#[35]⟩ m w hs hm).mono fun e w' ⟨he, n, hw⟩ => ⟨⟨_, _, he⟩, by rw [hw]; exact below_drewN (Below.refl _ _) _⟩

theorem cut_len (a b : List UInt8) : (Lib.cut a b).1.length ≤ a.length := by
  unfold Lib.cut
  split
  · simp [List.length_take]; omega
  · exact Nat.le_refl _

theorem skip_ok {n a p : Nat} (h : a ≤ n - p) (hn : n ≤ 1000000) : IntKind.i64.wrap ((((n - p : Nat)) : Int) - (a : Int)) = (((n - p - a : Nat)) : Int) := by
  rw [IntKind.wrap_i64]
  omega

theorem drop_suffix {l r : List UInt8} (h : r <:+ l) : l.drop (l.length - r.length) = r := (List.suffix_iff_eq_drop.1 h).symm

theorem word_text (sd : ByteArray) (P1 : Nat) (R1 : List UInt8) (h : sd.data.toList.drop P1 = R1) : (⟨(R1.takeWhile nws).toArray⟩ : ByteArray) = sd.extract P1 (P1 + (R1.takeWhile nws).length) := by
  have h2 : R1.take (R1.takeWhile nws).length = R1.takeWhile nws := (List.prefix_iff_eq_take.1 (List.takeWhile_prefix nws)).symm
  apply ByteArray.ext
  apply Array.toList_inj.1
  rw [ByteArray.data_extract, Array.toList_extract, List.extract_eq_take_drop, h]
  rw [Nat.add_sub_cancel_left, h2]

/-- One word's step, at the part of the line from p on. -/
theorem word_step (f p q : Nat) (sd : ByteArray) (R1 : List UInt8) (hp : p < sd.size) (hR : (sd.data.toList.drop p).dropWhile ws = R1) :
    sd.data.toList.drop (p + (sd.size - p - R1.length)) = R1 ∧
    lwc (f + p) q (sd.data.toList.drop p) = (if (R1.takeWhile nws).length = 0 then [] else [⟨(f : Int) + ((p + (sd.size - p - R1.length) : Nat) : Int), (q : Int), sd.extract (p + (sd.size - p - R1.length)) (p + (sd.size - p - R1.length) + (R1.takeWhile nws).length)⟩]) ++
      lwc (f + (p + (sd.size - p - R1.length) + (R1.takeWhile nws).length)) q (sd.data.toList.drop (p + (sd.size - p - R1.length) + (R1.takeWhile nws).length)) ∧
    R1.length - (R1.takeWhile nws).length < sd.size - p := by
  have hlen : (sd.data.toList.drop p).length = sd.size - p := by rw [List.length_drop, ← Lib.size_eq]
  have hsuf : R1 <:+ sd.data.toList.drop p := by rw [← hR]; exact List.dropWhile_suffix ws
  have hd := drop_suffix hsuf
  rw [hlen, List.drop_drop] at hd
  have hne : sd.data.toList.drop p ≠ [] := by
    intro e
    rw [e] at hlen
    simp at hlen
    omega
  refine ⟨hd, ?_, ?_⟩
  · rw [lwc_step _ _ _ hne, hR, hlen]
    rw [word_text sd _ R1 hd]
    have hdd : sd.data.toList.drop (p + (sd.size - p - R1.length) + (R1.takeWhile nws).length) = R1.drop (R1.takeWhile nws).length := by
      rw [← List.drop_drop, hd]
    rw [hdd]
    have e1 : f + p + (sd.size - p - R1.length) = f + (p + (sd.size - p - R1.length)) := by omega
    have e2 : f + p + (sd.size - p - R1.length) + (R1.takeWhile nws).length = f + (p + (sd.size - p - R1.length) + (R1.takeWhile nws).length) := by omega
    rw [e2, e1]
    congr 1
    simp only [List.length_eq_zero_iff]
    rw [Int.natCast_add f]
  · obtain ⟨c, l, hcl⟩ : ∃ c l, sd.data.toList.drop p = c :: l := by
      cases h : sd.data.toList.drop p with
      | nil => exact absurd h hne
      | cons c l => exact ⟨c, l, rfl⟩
    have h := left_lt c l
    rw [← hcl, hR, hlen, List.length_drop] at h
    exact h

set_option maxRecDepth 100000 in
set_option maxHeartbeats 4000000 in
/-- lex.words's closure, for every loop body that keeps what lay below n₀ and every row of strings. -/
theorem words1_in (l Bs n₀ : Nat) (s : ByteArray) (hs : s.size ≤ 65536) (m : Int) (L : List ByteArray) (hL : Lib.splitB ⟨#[10]⟩ 0 (Lib.countB s ⟨#[10]⟩) s = L) (hsum : (L.map fun x => x.size + 1).sum ≤ 1000000) (hLl : L.length ≤ 1000000)
    (J Jx : List Wd → World → Prop) (hmn : 1 < n₀) (all : List Wd) (hall : linesW 0 1 L = all)
    (hY : ∀ pre x W, J pre W → pre ++ [x] <+: all → YieldAt Fence.wide 0 Tryd.prog l #[x.enc] W fun e W' =>
      (e = .returned (.bool true) ∧ J (pre ++ [x]) W' ∧ KeepsW n₀ W W') ∨ (e = .returned (.bool false) ∧ Jx (pre ++ [x]) W'))
    (W : World) (hJ : AbidesFrom W.heap.size J) (hBs : W.cell? ⟨Bs, 0, none⟩ = some (.string s)) (hn : n₀ ≤ W.heap.size)
    (hm : W.cell? ⟨1, 0, none⟩ = some (.int .i64 m)) (h0 : J [] W) :
    CallsIn Fence.wide 1 Tryd.prog 41 #[.func (.yield l) #[] #[], .pointer (some ⟨Bs, 0, none⟩)] W fun e W' => (∃ v, e = .returned v) ∧
      ((∃ ys, ys = all ∧ J ys W') ∨ (∃ pre, pre <+: all ∧ Jx pre W')) := by
  have hsplit := split_any s m W (by omega) hm
  rw [hL] at hsplit
  have hY' := Lib.hid hY
  have hJ' := Lib.hid hJ
  clear hY hJ
  refine callsIn_of_wp Tryd.func41 rfl trivial ?_ rfl
  simp only [Tryd.ntmps41, List.size_toArray, List.length_cons, List.length_nil, Nat.reduceAdd, Nat.reduceSub, Array.replicate_succ, Array.replicate_zero, List.push_toArray, List.append_toArray, List.nil_append, List.cons_append]
  gi_wp2_with (refine ⟨trivial, ?_⟩; gi_at_call 42; refine (callsIn_wide.2 hsplit).mono ?_; rintro e w' ⟨rfl, rfl⟩)
  obtain ⟨B, hB⟩ : ∃ B, W.heap.size = B := ⟨_, rfl⟩
  have hnew := heap_alloc_new W (.cells (L.map Value.string).toArray 9)
  have hJ0 := hJ'.out [] W (W.alloc (.cells (L.map Value.string).toArray 9)) none h0 (grown_none ((Below.refl _ W).alloc (Nat.le_refl _) _)) (fun r e => by cases e)
  have hall' := Lib.hid hall
  have hsum' := Lib.hid hsum
  have hW0 := (Below.refl n₀ W).alloc hn (.cells (L.map Value.string).toArray 9)
  have hBsz : B < (W.alloc (.cells (L.map Value.string).toArray 9)).heap.size := by simp; omega
  rw [hB] at hnew
  generalize (W.alloc (.cells (L.map Value.string).toArray 9)) = W1 at hnew hJ0 hW0 hBsz
  clear hall hsum hL hsplit
  rw [hB]
  gi_loopw [3, 15] (fun v3 v15 wr => ∃ (i f : Nat) (pre : List Wd), v3 = .int .i64 f ∧ v15 = .int .i64 i ∧ i ≤ L.length ∧ J pre wr ∧ Hid (all = pre ++ linesW f (i + 1) (L.drop i)) ∧
      Hid (f + ((L.drop i).map fun x => x.size + 1).sum ≤ 1000000) ∧ wr.heap[B]? = some (.cells (L.map Value.string).toArray 9 (0, 0)) ∧ Below n₀ W wr)
    (fun _ v15 _ => L.length - (RowKit.intOf v15).toNat)
  case atStart => exact ⟨0, 0, [], rfl, rfl, Nat.zero_le _, hJ0, Lib.hid (by rw [← hall'.out]; rfl), Lib.hid (by simpa using hsum'.out), hnew, hW0⟩
  case round =>
    obtain ⟨i, f, pre, rfl, rfl, hi, hJs, hal, hsm, hblk, hbw⟩ := hrel
    by_cases hil : i < L.length
    · obtain ⟨x, hx⟩ : ∃ x, L[i]? = some x := ⟨L[i], by simp [hil]⟩
      have hcell : wr.cell? ⟨B, i, none⟩ = some (.string x) := by
        simp [World.cell?, hblk, hx]
      have hdrop : L.drop i = x :: L.drop (i + 1) := by
        rw [List.drop_eq_getElem_cons hil]
        rw [List.getElem?_eq_getElem hil] at hx
        cases hx; rfl
      have hsx : f + (x.size + 1 + ((L.drop (i + 1)).map fun x => x.size + 1).sum) ≤ 1000000 := by
        have := hsm.out
        rw [hdrop] at this
        simpa using this
      have hmr : wr.cell? ⟨1, 0, none⟩ = some (.int .i64 m) := (hbw.cell (p := ⟨1, 0, none⟩) hmn).trans hm
      have hcut := Lib.hid (cut_any x m wr (by omega) hmr)
      clear hmr hx
      gi_wp2_with (refine ⟨trivial, ?_⟩; gi_at_call 43; refine (callsIn_wide.2 hcut.out).mono ?_; rintro e wc ⟨⟨r, bb, rfl⟩, hbc⟩)
      have hJc := hJ'.out pre wr wc none hJs (grown_none hbc) (fun r e => by cases e)
      have hblk' : wc.heap[B]? = some (.cells (L.map Value.string).toArray 9 (0, 0)) := (hbc.block B (lt_of_block hblk)).trans hblk
      have hbw' := hbw.trans (hbc.mono (Nat.le_trans hn hbw.size))
      have hcl := cut_len x.data.toList [35]
      have hal' : Hid (all = pre ++ (lwc f (i + 1) (Lib.cut x.data.toList [35]).1 ++ linesW (f + x.size + 1) (i + 1 + 1) (L.drop (i + 1)))) := Lib.hid (by rw [hal.out, hdrop]; rfl)
      clear hcell hdrop hcut hJs hblk hbw hal hsm
      obtain ⟨S, hS⟩ : ∃ S, (Lib.cut x.data.toList [35]).1 = S := ⟨_, rfl⟩
      rw [hS] at hal' hcl ⊢
      clear hS
      obtain ⟨sd, hsd⟩ : ∃ sd : ByteArray, sd = ⟨S.toArray⟩ := ⟨_, rfl⟩
      have hSd : S = sd.data.toList := by rw [hsd]
      rw [← hsd]
      rw [hSd] at hal' hcl
      clear hsd hSd S
      gi_loopw [9] (fun v9 wi => ∃ (p : Nat) (pre : List Wd), v9 = .int .i64 p ∧ p ≤ sd.size ∧ J pre wi ∧
          Hid (all = pre ++ (lwc (f + p) (i + 1) (sd.data.toList.drop p) ++ linesW (f + x.size + 1) (i + 1 + 1) (L.drop (i + 1)))) ∧
          wi.heap[B]? = some (.cells (L.map Value.string).toArray 9 (0, 0)) ∧ Below n₀ W wi)
        (fun v9 _ => sd.size - (RowKit.intOf v9).toNat)
      case atStart => exact ⟨0, pre, rfl, Nat.zero_le _, hJc, hal', hblk', hbw'⟩
      case round =>
        clear hJc hblk' hbw' hal' hbc
        obtain ⟨p, pre', rfl, hp, hJi, hali, hblki, hbwi⟩ := hrel
        rename World => wi
        by_cases hps : p < sd.size
        · obtain ⟨R1, hR1⟩ : ∃ R1, (sd.data.toList.drop p).dropWhile ws = R1 := ⟨_, rfl⟩
          have hR1l : R1.length ≤ sd.size - p := by
            have h := dropWhile_len ws (sd.data.toList.drop p)
            rw [hR1, List.length_drop, ← Lib.size_eq] at h
            exact h
          have htl : Hid (∀ w, Calls Tryd.prog 44 #[.string (sd.extract p sd.size), .string ⟨#[32, 9]⟩] w fun e w' => e = .returned (.string ⟨R1.toArray⟩) ∧ Below w.heap.size w w') :=
            Lib.hid (fun w => (trimLeft_any (sd.extract p sd.size) w).mono fun e w' ⟨he, hb⟩ => ⟨by rw [he, extract_to_end, hR1], hb⟩)
          obtain ⟨tr, htr⟩ : ∃ tr : ByteArray, tr = ⟨R1.toArray⟩ := ⟨_, rfl⟩
          have htrs : tr.size = R1.length := by rw [htr]; rfl
          rw [← htr] at htl
          have HR1 := Lib.hid hR1
          clear hR1 htr
          have hsd6 : sd.size ≤ 1000000 := by rw [← Lib.size_eq, ← Lib.size_eq] at hcl; omega
          gi_upto_region 7 with (fail)
          gi_cut [10] from 81 (fun v10 wx => v10 = .int .i64 ((sd.size - p - R1.length : Nat) : Int) ∧ Below wi.heap.size wi wx)
          case first =>
            gi_region_with (refine ⟨trivial, ?_⟩; gi_at_call 44; refine (callsIn_wide.2 (htl.out _)).mono ?_; rintro e wt ⟨rfl, hbt⟩)
            all_goals gi_wp2
            all_goals gi_meet
            all_goals exact ⟨by rw [skip_ok hR1l hsd6], (below_drewN (Below.refl _ wi) 1).trans hbt⟩
          case rest =>
            obtain ⟨rfl, hbx⟩ := hcut
            rename World => wx
            have hJx := hJ'.out pre' wi wx none hJi (grown_none hbx) (fun r e => by cases e)
            have hblkx := (hbx.block B (lt_of_block hblki)).trans hblki
            have hbwx := hbwi.trans (hbx.mono (Nat.le_trans hn hbwi.size))
            obtain ⟨N, hN⟩ : ∃ N, (R1.takeWhile nws).length = N := ⟨_, rfl⟩
            have hword := word_step f p (i + 1) sd R1 hps HR1.out
            rw [hN] at hword
            have hNR : N ≤ R1.length := by rw [← hN]; exact takeWhile_len nws R1
            obtain ⟨P1, hP1⟩ : ∃ P1, p + (sd.size - p - R1.length) = P1 := ⟨_, rfl⟩
            rw [hP1] at hword
            have hP1s : P1 + R1.length = sd.size := by omega
            obtain ⟨K, hK⟩ : ∃ K, sd.size - p - R1.length = K := ⟨_, rfl⟩
            rw [hK] at hP1 ⊢
            have hPK : (p : Int) + (K : Int) = (P1 : Int) := by omega
            have hidx : Hid (∀ w, Calls Tryd.prog 45 #[.string (sd.extract P1 sd.size), .string ⟨#[32, 9]⟩] w fun e w' => (∃ k : Int, e = .returned (.int .i64 k) ∧ (k = -1 ∧ N = R1.length ∨ k = (N : Int))) ∧ Below w.heap.size w w') :=
              Lib.hid (fun w => (indexAny_any (sd.extract P1 sd.size) w (by simp; omega)).mono fun e w' ⟨he, hb⟩ => ⟨⟨_, he, by
                rw [extract_to_end, hword.1]
                rcases idx_word R1 with ⟨h1, h2⟩ | h1
                · left; exact ⟨h1, by rw [← hN, h2]⟩
                · right; rw [h1, hN]⟩, hb⟩)
            have hWD := Lib.hid hword
            clear hword htl hbx hJi hblki hbwi htrs
            gi_upto_if 48 with (refine ⟨trivial, ?_⟩; gi_at_call 45; refine (callsIn_wide.2 (hidx.out _)).mono ?_; rintro e wt ⟨⟨k, rfl, hk⟩, hbt⟩)
            gi_cut [11] from 81 (fun v11 wy => v11 = .int .i64 (N : Int) ∧ wt = wy)
            case first =>
              rcases hk with ⟨rfl, hk⟩ | rfl
              · gi_wp2
                gi_meet
                have e : (sd.size : Int) - (P1 : Int) = (N : Int) := by omega
                exact ⟨by rw [e], rfl⟩
              · gi_wp2
                gi_meet
                exact ⟨rfl, rfl⟩
            case rest =>
              obtain ⟨rfl, rfl⟩ := hcut
              have hJt := hJ'.out pre' wx wt none hJx (grown_none hbt) (fun r e => by cases e)
              have hblkt := (hbt.block B (lt_of_block hblkx)).trans hblkx
              have hbwt := hbwx.trans (hbt.mono (Nat.le_trans hn hbwx.size))
              clear hbt hJx hblkx hbwx hk hidx
              have hWD2 := hWD.out.2
              by_cases hN0 : N = 0
              · rw [if_pos hN0, List.nil_append] at hWD2
                have hal3 : Hid (all = pre' ++ (lwc (f + (P1 + N)) (i + 1) (sd.data.toList.drop (P1 + N)) ++ linesW (f + x.size + 1) (i + 1 + 1) (L.drop (i + 1)))) := Lib.hid (by rw [hali.out, hWD2.1])
                have hlt := hWD2.2
                clear hWD2
                subst hN0
                gi_wp2
                refine ⟨fun _ h => (by cases h), ?_⟩
                gi_wp2
                go_roundw
                case rel => exact ⟨P1, pre', rfl, by omega, hJt, hal3, hblkt, hbwt⟩
                case measure => simp [RowKit.intOf]; omega
              · rw [if_neg hN0] at hWD2
                have hal3 : Hid (all = (pre' ++ [⟨(f : Int) + (P1 : Int), ((i + 1 : Nat) : Int), sd.extract P1 (P1 + N)⟩]) ++ (lwc (f + (P1 + N)) (i + 1) (sd.data.toList.drop (P1 + N)) ++ linesW (f + x.size + 1) (i + 1 + 1) (L.drop (i + 1)))) :=
                  Lib.hid (by rw [hali.out, hWD2.1]; simp [List.append_assoc])
                have hlt := hWD2.2
                clear hWD2
                have hP2 : P1 + N ≤ sd.size := by omega
                obtain ⟨fn, tmps, assign, body, hy, hR⟩ := hY'.out pre' ⟨(f : Int) + (P1 : Int), ((i + 1 : Nat) : Int), sd.extract P1 (P1 + N)⟩ wt hJt (by rw [hal3.out]; simp)
                dsimp only [Wd.enc] at hy
                have hq : ((i + 1 : Nat) : Int) = (i : Int) + 1 := by omega
                rw [hq] at hy
                have hxx : sd.size ≤ x.size := by rw [← Lib.size_eq, ← Lib.size_eq] at hcl; exact hcl
                gi_wp2
                refine hR.mono ?_
                rintro e W3 (⟨rfl, hJ3, hk3⟩ | ⟨rfl, hJx3⟩)
                · gi_wp2
                  go_roundw
                  case rel => exact ⟨P1 + N, _, by simp, hP2, hJ3, hal3, hk3.2 _ _ _ hblkt, hbwt.trans hk3.1⟩
                  case measure => simp [RowKit.intOf]; omega
                · gi_wp2
                  refine bodyPost_ret (results_none rfl _ _ _) rfl ?_
                  exact ⟨⟨_, rfl⟩, .inr ⟨_, ⟨_, hal3.out.symm⟩, hJx3⟩⟩
        · have hps' : p = sd.size := by omega
          subst hps'
          have hal4 : Hid (all = pre' ++ linesW (f + x.size + 1) (i + 1 + 1) (L.drop (i + 1))) := Lib.hid (by
            have h := hali.out
            rw [List.drop_eq_nil_of_le (by rw [← Lib.size_eq]; exact Nat.le_refl _)] at h
            exact h)
          gi_wp2
          go_roundw
          case rel => exact ⟨i + 1, f + x.size + 1, pre', by congr 1, by congr 1, hil, hJi, hal4, Lib.hid (by omega), hblki, hbwi⟩
          case measure => simp [RowKit.intOf]; omega
    · have hil' : i = L.length := by omega
      subst hil'
      have hal5 : all = pre := by
        have h := hal.out
        rw [List.drop_length] at h
        simpa [linesW] using h
      clear hal hsm
      gi_wp2
      go_end0
      exact ⟨⟨_, rfl⟩, .inl ⟨_, rfl, by rw [hal5]; exact hJs⟩⟩

end Go.Proofs.YtnejkfccdnadcaaDoor
