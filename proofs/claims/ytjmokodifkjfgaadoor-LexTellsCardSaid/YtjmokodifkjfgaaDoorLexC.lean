/- lex.words, slices.AppendSeq, slices.Collect, lex.Words. -/
import Derived.Test.YtjmokodifkjfgaaDoorLexB
import Derived.Maps.AppendAt
namespace Go.Proofs.YtjmokodifkjfgaaDoor
open Go.RowKit Go.Shelf Go.Lib

attribute [local go_sem] Oper.semAt_some

def Wd.cells (x : Wd) : List Value := [.int .i64 x.p, .int .i64 x.q, .string x.t]

/-- The words of a text. -/
def textW (s : ByteArray) : List Wd := linesW 0 1 (Lib.splitB ⟨#[10]⟩ 0 (Lib.countB s ⟨#[10]⟩) s)

theorem keepsT_alloc {q : TypeId} (W : World) (o : Obj) : KeepsT q W (W.alloc o) := fun k _ _ h => (Below.heap_alloc W o k (lt_of_block h)).trans h

theorem keepsT_appended {W w1 : World} {n₀ B : Nat} {t e q : TypeId} {size : Nat} {v : Value} {k : Nat} {xs : List Value} {tmp : Obj} (hqt : q ≠ t) (hqe : q ≠ e)
    (hv : Boxed W B t v) (hrow : W.ownsRow n₀ e size v k xs) (hgrow : (W.alloc tmp).grownBy w1 v.ownBlock) (v' : Value) : KeepsT q W (w1.setCell ⟨B, 0, none⟩ v') := by
  intro j cs fr h
  have hjB : j ≠ B := by
    rintro rfl
    have : W.heap[j]? = some (.cells #[v] t (0, 0)) := hv
    rw [h] at this
    cases this
    exact hqt rfl
  have hjo : some j ≠ v.ownBlock := by
    intro e1
    rcases hrow.2 with ⟨rfl, _⟩ | ⟨g, cap, cur, rfl, _, hgb, _⟩
    · simp [Value.ownBlock] at e1
    · have : j = g := by simpa [Value.ownBlock] using e1
      subst this
      rw [h] at hgb
      cases hgb
      exact hqe rfl
  have h1 := keepsT_alloc W tmp j cs fr h
  have h2 := (hgrow.block j (lt_of_block h1) hjo).trans h1
  exact (Below.heap_setCell w1 _ _ j hjB).trans h2

set_option maxHeartbeats 1000000 in
/-- lex.words(s): the text is boxed; the function value captures the box. -/
theorem words_in (n : Nat) (s : ByteArray) (w : World) :
    CallsIn Fence.wide n Tryd.prog 29 #[.string s] w fun e w' => e = .returned (.func (.func 36) #[] #[.pointer (some ⟨w.heap.size, 0, none⟩)]) ∧ w' = w.alloc (.cells #[.string s] 9) := by
  refine callsIn_of_wp Tryd.func29 rfl trivial ?_ rfl
  simp only [Tryd.ntmps29, List.size_toArray, List.length_cons, List.length_nil, Nat.reduceAdd, Nat.reduceSub, Array.replicate_succ, Array.replicate_zero, List.push_toArray, List.append_toArray, List.nil_append, List.cons_append]
  gi_wp2
  go_ret
  exact ⟨rfl, rfl⟩

/-- What lex.words hands back yields the words of the text, in order. -/
theorem words_stops (Bs n₀ : Nat) (s : ByteArray) (hs : s.size ≤ 65536) (m : Int) (w : World)
    (hsum : ((Lib.splitB ⟨#[10]⟩ 0 (Lib.countB s ⟨#[10]⟩) s).map fun x => x.size + 1).sum ≤ 1000000) (hLl : (Lib.splitB ⟨#[10]⟩ 0 (Lib.countB s ⟨#[10]⟩) s).length ≤ 1000000)
    (hmn : 1 < n₀) (hn : n₀ ≤ w.heap.size) (hBl : Bs < w.heap.size) (hBs : w.cell? ⟨Bs, 0, none⟩ = some (.string s))
    (hm : w.cell? ⟨1, 0, none⟩ = some (.int .i64 m)) :
    SeqStopsK Fence.wide 1 Tryd.prog 36 #[.pointer (some ⟨Bs, 0, none⟩)] (fun x : Wd => #[x.enc]) (KeepsW n₀) (fun ys => ys = textW s) (fun pre => pre <+: textW s) (textW s).length w := fun l J Jx W hW hJ _ hY h0 =>
  words1_in l Bs n₀ s hs m _ rfl hsum hLl J Jx hmn (textW s) rfl (fun pre x W1 hj hp => hY pre x W1 hj (by have := hp.length_le; simp at this; omega)) W hJ ((hW.cell (p := ⟨Bs, 0, none⟩) hBl).trans hBs) (Nat.le_trans hn hW.size)
    ((hW.cell (p := ⟨1, 0, none⟩) (by simp; omega)).trans hm) h0

theorem infoW : (Tryd.prog.info? 27).map (fun i => (i.zero, i.size, i.bytes)) = some (some (.agg #[.int .i64 0, .int .i64 0, .string ⟨#[]⟩]), 3, 32) := by kernel_rfl

theorem three_new (W : World) (a b c : Value) (t : TypeId) : ∀ (j : Nat) (u : Value), [a, b, c][j]? = some u → (W.alloc (.cells #[a, b, c] t)).cell? (Addr.add ⟨W.heap.size, 0, none⟩ j) = some u := by
  intro j u h
  have hb := heap_alloc_new W (.cells #[a, b, c] t)
  generalize W.alloc (.cells #[a, b, c] t) = W1 at hb ⊢
  rcases j with _ | _ | _ | j
  · simpa [World.cell?, Addr.add, hb] using h
  · simpa [World.cell?, Addr.add, hb] using h
  · simpa [World.cell?, Addr.add, hb] using h
  · simp at h

set_option maxRecDepth 100000 in
set_option maxHeartbeats 2000000 in
/-- slices.AppendSeq(nil, words): a row of its own with the words. -/
theorem appendSeq_in (Bs : Nat) (s : ByteArray) (hs : s.size ≤ 65536) (m : Int) (w : World)
    (hsum : ((Lib.splitB ⟨#[10]⟩ 0 (Lib.countB s ⟨#[10]⟩) s).map fun x => x.size + 1).sum ≤ 1000000) (hLl : (Lib.splitB ⟨#[10]⟩ 0 (Lib.countB s ⟨#[10]⟩) s).length ≤ 1000000)
    (hN : (textW s).length ≤ 1000000)
    (hmn : 1 < w.heap.size) (hBl : Bs < w.heap.size) (hBs : w.cell? ⟨Bs, 0, none⟩ = some (.string s))
    (hm : w.cell? ⟨1, 0, none⟩ = some (.int .i64 m)) :
    CallsIn Fence.wide 2 Tryd.prog 35 #[.slice none 0 0, .func (.func 36) #[] #[.pointer (some ⟨Bs, 0, none⟩)]] w fun e W' =>
      ∃ v, e = .returned v ∧ W'.ownsRow w.heap.size 27 3 v (textW s).length ((textW s).flatMap Wd.cells) ∧ Below w.heap.size w W' := by
  obtain ⟨i0, hi, hz0, hz1, hz2⟩ := info_parts infoW
  refine callsIn_of_wp_marks Tryd.func35 rfl trivial ?_ rfl
  simp only [Tryd.ntmps35, List.size_toArray, List.length_cons, List.length_nil, Nat.reduceAdd, Nat.reduceSub, Array.replicate_succ, Array.replicate_zero, List.push_toArray, List.append_toArray, List.nil_append, List.cons_append]
  gi_wp2
  have bO := Boxed.new w 24 (.slice none 0 0)
  have hB0 : Below w.heap.size w (w.alloc (.cells #[.slice none 0 0] 24)) := (Below.refl _ w).alloc (Nat.le_refl _) _
  have hsz : (w.alloc (.cells #[.slice none 0 0] 24)).heap.size = w.heap.size + 1 := by simp
  obtain ⟨W0, hW0⟩ : ∃ W0, w.alloc (.cells #[.slice none 0 0] 24) = W0 := ⟨_, rfl⟩
  rw [hW0] at bO hB0 hsz ⊢
  clear hW0
  refine wpIn_rangeFunc_ownH rfl (by omega) (gf := 36) (lb := #[.pointer (some ⟨Bs, 0, none⟩)]) rfl trivial (enters_of Tryd.func36 (by kernel_rfl) rfl)
    (words_stops Bs w.heap.size s hs m W0 hsum hLl hmn (by omega) (by omega) ((hB0.cell (p := ⟨Bs, 0, none⟩) hBl).trans hBs) ((hB0.cell (p := ⟨1, 0, none⟩) hmn).trans hm))
    keepsW_t (keepsW_b (by omega)) (Below.refl _ _) (fun _ => rfl)
    (fun (pre : List Wd) W => (∃ v, Boxed W w.heap.size 24 v ∧ W.ownsRow w.heap.size 27 3 v pre.length (pre.flatMap Wd.cells) ∧ True) ∧ Below w.heap.size w W)
    (fun _ _ _ => False)
    (OwnFrom.and (Own.from (holdsRow_own w.heap.size w.heap.size 24 27 3 (fun (pre : List Wd) => pre.length) (fun pre => pre.flatMap Wd.cells) (fun _ _ => True)) _) (ownFrom_below (Nat.le_refl _) (by omega)))
    (fun _ _ _ _ _ hs _ _ => hs)
    ⟨⟨_, bO, World.ownsRow_nil _ _ _ _, trivial⟩, hB0⟩
    (fun x a' W => ∃ Bx, w.heap.size < Bx ∧ W.heap[Bx]? = some (.cells #[.int .i64 x.p, .int .i64 x.q, .string x.t] 27 (0, 0)) ∧ a' = { tmps := #[.slice none 0 0, .func (.func 36) #[] #[.pointer (some ⟨Bs, 0, none⟩)], .pointer (some ⟨w.heap.size, 0, none⟩), undef, .slice none 0 0, .pointer (some ⟨Bx, 0, none⟩), .func (.func 36) #[] #[.pointer (some ⟨Bs, 0, none⟩)], x.enc, undef, undef, undef, undef, undef], defers := [] })
    (fun x a' _ X Y row hs hg hr => by
      obtain ⟨Bx, h1, h2, h3⟩ := hs
      refine ⟨Bx, h1, (hg.block Bx (lt_of_block h2) (fun e => ?_)).trans h2, h3⟩
      obtain ⟨_, o, ho, hc⟩ := hr _ e.symm
      rw [h2] at ho
      cases ho
      cases hc)
    ?assign ?body ?done ?stop
  case assign =>
    rintro l pre ⟨xp, xq, xt⟩ W K ⟨⟨v, bv, hrow, -⟩, hB1⟩ hK
    dsimp only [Wd.enc] at hK ⊢
    gi_wp2
    exact hK _ _ ((KeepsOthers.alloc _ _).from _) ⟨(Below.refl _ W).alloc hB1.size _, keepsT_alloc _ _⟩ ⟨⟨v, bv.alloc _, hrow.alloc _, trivial⟩, hB1.alloc hB1.size _⟩ ⟨W.heap.size, bv.lt, heap_alloc_new W _, rfl⟩
  case body =>
    rintro l pre ⟨xp, xq, xt⟩ a' W hl ⟨r, hr⟩ ⟨⟨v, bv, hrow, -⟩, hB1⟩ ⟨Bx, hBx, bX, rfl⟩ hlt
    dsimp only [Wd.enc] at bX ⊢
    have hc := bv.cell
    have hx0 : W.cell? ⟨Bx, 0, none⟩ = some (.int .i64 xp) := by simp [World.cell?, bX]
    have hx1 : W.cell? ⟨Bx, 1, none⟩ = some (.int .i64 xq) := by simp [World.cell?, bX]
    have hx2 : W.cell? ⟨Bx, 2, none⟩ = some (.string xt) := by simp [World.cell?, bX]
    gi_wp2_with (gi_at_builtin; refine wpListIn_append_own _ rfl _ _ 24 rfl w.heap.size 27 i0 _ 3 32 Tryd.underlying24 hi hz0 hz1 hz2 rfl (by decide) _ _ _ rfl (hrow.alloc _) ⟨W.heap.size, 0, none⟩ 1 1 [.int .i64 xp, .int .i64 xq, .string xt] rfl rfl (three_new _ _ _ _ _) (by simp [Value.oneCell']) (by unfold maxLen; omega) (by omega) (by have := hB1.size; simp; omega) ?_; intro v' w1 hown' hgrow _; obtain ⟨g', cap', rfl⟩ := ownsRow_succ hown'; obtain ⟨hv1, hv2, hr2, hk2, hb2⟩ := bv.appended (by decide) hrow hB1.size (Nat.le_refl _) hown' hgrow; have hkt := keepsT_appended (q := 9) (by decide) (by decide) bv hrow hgrow (.slice (some ⟨g', 0, none⟩) (pre.length + 1) cap'); have hc1 := hv1.cell; have hf1 := hv1.frozen)
    exact ⟨hk2.from _, ⟨hb2, hkt⟩, ⟨_, hv2, by simpa [Wd.cells] using hr2, trivial⟩, hB1.trans hb2⟩
  case done =>
    rintro D ys W hD rfl ⟨⟨v, bv, hrow, -⟩, hB1⟩ hK
    have hc := bv.cell
    gi_wp2
    refine ⟨by simp, .inl ⟨_, _, rfl, run_takeDeferred hK, ?_⟩⟩
    exact ⟨_, results_tmp rfl _ _ _, v, rfl, ownsRow_putObj hrow _ hK rfl, hB1.trans (belowK_b (w := w) (Nat.le_refl _) W D _ _ (by omega) hK rfl rfl)⟩
  case stop =>
    rintro D c pre W _ _ h _
    exact h.elim

theorem ownsRow_base {w : World} {b c : Nat} {e : TypeId} {size : Nat} {v : Value} {n : Nat} {xs : List Value} (h : w.ownsRow b e size v n xs) (hc : c ≤ b) : w.ownsRow c e size v n xs := by
  obtain ⟨h1, h2⟩ := h
  refine ⟨h1, ?_⟩
  rcases h2 with h2 | ⟨g, cap, cur, hv, hg, r⟩
  · exact .inl h2
  · exact .inr ⟨g, cap, cur, hv, Nat.le_trans hc hg, r⟩

theorem cell_lt {w : World} {p : Addr} {v : Value} (h : w.cell? p = some v) : p.block < w.heap.size := by
  obtain ⟨o, ho, _⟩ := not_walk_of_cell h
  exact (Array.getElem?_eq_some_iff.1 ho).1

theorem splitB_sum : ∀ (k : Nat) (s : ByteArray), ((Lib.splitB ⟨#[10]⟩ 0 k s).map fun x => x.size + 1).sum ≤ s.size + 1 := by
  intro k
  induction k with
  | zero => intro s; simp [Lib.splitB_zero]
  | succ k ih =>
    intro s
    rcases indexB_cases s ⟨#[10]⟩ with hix | ⟨i, hix, hroom⟩
    · rw [Lib.splitB_miss _ _ _ _ hix]; simp
    · rw [Lib.splitB_hit _ _ _ _ i hix]
      have h1 : (ByteArray.mk #[10]).size = 1 := rfl
      rw [h1] at hroom ⊢
      have h2 := ih (s.extract (i + 1) s.size)
      simp at h2 ⊢
      omega

theorem sum_len (L : List ByteArray) : L.length ≤ (L.map fun x => x.size + 1).sum := by
  induction L with
  | nil => simp
  | cons x L ih => simp at ih ⊢; omega

theorem lw_len (q : Nat) : ∀ (k p : Nat) (l : List UInt8), (lw k p q l).length ≤ k := by
  intro k
  induction k with
  | zero => intro p l; exact Nat.le_refl 0
  | succ k ih =>
    intro p l
    cases l with
    | nil => exact Nat.zero_le _
    | cons c l =>
      unfold lw
      rw [List.length_append]
      have := ih (p + ((c :: l).length - ((c :: l).dropWhile ws).length) + (((c :: l).dropWhile ws).takeWhile nws).length) (((c :: l).dropWhile ws).drop (((c :: l).dropWhile ws).takeWhile nws).length)
      split
      · rw [List.length_nil]; omega
      · rw [List.length_singleton]; omega

theorem linesW_len : ∀ (L : List ByteArray) (f q : Nat), (linesW f q L).length ≤ (L.map fun x => x.size + 1).sum := by
  intro L
  induction L with
  | nil => intro f q; exact Nat.le_refl 0
  | cons x L ih =>
    intro f q
    unfold linesW
    rw [List.length_append]
    have h1 := lw_len q (Lib.cut x.data.toList [35]).1.length f (Lib.cut x.data.toList [35]).1
    have h2 := cut_len x.data.toList [35]
    rw [← Lib.size_eq] at h2
    have h3 := ih (f + x.size + 1) (q + 1)
    unfold lwc
    simp at h3 ⊢
    omega

theorem textW_len (s : ByteArray) : (textW s).length ≤ s.size + 1 := Nat.le_trans (linesW_len _ _ _) (splitB_sum _ s)

set_option maxHeartbeats 2000000 in
/-- lex.Words: a row of its own with the words of the text. -/
theorem lexWords_any (s : ByteArray) (hs : s.size ≤ 65536) (m : Int) (w : World) (hm : w.cell? ⟨1, 0, none⟩ = some (.int .i64 m)) :
    Calls Tryd.prog 11 #[.string s] w fun e w' =>
      ∃ v, e = .returned v ∧ w'.ownsRow w.heap.size 27 3 v (textW s).length ((textW s).flatMap Wd.cells) ∧ Below w.heap.size w w' := by
  have hmn : 1 < w.heap.size := cell_lt hm
  have h1 := splitB_sum (Lib.countB s ⟨#[10]⟩) s
  have h2 := sum_len (Lib.splitB ⟨#[10]⟩ 0 (Lib.countB s ⟨#[10]⟩) s)
  have h3 := textW_len s
  have hb := (Below.refl w.heap.size w).alloc (Nat.le_refl _) (.cells #[.string s] 9)
  have hn := Boxed.new w 9 (.string s)
  have hap := Lib.hid (appendSeq_in w.heap.size s hs m (w.alloc (.cells #[.string s] 9)) (by omega) (by omega) (by omega) (by simp; omega) (by simp) hn.cell ((hb.cell (p := ⟨1, 0, none⟩) hmn).trans hm))
  clear hn h1 h2 h3
  go_enter Tryd.func11, Tryd.ntmps11
  go_wp2_with (first
    | (go_at_call 29; refine (callsIn_wide.1 (words_in 1 s w)).mono ?_; rintro e w' ⟨rfl, rfl⟩)
    | (go_at_call 35; refine (callsIn_wide.1 hap.out).mono ?_; rintro e w' ⟨v, rfl, hrow, hbw⟩)
    | go_in)
  go_ret
  exact ⟨v, rfl, ownsRow_base hrow (by simp), hb.trans (hbw.mono (by simp))⟩

end Go.Proofs.YtjmokodifkjfgaaDoor
