/- lex.Lines. -/
import Derived.Test.YtnejkfccdnadcaaDoorLexKa
import Derived.Test.YtnejkfccdnadcaaDoorHeldIn
import Derived.Test.YtnejkfccdnadcaaDoorLexPa
import Derived.Deep.RegionHeld
namespace Go.Proofs.YtnejkfccdnadcaaDoor
open Go.RowKit Go.Shelf Go.Lib

attribute [local go_sem] Oper.semAt_some

/-- A word with a line. -/
abbrev Wq := { x : Wd // 1 ≤ x.q ∧ x.q ≤ 100000 }

theorem abides_map {α β : Type} (f : α → β) {B : Nat} {J : List α → World → Prop} (h : AbidesFrom B J) : AbidesFrom B (fun (l : List β) W => ∃ l', l'.map f = l ∧ J l' W) :=
  fun _ W W' row ⟨l', e, hj⟩ hg hr => ⟨l', e, h l' W W' row hj hg hr⟩

/-- What lex.words hands back yields words with lines. -/
theorem words_stopsQ (Bs n₀ : Nat) (s : ByteArray) (hs : s.size ≤ 65536) (m : Int) (w : World)
    (hmn : 1 < n₀) (hn : n₀ ≤ w.heap.size) (hBl : Bs < w.heap.size) (hBs : w.cell? ⟨Bs, 0, none⟩ = some (.string s))
    (hm : w.cell? ⟨1, 0, none⟩ = some (.int .i64 m)) :
    SeqStopsK Fence.wide 1 Tryd.prog 41 #[.pointer (some ⟨Bs, 0, none⟩)] (fun x : Wq => #[x.1.enc]) (KeepsW n₀) (fun ys => ys.map Subtype.val = textW s) (fun pre => pre.map Subtype.val <+: textW s) (textW s).length w := fun l J Jx W hW hJ hJx hY h0 => by
  have h1 := splitB_sum (Lib.countB s ⟨#[10]⟩) s
  have h2 := sum_len (Lib.splitB ⟨#[10]⟩ 0 (Lib.countB s ⟨#[10]⟩) s)
  refine (words1_in l Bs n₀ s hs m _ rfl (by omega) (by omega) (fun (l : List Wd) W => ∃ l' : List Wq, l'.map Subtype.val = l ∧ J l' W) (fun (l : List Wd) W => ∃ l' : List Wq, l'.map Subtype.val = l ∧ Jx l' W) hmn (textW s) rfl ?_ W (abides_map Subtype.val hJ)
    ((hW.cell (p := ⟨Bs, 0, none⟩) hBl).trans hBs) (Nat.le_trans hn hW.size) ((hW.cell (p := ⟨1, 0, none⟩) (by simp; omega)).trans hm) ⟨[], rfl, h0⟩).mono ?_
  · rintro pre x W1 ⟨pre', rfl, hj⟩ hp
    have hx : x ∈ textW s := hp.subset (by simp)
    have hb := text_bd s x hx
    have hlen := hp.length_le
    simp at hlen
    have hy := hY pre' ⟨x, hb.2.1, by have := hb.2.2; omega⟩ W1 hj (by omega)
    refine YieldAt.mono hy ?_
    rintro e W' (⟨he, hj2, hk⟩ | ⟨he, hj2⟩)
    · exact .inl ⟨he, ⟨_, by simp, hj2⟩, hk⟩
    · exact .inr ⟨he, ⟨_, by simp, hj2⟩⟩
  · rintro e W' ⟨hv, ⟨ys, rfl', ⟨ys', e1, hj⟩⟩ | ⟨pre, hp, ⟨pre', e1, hj⟩⟩⟩
    · exact ⟨hv, .inl ⟨ys', e1.trans rfl', hj⟩⟩
    · exact ⟨hv, .inr ⟨pre', (e1 ▸ hp : pre'.map Subtype.val <+: textW s), hj⟩⟩

/-- The last word's line. -/
def lastq (l : List Wd) : Int := match l.getLast? with
  | none => 0
  | some y => y.q

theorem lastq_snoc (l : List Wd) (x : Wd) : lastq (l ++ [x]) = x.q := by simp [lastq]

theorem boxed_notcell {W W' : World} {B : Nat} {t : TypeId} {v : Value} {row : Option Nat} (h : Boxed W B t v) (hg : W.grownBy W' row) (hr : ∀ r, row = some r → ∃ o : Obj, W.heap[r]? = some o ∧ o.isCells = false) : Boxed W' B t v := by
  refine h.kept hg fun e => ?_
  obtain ⟨o, ho, hc⟩ := hr B e.symm
  rw [show W.heap[B]? = _ from h] at ho
  cases ho
  cases hc

theorem infoR : (Tryd.prog.info? 73).map (fun i => (i.zero, i.size, i.bytes)) = some (some (.slice none 0 0), 1, 24) := by kernel_rfl

/-- What the rounds of lex.Lines keep. -/
def LI (n0 B3 B4 : Nat) (pre : List Wq) (W : World) : Prop :=
  ∃ vo, Boxed W B3 71 vo ∧ Boxed W B4 3 (.int .i64 (lastq (pre.map Subtype.val))) ∧ LS n0 73 77 (pre.map Subtype.val) vo W

theorem li_own (n0 B3 B4 : Nat) : Own (LI n0 B3 B4) := fun _ _ _ _ ⟨vo, h1, h2, h3⟩ hg hr =>
  ⟨vo, boxed_notcell h1 hg hr, boxed_notcell h2 hg hr, h3.kept hg hr⟩

set_option maxRecDepth 100000 in
set_option maxHeartbeats 4000000 in
/-- lex.Lines: the words of the text, line by line. -/
theorem lines_in (s : ByteArray) (hs : s.size ≤ 65536) (m : Int) (w : World) (hm : w.cell? ⟨1, 0, none⟩ = some (.int .i64 m)) :
    CallsIn Fence.wide 2 Tryd.prog 22 #[.string s] w fun e W' =>
      ∃ v, e = .returned v ∧ LS w.heap.size 73 77 (textW s) v W' ∧ Below w.heap.size w W' := by
  have hmn : 1 < w.heap.size := cell_lt hm
  have hN := textW_len s
  obtain ⟨i0, hi, hz0, hz1, hz2⟩ := info_parts infoW
  obtain ⟨j0, hj, hy0, hy1, hy2⟩ := info_parts infoR
  refine callsIn_of_wp_marks Tryd.func22 rfl trivial ?_ rfl
  simp only [Tryd.ntmps22, List.size_toArray, List.length_cons, List.length_nil, Nat.reduceAdd, Nat.reduceSub, Array.replicate_succ, Array.replicate_zero, List.push_toArray, List.append_toArray, List.nil_append, List.cons_append]
  gi_wp2_with (refine ⟨trivial, ?_⟩; gi_at_call 34; refine (words_in _ s _).mono ?_; rintro e w' ⟨rfl, rfl⟩)
  have b3 := ((Boxed.new w 71 (.slice none 0 0)).alloc (.cells #[.int .i64 0] 3)).alloc (.cells #[.string s] 9)
  have b4 := (Boxed.new (w.alloc (.cells #[.slice none 0 0] 71)) 3 (.int .i64 0)).alloc (.cells #[.string s] 9)
  have bs := (Boxed.new ((w.alloc (.cells #[.slice none 0 0] 71)).alloc (.cells #[.int .i64 0] 3)) 9 (.string s)).cell
  have hB0 : Below w.heap.size w (((w.alloc (.cells #[.slice none 0 0] 71)).alloc (.cells #[.int .i64 0] 3)).alloc (.cells #[.string s] 9)) := (((Below.refl _ w).alloc (Nat.le_refl _) _).alloc (by simp) _).alloc (by simp; omega) _
  have hsz : (((w.alloc (.cells #[.slice none 0 0] 71)).alloc (.cells #[.int .i64 0] 3)).alloc (.cells #[.string s] 9)).heap.size = w.heap.size + 3 := by simp
  have hs1 : (w.alloc (.cells #[.slice none 0 0] 71)).heap.size = w.heap.size + 1 := by simp
  have hs2 : ((w.alloc (.cells #[.slice none 0 0] 71)).alloc (.cells #[.int .i64 0] 3)).heap.size = w.heap.size + 1 + 1 := by simp
  rw [hs1] at b4
  rw [hs2] at bs
  generalize ((w.alloc (.cells #[.slice none 0 0] 71)).alloc (.cells #[.int .i64 0] 3)).alloc (.cells #[.string s] 9) = W0 at b3 b4 bs hB0 hsz ⊢
  clear hs1 hs2
  refine wpIn_rangeFunc_ownH rfl (by omega) (gf := 41) (lb := #[.pointer (some ⟨w.heap.size + 1 + 1, 0, none⟩)]) rfl trivial (enters_of Tryd.func41 (by kernel_rfl) rfl)
    (words_stopsQ (w.heap.size + 1 + 1) w.heap.size s hs m W0 hmn (by omega) (by omega) bs ((hB0.cell (p := ⟨1, 0, none⟩) hmn).trans hm))
    keepsW_t (keepsW_b (by omega)) (Below.refl _ _) (fun _ => rfl)
    (fun (pre : List Wq) W => LI w.heap.size w.heap.size (w.heap.size + 1) pre W ∧ Below w.heap.size w W)
    (fun _ _ _ => False)
    (OwnFrom.and (Own.from (li_own w.heap.size w.heap.size (w.heap.size + 1)) _) (ownFrom_below (Nat.le_refl _) (by omega)))
    (fun _ _ _ _ _ hs _ _ => hs)
    ⟨⟨_, b3, b4, .inl ⟨rfl, rfl⟩⟩, hB0⟩
    (fun x a' W => ∃ Bx, w.heap.size + 1 < Bx ∧ W.heap[Bx]? = some (.cells #[.int .i64 x.1.p, .int .i64 x.1.q, .string x.1.t] 77 (0, 0)) ∧ a' = { tmps := #[.string s, undef, .slice none 0 0, .pointer (some ⟨w.heap.size, 0, none⟩), .pointer (some ⟨w.heap.size + 1, 0, none⟩), .pointer (some ⟨Bx, 0, none⟩), .string s, .func (.func 41) #[] #[.pointer (some ⟨w.heap.size + 1 + 1, 0, none⟩)], x.1.enc, undef, undef, undef, undef, undef, undef, undef, undef, undef, undef, undef, undef, undef, undef, undef, undef, undef, undef, undef, undef, undef, undef, undef, undef], defers := [] })
    (fun x a' _ X Y row hs hg hr => by
      obtain ⟨Bx, h1, h2, h3⟩ := hs
      refine ⟨Bx, h1, (hg.block Bx (lt_of_block h2) (fun e => ?_)).trans h2, h3⟩
      obtain ⟨_, o, ho, hc⟩ := hr _ e.symm
      rw [h2] at ho
      cases ho
      cases hc)
    ?assign ?body ?done ?stop
  case assign =>
    rintro l pre ⟨⟨xp, xq, xt⟩, hq⟩ W K ⟨⟨vo, bv3, bv4, hls⟩, hB1⟩ hK
    dsimp only [Wd.enc] at hK ⊢
    gi_wp2
    exact hK _ _ ((KeepsOthers.alloc _ _).from _) ⟨(Below.refl _ W).alloc hB1.size _, keepsT_alloc _ _⟩ ⟨⟨vo, bv3.alloc _, bv4.alloc _, hls.kept (World.grownBy_alloc W _ none) (fun r e => by cases e)⟩, hB1.alloc hB1.size _⟩ ⟨W.heap.size, bv4.lt, heap_alloc_new W _, rfl⟩
  case body =>
    rintro l pre ⟨⟨xp, xq, xt⟩, hq⟩ a' W hl ⟨r, hr⟩ ⟨⟨vo, bv3, bv4, hls⟩, hB1⟩ ⟨Bx, hBx, bX, rfl⟩ hlt
    dsimp only [Wd.enc] at bX ⊢
    have hx0 : W.cell? ⟨Bx, 0, none⟩ = some (.int .i64 xp) := by simp [World.cell?, bX]
    have hx1 : W.cell? ⟨Bx, 1, none⟩ = some (.int .i64 xq) := by simp [World.cell?, bX]
    have hx2 : W.cell? ⟨Bx, 2, none⟩ = some (.string xt) := by simp [World.cell?, bX]
    have hc3 := bv3.cell
    have hc4 := bv4.cell
    have hf3 := bv3.frozen
    have hf4 := bv4.frozen
    have hmap : (pre ++ [(⟨⟨xp, xq, xt⟩, hq⟩ : Wq)]).map Subtype.val = pre.map Subtype.val ++ [⟨xp, xq, xt⟩] := by simp
    have hplen : (pre.map Subtype.val).length < (textW s).length := by rw [List.length_map]; exact hlt
    have HMAP := Lib.hid hmap
    clear hmap
    generalize pre.map Subtype.val = P at *
    obtain ⟨ql, hql⟩ : ∃ q, lastq P = q := ⟨_, rfl⟩
    rw [hql] at bv4 hc4
    have HQL := Lib.hid hql
    clear hql
    gi_upto_if 12 with (fail)
    obtain ⟨bq, hbq⟩ : ∃ b, (xq != ql) = b := ⟨_, rfl⟩
    rw [hbq]
    have HBQ := Lib.hid hbq
    clear hbq
    gi_cut [13] from 33 (fun _ W' => ∃ G g V v hs vo, Hid (lns (P ++ [⟨xp, xq, xt⟩]) = G ++ [g ++ [⟨xp, xq, xt⟩]]) ∧ G.length ≤ P.length ∧ g.length ≤ P.length ∧ Boxed W' w.heap.size 71 vo ∧ Boxed W' (w.heap.size + 1) 3 (.int .i64 xq) ∧
      MS w.heap.size 73 77 G g V v hs vo W' ∧ W'.heap[Bx]? = some (.cells #[.int .i64 xp, .int .i64 xq, .string xt] 77 (0, 0)) ∧ KeepsOthers W W' ∧ KeepsW w.heap.size W W' ∧ Below w.heap.size w W')
    case first =>
      rcases hls with ⟨hp0, rfl⟩ | ⟨G, g, y, V, v, hs', h1, h2, h3, h4, hms⟩
      · subst hp0
        have hl0 : ql = 0 := HQL.out.symm
        obtain rfl : bq = true := by rw [← HBQ.out, hl0]; have := hq.1; simp at this ⊢; omega
        clear hl0
        have hrow := World.ownsRow_nil W w.heap.size 73 1
        gi_wp2_with (gi_at_builtin; refine wpListIn_append_own _ rfl _ _ 71 rfl w.heap.size 73 j0 _ 1 24 Tryd.underlying71 hj hy0 hy1 hy2 rfl (by decide) _ 0 [] rfl (hrow.alloc _) ⟨W.heap.size, 0, none⟩ 1 1 [.slice none 0 0] rfl rfl (cell_one_new _ _ _) (by simp [Value.oneCell']) (by unfold maxLen; omega) (by omega) (by have := hB1.size; simp; omega) ?_; intro v' w1 hown' hgrow _; obtain ⟨g', cap', rfl⟩ := ownsRow_succ hown'; obtain ⟨n1, n2, n3, n4, n5, n6, n7⟩ := new_line (q := 9) (vo' := .slice (some ⟨g', 0, none⟩) (0 + 1) cap') bv3 bv4 bX hrow hB1.size hgrow (by decide) (by decide) (by decide) (by decide) (by decide) (by decide); have hc1 := n1.cell; have hf1 := n1.frozen; have hx1' := cell_of_row _ Bx 1 _ _ _ n4; have hc4' := n3.cell; have hf4' := n3.frozen)
        obtain ⟨l1, l2, l3, l4, l5, l6, l7⟩ := new_last (q := 9) n2 n3 n4 (by decide) (by decide) (by decide) (.int .i64 xq) ((ms_first hown' (by have h9 := hgrow.size; have := hB1.size; simp at h9; omega)).set n1 (by decide) (by decide) (.slice (some ⟨g', 0, none⟩) (0 + 1) cap'))
        gi_meet
        exact ⟨[], [], [], .slice none 0 0, _, _, Lib.hid rfl, by simp, by simp, l1, l2, l4, l3, n5.trans l5, ⟨n7.trans l7, keepsT_t n6 l6⟩, hB1.trans (n7.trans l7)⟩
      · have hql : lastq P = y.q := by unfold lastq; rw [h2]
        have hyl : ql = y.q := HQL.out.symm.trans hql
        clear hql
        cases hbq : bq with
        | false =>
          subst hbq
          have hyq : y.q = xq := by have := HBQ.out; simp at this; omega
          subst hyl
          clear HQL HBQ
          gi_wp2
          gi_meet
          exact ⟨G, g ++ [y], V, v, hs', vo, Lib.hid (lns_same h1 hyq), by omega, by simp; omega, bv3, (hyq ▸ bv4), hms, bX, KeepsOthers.refl _, ⟨Below.refl _ _, keepsT_r _ _⟩, hB1⟩
        | true =>
          subst hbq
          have hyq : y.q ≠ xq := by have := HBQ.out; simp at this; omega
          clear hyl
          have hrow := hms.out
          have HLN := Lib.hid hms.len
          gi_wp2_with (gi_at_builtin; refine wpListIn_append_own _ rfl _ _ 71 rfl w.heap.size 73 j0 _ 1 24 Tryd.underlying71 hj hy0 hy1 hy2 rfl (by decide) _ (V.length + 1) (V ++ [v]) rfl (hrow.alloc _) ⟨W.heap.size, 0, none⟩ 1 1 [.slice none 0 0] rfl rfl (cell_one_new _ _ _) (by simp [Value.oneCell']) (by have := HLN.out; unfold maxLen; omega) (by have := HLN.out; omega) (by have := hB1.size; simp; omega) ?_; intro v' w1 hown' hgrow _; obtain ⟨g', cap', rfl⟩ := ownsRow_succ hown'; obtain ⟨n1, n2, n3, n4, n5, n6, n7⟩ := new_line (q := 9) (vo' := .slice (some ⟨g', 0, none⟩) (V.length + 1 + 1) cap') bv3 bv4 bX hrow hB1.size hgrow (by decide) (by decide) (by decide) (by decide) (by decide) (by decide); have hc1 := n1.cell; have hf1 := n1.frozen; have hx1' := cell_of_row _ Bx 1 _ _ _ n4; have hc4' := n3.cell; have hf4' := n3.frozen)
          obtain ⟨l1, l2, l3, l4, l5, l6, l7⟩ := new_last (q := 9) n2 n3 n4 (by decide) (by decide) (by decide) (.int .i64 xq) ((hms.next (by decide) hgrow hown').set n1 (by decide) (by decide) (.slice (some ⟨g', 0, none⟩) (V.length + 1 + 1) cap'))
          gi_meet
          exact ⟨G ++ [g ++ [y]], [], V ++ [v], .slice none 0 0, _, _, Lib.hid (lns_new h1 hyq), by simp; omega, by simp, l1, l2, l4, l3, n5.trans l5, ⟨n7.trans l7, keepsT_t n6 l6⟩, hB1.trans (n7.trans l7)⟩
    case rest =>
      obtain ⟨G, g, V, v, hs', vo, HL, hG, hg, c3, c4, hms, cX, hko, hkw, hB2⟩ := hcut
      obtain ⟨bo, cap, rfl, hbo1, hbo2, hcb, hfb⟩ := hms.at
      obtain ⟨A, c, rfl⟩ := hms.val
      have HLN := Lib.hid hms.len
      have hkb : V.length ≤ 65537 := by rw [HLN.out]; omega
      have HMS := Lib.hid hms
      have hcur := hms.cur
      obtain ⟨k, hk⟩ : ∃ k, V.length = k := ⟨_, rfl⟩
      rw [hk] at c3 hcb hfb hkb
      have HK := Lib.hid hk
      obtain ⟨gl, hgl⟩ : ∃ k, g.length = k := ⟨_, rfl⟩
      rw [hgl] at hcb hcur
      have HGL := Lib.hid hgl
      have hcurd : wc.drew.ownsRow hs' 77 3 (.slice A gl c) gl (g.flatMap Wd.cells) := hcur
      have HCUR := Lib.hid hcurd
      clear hcur hcurd
      have hgb : gl ≤ 65537 := by rw [← hgl]; omega
      clear hk hms hgl
      have hk1 : IntKind.i64.wrap (k : Int) = (k : Int) := by rw [IntKind.wrap_i64]; omega
      have hk2 : (k : Int) < (k : Int) + 1 := by omega
      have hcd : wc.drew.cell? ⟨bo, k, none⟩ = some (.slice A gl c) := hcb
      have d3 : Boxed wc.drew w.heap.size 71 (.slice (some ⟨bo, 0, none⟩) (k + 1) cap) := c3
      have d4 : Boxed wc.drew (w.heap.size + 1) 3 (.int .i64 xq) := c4
      have hx0' : wc.drew.cell? ⟨Bx, 0, none⟩ = some (.int .i64 xp) := cell_of_row _ Bx 0 _ _ _ cX
      have hx1' : wc.drew.cell? ⟨Bx, 1, none⟩ = some (.int .i64 xq) := cell_of_row _ Bx 1 _ _ _ cX
      have hx2' : wc.drew.cell? ⟨Bx, 2, none⟩ = some (.string xt) := cell_of_row _ Bx 2 _ _ _ cX
      have hS0 : wc.drew.cell? ⟨w.heap.size, 0, none⟩ = some (.slice (some ⟨bo, 0, none⟩) (k + 1) cap) := c3.cell
      gi_upto_region 8 with (fail)
      refine wpIn_region_plain (S := fun W' => W'.cell? ⟨w.heap.size, 0, none⟩ = some (.slice (some ⟨bo, 0, none⟩) (k + 1) cap)) (by kernel_rfl) (by kernel_rfl) (by rintro ⟨_, _, h⟩; exact h) ?_
      refine wpAnyH_take (i := 0) (v := ?_) rfl (by kernel_rfl) (by kernel_rfl) (by kernel_rfl) (fun _ _ _ h => h) (Or.inl ⟨by rfl, fun W' hS => ?_⟩) hS0 ?_
      rotate_left
      · go_simp
        try with_reducible rfl
      refine wpAnyH_take (i := 1) (v := ?_) rfl (by kernel_rfl) (by kernel_rfl) (by kernel_rfl) (fun _ _ _ h => h) (Or.inl ⟨by rfl, fun W' hS => ?_⟩) hS0 ?_
      rotate_left
      · go_simp
        try with_reducible rfl
      refine wpAnyH_take (i := 2) (v := ?_) rfl (by kernel_rfl) (by kernel_rfl) (by kernel_rfl) (fun _ _ _ h => h) (Or.inl ⟨by rfl, fun W' hS => ?_⟩) hS0 ?_
      rotate_left
      · go_simp
        try with_reducible rfl
      refine wpAnyH_take (i := 3) (v := ?_) rfl (by kernel_rfl) (by kernel_rfl) (by kernel_rfl) (fun _ _ _ h => h) (Or.inl ⟨by rfl, fun W' hS => ?_⟩) hS0 ?_
      rotate_left
      · go_simp
        try with_reducible rfl
      refine wpAnyH_take (i := 4) (v := ?_) rfl (by kernel_rfl) (by kernel_rfl) (by kernel_rfl) (fun _ _ _ h => h) (Or.inl ⟨by rfl, fun W' hS => ?_⟩) hS0 ?_
      rotate_left
      · go_simp
        try with_reducible rfl
      refine wpAnyH_take (i := 5) (v := ?_) rfl (by kernel_rfl) (by kernel_rfl) (by kernel_rfl) (fun _ _ _ h => h) (Or.inl ⟨by rfl, fun W' hS => ?_⟩) hS0 ?_
      rotate_left
      · go_simp
        try with_reducible rfl
      refine wpAnyH_take (i := 6) (v := ?_) rfl (by kernel_rfl) (by kernel_rfl) (by kernel_rfl) (fun _ _ _ h => h) (Or.inl ⟨by rfl, fun W' hS => ?_⟩) hS0 ?_
      rotate_left
      · go_simp
        try with_reducible rfl
      refine wpAnyH_take (i := 7) (v := ?_) rfl (by kernel_rfl) (by kernel_rfl) (by kernel_rfl) (fun _ _ _ h => h) (Or.inl ⟨by rfl, fun W' hS => ?_⟩) hS0 ?_
      rotate_left
      · go_simp
        try with_reducible rfl
      refine wpAnyH_take (i := 8) (v := ?_) rfl (by kernel_rfl) (by kernel_rfl) (by kernel_rfl) (fun _ _ _ h => h) (Or.inl ⟨by rfl, fun W' hS => ?_⟩) hS0 ?_
      rotate_left
      · go_simp
        try with_reducible rfl
      refine wpAnyH_ready (rs := [9, 10]) (by kernel_rfl) (by simp) ?_
      refine AllReadyH.cons rfl (fun K9 hK9 => ?_) (AllReadyH.cons rfl (fun K9 hK9 => ?_) AllReadyH.nil)
      · skip
        go_simp
        refine hK9.out _ _ (by first | exact hS0 | exact hS1) (fun _ => ?_)
        refine wpAnyH_ready (rs := [10]) (by kernel_rfl) (by simp) ?_
        refine AllReadyH.cons rfl (fun K9 hK9 => ?_) AllReadyH.nil
        go_simp
        refine hK9.out _ _ hS0 (fun _ => ?_)
        refine wpAnyH_ready (rs := [11]) (by kernel_rfl) (by simp) ?_
        refine AllReadyH.cons rfl (fun K9 hK9 => ?_) AllReadyH.nil
        go_simp
        have hS1 := (d3.alloc (.cells #[.int .i64 xp, .int .i64 xq, .string xt] 77)).cell
        have hcd1 : (wc.drew.alloc (.cells #[.int .i64 xp, .int .i64 xq, .string xt] 77)).cell? ⟨bo, k, none⟩ = some (.slice A gl c) := (World.cell?_alloc_lt _ _ _ hbo2).trans hcd
        refine hK9.out _ _ hS1 (fun _ => ?_)
        refine wpAnyH_ready (rs := [12]) (by kernel_rfl) (by simp) ?_
        refine AllReadyH.cons rfl (fun K9 hK9 => ?_) AllReadyH.nil
        refine step_append_lies _ (by rfl) (.tmp 27) (.tmp 29) 73 (by rfl) hs' 77 i0 _ 3 32 Tryd.underlying73 hi hz0 hz1 hz2 rfl (by decide) (.slice A gl c) gl (g.flatMap Wd.cells) (by rfl) ((HCUR.out).alloc _) ⟨wc.heap.size, 0, none⟩ 1 1 [.int .i64 xp, .int .i64 xq, .string xt] (by rfl) rfl (three_new wc.drew _ _ _ _) (by simp [Value.oneCell']) (by decide) (by unfold maxLen; omega) (by omega) (by have := HMS.out.high; simp; omega) _ rfl ?_
        intro g' cap' w1 hown' hgrow _ _
        have hgrow2 : (wc.drew.alloc (.cells #[.int .i64 xp, .int .i64 xq, .string xt] 77)).grownBy w1 (Value.slice A g.length c).ownBlock := by rw [HGL.out]; exact hgrow
        obtain ⟨_, m2, m3⟩ := HMS.out.drew.mid (by decide) hgrow2
        have nw := new_word (q := 9) (x := ⟨xp, xq, xt⟩) d3 d4 HMS.out.drew hB2.size hgrow2 (by rw [HGL.out]; exact hown') (by decide) (by decide) (by decide) (by decide) (by decide) (by decide) (by decide)
        rw [HK.out] at m2 m3 nw
        obtain ⟨nw1, nw2, nw3, nw4, nw5, nw6⟩ := nw
        have e3 := boxed_other (d3.alloc _) (HCUR.out.alloc _) (by decide) hgrow
        refine hK9.out _ _ e3.cell (fun _ => ?_)
        clear hK9 K9
        refine wpAnyH_ready (rs := [13]) (by kernel_rfl) (by simp) ?_
        refine AllReadyH.cons rfl (fun K9 hK9 => ?_) AllReadyH.nil
        go_simp
        refine hK9.out _ _ e3.cell (fun _ => ?_)
        clear hK9 K9
        refine wpAnyH_ready (rs := [14]) (by kernel_rfl) (by simp) ?_
        refine AllReadyH.cons rfl (fun K9 hK9 => ?_) AllReadyH.nil
        go_simp
        refine hK9.out _ _ nw2.cell (fun _ => ?_)
        refine wpAnyH_done (by kernel_rfl) ?_ _
        refine ⟨((hko.trans (KeepsOthers.drew _)).trans nw4).from _, keepsW_t hkw ⟨((Below.refl _ wc).drew).trans nw6, fun k cs fr h => nw5 k cs fr h⟩, ⟨_, nw2, ?_, ?_⟩, hB2.drew.trans nw6⟩
        · rw [HMAP.out, lastq_snoc]; exact nw3
        · rw [HMAP.out]; exact .inr ⟨G, g, ⟨xp, xq, xt⟩, V, _, hs', HL.out, by simp, by simp; omega, by have := HGL.out; simp; omega, nw1⟩
      · skip
        go_simp
        refine hK9.out _ _ hS0 (fun _ => ?_)
        refine wpAnyH_ready (rs := [9, 11]) (by kernel_rfl) (by simp) ?_
        refine AllReadyH.cons rfl (fun K9 hK9 => ?_) (AllReadyH.cons rfl (fun K9 hK9 => ?_) AllReadyH.nil)
        · skip
          go_simp
          refine hK9.out _ _ (by first | exact hS0 | exact hS1) (fun _ => ?_)
          refine wpAnyH_ready (rs := [11]) (by kernel_rfl) (by simp) ?_
          refine AllReadyH.cons rfl (fun K9 hK9 => ?_) AllReadyH.nil
          go_simp
          have hS1 := (d3.alloc (.cells #[.int .i64 xp, .int .i64 xq, .string xt] 77)).cell
          have hcd1 : (wc.drew.alloc (.cells #[.int .i64 xp, .int .i64 xq, .string xt] 77)).cell? ⟨bo, k, none⟩ = some (.slice A gl c) := (World.cell?_alloc_lt _ _ _ hbo2).trans hcd
          refine hK9.out _ _ hS1 (fun _ => ?_)
          refine wpAnyH_ready (rs := [12]) (by kernel_rfl) (by simp) ?_
          refine AllReadyH.cons rfl (fun K9 hK9 => ?_) AllReadyH.nil
          refine step_append_lies _ (by rfl) (.tmp 27) (.tmp 29) 73 (by rfl) hs' 77 i0 _ 3 32 Tryd.underlying73 hi hz0 hz1 hz2 rfl (by decide) (.slice A gl c) gl (g.flatMap Wd.cells) (by rfl) ((HCUR.out).alloc _) ⟨wc.heap.size, 0, none⟩ 1 1 [.int .i64 xp, .int .i64 xq, .string xt] (by rfl) rfl (three_new wc.drew _ _ _ _) (by simp [Value.oneCell']) (by decide) (by unfold maxLen; omega) (by omega) (by have := HMS.out.high; simp; omega) _ rfl ?_
          intro g' cap' w1 hown' hgrow _ _
          have hgrow2 : (wc.drew.alloc (.cells #[.int .i64 xp, .int .i64 xq, .string xt] 77)).grownBy w1 (Value.slice A g.length c).ownBlock := by rw [HGL.out]; exact hgrow
          obtain ⟨_, m2, m3⟩ := HMS.out.drew.mid (by decide) hgrow2
          have nw := new_word (q := 9) (x := ⟨xp, xq, xt⟩) d3 d4 HMS.out.drew hB2.size hgrow2 (by rw [HGL.out]; exact hown') (by decide) (by decide) (by decide) (by decide) (by decide) (by decide) (by decide)
          rw [HK.out] at m2 m3 nw
          obtain ⟨nw1, nw2, nw3, nw4, nw5, nw6⟩ := nw
          have e3 := boxed_other (d3.alloc _) (HCUR.out.alloc _) (by decide) hgrow
          refine hK9.out _ _ e3.cell (fun _ => ?_)
          clear hK9 K9
          refine wpAnyH_ready (rs := [13]) (by kernel_rfl) (by simp) ?_
          refine AllReadyH.cons rfl (fun K9 hK9 => ?_) AllReadyH.nil
          go_simp
          refine hK9.out _ _ e3.cell (fun _ => ?_)
          clear hK9 K9
          refine wpAnyH_ready (rs := [14]) (by kernel_rfl) (by simp) ?_
          refine AllReadyH.cons rfl (fun K9 hK9 => ?_) AllReadyH.nil
          go_simp
          refine hK9.out _ _ nw2.cell (fun _ => ?_)
          refine wpAnyH_done (by kernel_rfl) ?_ _
          refine ⟨((hko.trans (KeepsOthers.drew _)).trans nw4).from _, keepsW_t hkw ⟨((Below.refl _ wc).drew).trans nw6, fun k cs fr h => nw5 k cs fr h⟩, ⟨_, nw2, ?_, ?_⟩, hB2.drew.trans nw6⟩
          · rw [HMAP.out, lastq_snoc]; exact nw3
          · rw [HMAP.out]; exact .inr ⟨G, g, ⟨xp, xq, xt⟩, V, _, hs', HL.out, by simp, by simp; omega, by have := HGL.out; simp; omega, nw1⟩
        · skip
          go_simp
          have hS1 := (d3.alloc (.cells #[.int .i64 xp, .int .i64 xq, .string xt] 77)).cell
          have hcd1 : (wc.drew.alloc (.cells #[.int .i64 xp, .int .i64 xq, .string xt] 77)).cell? ⟨bo, k, none⟩ = some (.slice A gl c) := (World.cell?_alloc_lt _ _ _ hbo2).trans hcd
          refine hK9.out _ _ hS1 (fun _ => ?_)
          refine wpAnyH_ready (rs := [9]) (by kernel_rfl) (by simp) ?_
          refine AllReadyH.cons rfl (fun K9 hK9 => ?_) AllReadyH.nil
          go_simp
          refine hK9.out _ _ (by first | exact hS0 | exact hS1) (fun _ => ?_)
          refine wpAnyH_ready (rs := [12]) (by kernel_rfl) (by simp) ?_
          refine AllReadyH.cons rfl (fun K9 hK9 => ?_) AllReadyH.nil
          refine step_append_lies _ (by rfl) (.tmp 27) (.tmp 29) 73 (by rfl) hs' 77 i0 _ 3 32 Tryd.underlying73 hi hz0 hz1 hz2 rfl (by decide) (.slice A gl c) gl (g.flatMap Wd.cells) (by rfl) ((HCUR.out).alloc _) ⟨wc.heap.size, 0, none⟩ 1 1 [.int .i64 xp, .int .i64 xq, .string xt] (by rfl) rfl (three_new wc.drew _ _ _ _) (by simp [Value.oneCell']) (by decide) (by unfold maxLen; omega) (by omega) (by have := HMS.out.high; simp; omega) _ rfl ?_
          intro g' cap' w1 hown' hgrow _ _
          have hgrow2 : (wc.drew.alloc (.cells #[.int .i64 xp, .int .i64 xq, .string xt] 77)).grownBy w1 (Value.slice A g.length c).ownBlock := by rw [HGL.out]; exact hgrow
          obtain ⟨_, m2, m3⟩ := HMS.out.drew.mid (by decide) hgrow2
          have nw := new_word (q := 9) (x := ⟨xp, xq, xt⟩) d3 d4 HMS.out.drew hB2.size hgrow2 (by rw [HGL.out]; exact hown') (by decide) (by decide) (by decide) (by decide) (by decide) (by decide) (by decide)
          rw [HK.out] at m2 m3 nw
          obtain ⟨nw1, nw2, nw3, nw4, nw5, nw6⟩ := nw
          have e3 := boxed_other (d3.alloc _) (HCUR.out.alloc _) (by decide) hgrow
          refine hK9.out _ _ e3.cell (fun _ => ?_)
          clear hK9 K9
          refine wpAnyH_ready (rs := [13]) (by kernel_rfl) (by simp) ?_
          refine AllReadyH.cons rfl (fun K9 hK9 => ?_) AllReadyH.nil
          go_simp
          refine hK9.out _ _ e3.cell (fun _ => ?_)
          clear hK9 K9
          refine wpAnyH_ready (rs := [14]) (by kernel_rfl) (by simp) ?_
          refine AllReadyH.cons rfl (fun K9 hK9 => ?_) AllReadyH.nil
          go_simp
          refine hK9.out _ _ nw2.cell (fun _ => ?_)
          refine wpAnyH_done (by kernel_rfl) ?_ _
          refine ⟨((hko.trans (KeepsOthers.drew _)).trans nw4).from _, keepsW_t hkw ⟨((Below.refl _ wc).drew).trans nw6, fun k cs fr h => nw5 k cs fr h⟩, ⟨_, nw2, ?_, ?_⟩, hB2.drew.trans nw6⟩
          · rw [HMAP.out, lastq_snoc]; exact nw3
          · rw [HMAP.out]; exact .inr ⟨G, g, ⟨xp, xq, xt⟩, V, _, hs', HL.out, by simp, by simp; omega, by have := HGL.out; simp; omega, nw1⟩
  case done =>
    rintro D ys W hD hys ⟨⟨vo, bv3, bv4, hls⟩, hB1⟩ hK
    have hc := bv3.cell
    gi_wp2
    refine ⟨by simp, .inl ⟨_, _, rfl, run_takeDeferred hK, ?_⟩⟩
    exact ⟨_, results_tmp rfl _ _ _, vo, rfl, hys ▸ hls.kept (grownBy_putObj' W D _) (fun r e => by cases e; exact ⟨_, hK, rfl⟩), hB1.trans (belowK_b (w := w) (Nat.le_refl _) W D _ _ (by omega) hK rfl rfl)⟩
  case stop =>
    rintro D c pre W _ _ h _
    exact h.elim

end Go.Proofs.YtnejkfccdnadcaaDoor
