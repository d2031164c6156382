/- lex.words: the iterator's word. -/
import Derived.Test.YtnejkfccdnadcaaDoorLexB
import Derived.Maps.AppendAt
namespace Go.Proofs.YtnejkfccdnadcaaDoor
open Go.RowKit Go.Shelf Go.Lib

attribute [local go_sem] Oper.semAt_some

def Wd.cells (x : Wd) : List Value := [.int .i64 x.p, .int .i64 x.q, .string x.t]

/-- The words of a text. -/
def textW (s : ByteArray) : List Wd := linesW 0 1 (Lib.splitB ⟨#[10]⟩ 0 (Lib.countB s ⟨#[10]⟩) s)

theorem keepsT_alloc {q : TypeId} (W : World) (o : Obj) : KeepsT q W (W.alloc o) := fun k _ _ h => (Below.heap_alloc W o k (lt_of_block h)).trans h

theorem keepsT_appended {W w1 : World} {n₀ B : Nat} {t e q : TypeId} {size : Nat} {v : Value} {k : Nat} {xs : List Value} {tmp : Obj} (hqt : q ≠ t) (hqe : q ≠ e)
    (hv : Boxed W B t v) (hrow : W.ownsRow n₀ e size v k xs) (hgrow : (W.alloc tmp).grownBy w1 v.ownBlock) (v' : Value) : KeepsT q W (w1.setCell ⟨B, 0, none⟩ v') := by
  intro j cs fr h
  have hjB : j ≠ B := by
    rintro rfl
    have : W.heap[j]? = some (.cells #[v] t (0, 0)) := hv
    rw [h] at this
    cases this
    exact hqt rfl
  have hjo : some j ≠ v.ownBlock := by
    intro e1
    rcases hrow.2 with ⟨rfl, _⟩ | ⟨g, cap, cur, rfl, _, hgb, _⟩
    · simp [Value.ownBlock] at e1
    · have : j = g := by simpa [Value.ownBlock] using e1
      subst this
      rw [h] at hgb
      cases hgb
      exact hqe rfl
  have h1 := keepsT_alloc W tmp j cs fr h
  have h2 := (hgrow.block j (lt_of_block h1) hjo).trans h1
  exact (Below.heap_setCell w1 _ _ j hjB).trans h2

set_option maxHeartbeats 1000000 in
/-- lex.words(s): the text is boxed; the function value captures the box. -/
theorem words_in (n : Nat) (s : ByteArray) (w : World) :
    CallsIn Fence.wide n Tryd.prog 34 #[.string s] w fun e w' => e = .returned (.func (.func 41) #[] #[.pointer (some ⟨w.heap.size, 0, none⟩)]) ∧ w' = w.alloc (.cells #[.string s] 9) := by
  refine callsIn_of_wp Tryd.func34 rfl trivial ?_ rfl
  simp only [Tryd.ntmps34, List.size_toArray, List.length_cons, List.length_nil, Nat.reduceAdd, Nat.reduceSub, Array.replicate_succ, Array.replicate_zero, List.push_toArray, List.append_toArray, List.nil_append, List.cons_append]
  gi_wp2
  go_ret
  exact ⟨rfl, rfl⟩

/-- What lex.words hands back yields the words of the text, in order. -/
theorem words_stops (Bs n₀ : Nat) (s : ByteArray) (hs : s.size ≤ 65536) (m : Int) (w : World)
    (hsum : ((Lib.splitB ⟨#[10]⟩ 0 (Lib.countB s ⟨#[10]⟩) s).map fun x => x.size + 1).sum ≤ 1000000) (hLl : (Lib.splitB ⟨#[10]⟩ 0 (Lib.countB s ⟨#[10]⟩) s).length ≤ 1000000)
    (hmn : 1 < n₀) (hn : n₀ ≤ w.heap.size) (hBl : Bs < w.heap.size) (hBs : w.cell? ⟨Bs, 0, none⟩ = some (.string s))
    (hm : w.cell? ⟨1, 0, none⟩ = some (.int .i64 m)) :
    SeqStopsK Fence.wide 1 Tryd.prog 41 #[.pointer (some ⟨Bs, 0, none⟩)] (fun x : Wd => #[x.enc]) (KeepsW n₀) (fun ys => ys = textW s) (fun pre => pre <+: textW s) (textW s).length w := fun l J Jx W hW hJ _ hY h0 =>
  words1_in l Bs n₀ s hs m _ rfl hsum hLl J Jx hmn (textW s) rfl (fun pre x W1 hj hp => hY pre x W1 hj (by have := hp.length_le; simp at this; omega)) W hJ ((hW.cell (p := ⟨Bs, 0, none⟩) hBl).trans hBs) (Nat.le_trans hn hW.size)
    ((hW.cell (p := ⟨1, 0, none⟩) (by simp; omega)).trans hm) h0

theorem infoW : (Tryd.prog.info? 77).map (fun i => (i.zero, i.size, i.bytes)) = some (some (.agg #[.int .i64 0, .int .i64 0, .string ⟨#[]⟩]), 3, 32) := by kernel_rfl

theorem three_new (W : World) (a b c : Value) (t : TypeId) : ∀ (j : Nat) (u : Value), [a, b, c][j]? = some u → (W.alloc (.cells #[a, b, c] t)).cell? (Addr.add ⟨W.heap.size, 0, none⟩ j) = some u := by
  intro j u h
  have hb := heap_alloc_new W (.cells #[a, b, c] t)
  generalize W.alloc (.cells #[a, b, c] t) = W1 at hb ⊢
  rcases j with _ | _ | _ | j
  · simpa [World.cell?, Addr.add, hb] using h
  · simpa [World.cell?, Addr.add, hb] using h
  · simpa [World.cell?, Addr.add, hb] using h
  · simp at h

theorem ownsRow_base {w : World} {b c : Nat} {e : TypeId} {size : Nat} {v : Value} {n : Nat} {xs : List Value} (h : w.ownsRow b e size v n xs) (hc : c ≤ b) : w.ownsRow c e size v n xs := by
  obtain ⟨h1, h2⟩ := h
  refine ⟨h1, ?_⟩
  rcases h2 with h2 | ⟨g, cap, cur, hv, hg, r⟩
  · exact .inl h2
  · exact .inr ⟨g, cap, cur, hv, Nat.le_trans hc hg, r⟩

theorem cell_lt {w : World} {p : Addr} {v : Value} (h : w.cell? p = some v) : p.block < w.heap.size := by
  obtain ⟨o, ho, _⟩ := not_walk_of_cell h
  exact (Array.getElem?_eq_some_iff.1 ho).1

theorem splitB_sum : ∀ (k : Nat) (s : ByteArray), ((Lib.splitB ⟨#[10]⟩ 0 k s).map fun x => x.size + 1).sum ≤ s.size + 1 := by
  intro k
  induction k with
  | zero => intro s; simp [Lib.splitB_zero]
  | succ k ih =>
    intro s
    rcases indexB_cases s ⟨#[10]⟩ with hix | ⟨i, hix, hroom⟩
    · rw [Lib.splitB_miss _ _ _ _ hix]; simp
    · rw [Lib.splitB_hit _ _ _ _ i hix]
      have h1 : (ByteArray.mk #[10]).size = 1 := rfl
      rw [h1] at hroom ⊢
      have h2 := ih (s.extract (i + 1) s.size)
      simp at h2 ⊢
      omega

theorem sum_len (L : List ByteArray) : L.length ≤ (L.map fun x => x.size + 1).sum := by
  induction L with
  | nil => simp
  | cons x L ih => simp at ih ⊢; omega

theorem lw_len (q : Nat) : ∀ (k p : Nat) (l : List UInt8), (lw k p q l).length ≤ k := by
  intro k
  induction k with
  | zero => intro p l; exact Nat.le_refl 0
  | succ k ih =>
    intro p l
    cases l with
    | nil => exact Nat.zero_le _
    | cons c l =>
      unfold lw
      rw [List.length_append]
      have := ih (p + ((c :: l).length - ((c :: l).dropWhile ws).length) + (((c :: l).dropWhile ws).takeWhile nws).length) (((c :: l).dropWhile ws).drop (((c :: l).dropWhile ws).takeWhile nws).length)
      split
      · rw [List.length_nil]; omega
      · rw [List.length_singleton]; omega

theorem linesW_len : ∀ (L : List ByteArray) (f q : Nat), (linesW f q L).length ≤ (L.map fun x => x.size + 1).sum := by
  intro L
  induction L with
  | nil => intro f q; exact Nat.le_refl 0
  | cons x L ih =>
    intro f q
    unfold linesW
    rw [List.length_append]
    have h1 := lw_len q (Lib.cut x.data.toList [35]).1.length f (Lib.cut x.data.toList [35]).1
    have h2 := cut_len x.data.toList [35]
    rw [← Lib.size_eq] at h2
    have h3 := ih (f + x.size + 1) (q + 1)
    unfold lwc
    simp at h3 ⊢
    omega

theorem textW_len (s : ByteArray) : (textW s).length ≤ s.size + 1 := Nat.le_trans (linesW_len _ _ _) (splitB_sum _ s)

end Go.Proofs.YtnejkfccdnadcaaDoor
