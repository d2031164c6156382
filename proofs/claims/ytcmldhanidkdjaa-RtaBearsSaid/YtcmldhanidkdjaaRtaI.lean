/- rta.Points: a map of points, its keys sorted. -/
import Derived.Test.YtcmldhanidkdjaaRtaH
import Derived.Test.YtcmldhanidkdjaaSortShelf
import Derived.Maps.OwnSet
import Derived.Maps.OwnOps
import Derived.Shelf.SlIterI.Nil
import Derived.Shelf.SlIterI.Sorted
namespace Go.Proofs.Ytcmldhanidkdjaa
open Go.RowKit Go.Shelf Go.Maps

/-- A map literal's entry, put in. -/
theorem wpList_insert_own {H : Type} {P : Program} (w : World) {ops : Array Oper} {rest : List Oper} {o : Oper} {a : Act} {Q : Exit → Act → World → Prop}
    (hg : o.guard = none) (m x v : Operand) (t : TypeId) (hop : o.op = Op.insert t m x v)
    (k e : TypeId) (K : Keyed P k) (ht : P.underlying t = some (.map k e)) (R : Value → Option (DataW H × List MemPlace)) (b n : Nat) (D : DataW H)
    (hm : a.eval m = .map (some b)) (hown : w.ownsMap P k R b n D) (hn : n < maxLen) (key val : Value) (kl : Lit) (hx : a.eval x = key) (hv : a.eval v = val) (hkey : keyOf P k key = some kl)
    (d : DataW H) (ps : List MemPlace) (hval : R val = some (d, ps))
    (hK : ∀ w', w'.ownsMap P k R b (n + 1) (D.put kl d) → w.grownBy w' (some b) → wpList P ops Q rest (a.put o.dst undef) w') :
    wpList P ops Q (o :: rest) a w := by
  refine wpList_plain hg fun K' hK' => ?_
  obtain ⟨w', hrun, r1, r2⟩ := hown.update K ht hn hkey hval
  unfold Oper.wp
  simp [execOp, hop, hm, hx, hv, hrun, Result.andThen]
  exact hK' _ _ (hK w' r1 r2)

theorem keyed64 : Keyed Try.prog 2 := int_keyed Try.underlying2

/-- The points that the first k demands give. -/
def PtK (L : List De) (most : Int) (k : Nat) (p : Int) : Prop := p = most ∨ (p < most ∧ ∃ x ∈ L.take k, ∃ j : Int, 1 ≤ j ∧ p = j * x.t)

/-- .. and the first j multiples of the next one. -/
def PtJ (L : List De) (most : Int) (k : Nat) (t : Int) (j : Nat) (p : Int) : Prop := PtK L most k p ∨ (p < most ∧ ∃ i : Int, 1 ≤ i ∧ i ≤ j ∧ p = i * t)

def OwnPts (w wr : World) (b n : Nat) (S : Int → Prop) : Prop :=
  ∃ D : DataW Unit, wr.ownsMap Try.prog 2 (plainElem Try.prog 4) b n D ∧ (∀ x, has D (.int .i64 x) = true ↔ S x) ∧ Below w.heap.size w wr

/-- One point more. -/
theorem OwnPts.put {D : DataW Unit} {S : Int → Prop} {y : Int} (hD : IsMap D) (h : ∀ x, has D (.int .i64 x) = true ↔ S x) :
    ∀ x, has (D.put (.int .i64 y) (.lit (.bool true))) (.int .i64 x) = true ↔ (S x ∨ x = y) := by
  intro x
  by_cases hx : x = y
  · subst hx
    rw [has_put_same hD (by simp [WideAt.IsKeyLit])]
    simp
  · rw [has_put_other (by intro e; injection e with _ e; exact hx e)]
    rw [h x]
    simp [hx]

theorem PtK.next {L : List De} {most : Int} {k : Nat} (hk : k < L.length) {j : Nat} {X : Int} (hX : X = ((j : Int) + 1) * L[k].t) (hm : most ≤ X) (ht : 1 ≤ L[k].t) (p : Int) :
    PtJ L most k L[k].t j p ↔ PtK L most (k + 1) p := by
  unfold PtJ PtK
  rw [List.take_succ_eq_append_getElem hk]
  constructor
  · rintro ((rfl | ⟨h1, x, hx, i, hi, rfl⟩) | ⟨h1, i, hi, hj, rfl⟩)
    · exact .inl rfl
    · exact .inr ⟨h1, x, List.mem_append_left _ hx, i, hi, rfl⟩
    · exact .inr ⟨h1, L[k], List.mem_append_right _ (List.mem_singleton.2 rfl), i, hi, rfl⟩
  · rintro (rfl | ⟨h1, x, hx, i, hi, rfl⟩)
    · exact .inl (.inl rfl)
    · rcases List.mem_append.1 hx with hx | hx
      · exact .inl (.inr ⟨h1, x, hx, i, hi, rfl⟩)
      · simp at hx
        subst hx
        refine .inr ⟨h1, i, hi, ?_, rfl⟩
        rcases Int.lt_or_le (j : Int) i with hlt | hle
        · have := Int.mul_le_mul_of_nonneg_right (show (j : Int) + 1 ≤ i by omega) (show 0 ≤ L[k].t by omega)
          omega
        · exact hle

theorem PtJ.next {L : List De} {most : Int} {k : Nat} {t : Int} {j : Nat} {X : Int} (hX : X = ((j : Int) + 1) * t) (hm : X < most) (p : Int) :
    (PtJ L most k t j p ∨ p = X) ↔ PtJ L most k t (j + 1) p := by
  unfold PtJ
  constructor
  · rintro ((h | ⟨h1, i, h2, h3, h4⟩) | rfl)
    · exact .inl h
    · exact .inr ⟨h1, i, h2, by omega, h4⟩
    · exact .inr ⟨hm, (j : Int) + 1, by omega, by omega, hX⟩
  · rintro (h | ⟨h1, i, h2, h3, h4⟩)
    · exact .inl (.inl h)
    · rcases Int.lt_or_le (j : Int) i with hlt | hle
      · exact .inr (by rw [h4, hX, show i = (j : Int) + 1 by omega])
      · exact .inl (.inr ⟨h1, i, h2, hle, h4⟩)

theorem keys_any (mb : Option Nat) (w : World) : Calls Try.prog 23 #[.map mb] w fun e w' =>
    e = .returned (.func (.func 28) #[] #[.pointer (some ⟨w.heap.size, 0, none⟩)]) ∧ w' = w.alloc (.cells #[.map mb] 49) :=
  (callsIn_wide (n := 5)).1 (AnyZI.keys_in Try.keysA Fence.wide 5 trivial rfl mb w)

theorem sorts_any (m : Nat) : AnyZI.SortsIn Try.prog Try.sortedA_ren Fence.wide m :=
  ⟨fun blk off cap ss W hH hblk hsz => callsIn_wide.2 (AnyM.slices_Sort_int Try.sortA blk off cap ss W hH hblk hsz),
   fun p cap W => callsIn_wide.2 (AnyM.slices_Sort_int_none Try.sortA p cap W)⟩

theorem sorted_any (b nn : Nat) (D0 : DataW Unit) (R : Value → Option (DataW Unit × List MemPlace)) (w : World) (hown : w.ownsMap Try.prog 2 R b nn D0) (hmax : Maps.size D0 ≤ maxLen) (hbytes : Maps.size D0 * 8 ≤ 140737488355328) :
    Calls Try.prog 22 #[.func (.func 28) #[] #[.pointer (some ⟨w.heap.size, 0, none⟩)]] (w.alloc (.cells #[.map (some b)] 49)) fun e w' =>
      ∃ (v : Value) (ss : List Int), e = .returned v ∧ ss.Perm (intKeys D0) ∧ w'.ownsRow (w.heap.size + 1) 2 1 v ss.length ((ss.mergeSort (fun x y => decide (x ≤ y))).map encZ) ∧ Below (w.heap.size + 1) (w.alloc (.cells #[.map (some b)] 49)) w' := by
  have hbl := hown.lt
  have hseq : SeqGives Fence.wide 2 Try.prog 28 #[.pointer (some ⟨w.heap.size, 0, none⟩)] encZ (fun ss => ss.Perm (intKeys D0)) (Maps.size D0) (w.alloc (.cells #[.map (some b)] 49)) :=
    AnyZI.keys_gives (ρ := Try.keysA_ren) { Try.keysA with } Fence.wide _ trivial rfl (by omega) w.heap.size b nn D0 _ (by simp) (by simp) (by
      obtain ⟨es, clock, hb, Ft, hs, hD⟩ := hown
      exact ⟨es, clock, (Below.heap_alloc _ _ b hbl).trans hb, Ft, hs, hD⟩)
  have cS := AnyZI.sorted_in Try.sortedA Fence.wide 5 trivial trivial trivial trivial rfl (by omega) (sorts_any _) (enters_of Try.func27 (by kernel_rfl) rfl) 28 #[.pointer (some ⟨w.heap.size, 0, none⟩)] trivial (enters_of Try.func28 (by kernel_rfl) rfl) _ _ hmax hbytes _ hseq
  change CallsIn _ _ Try.prog 22 _ _ _ at cS
  refine (callsIn_wide.1 cS).mono ?_
  rintro e w' ⟨v, ss, rfl, hS, hrow, _, hb⟩
  rw [World.size_alloc] at hrow
  exact ⟨v, ss, rfl, hS, hrow, by simpa using hb⟩

theorem mem_intKeys {P : Program} {k : TypeId} {R : Value → Option (DataW Unit × List MemPlace)} {w : World} {b n : Nat} {D : DataW Unit} (hown : w.ownsMap P k R b n D) (hk : P.underlying k = some (.int .i64)) (x : Int) :
    x ∈ intKeys D ↔ has D (.int .i64 x) = true := by
  obtain ⟨es, rfl, hko⟩ := hown.keysOf
  have hkey : ∀ p ∈ es, ∃ y, p.1 = .int .i64 y := fun p hp => by
    obtain ⟨v, hv⟩ := hko p hp
    obtain ⟨y, _, hy, _⟩ := Maps.keyOf_i64 hk hv
    exact ⟨y, hy⟩
  rw [has_eq, List.any_eq_true]
  show x ∈ es.map (fun p => Go.intOf p.1) ↔ _
  rw [List.mem_map]
  constructor
  · rintro ⟨p, hp, rfl⟩
    obtain ⟨a, ha⟩ := hkey p hp
    exact ⟨p, hp, by rw [ha]; simp [Lit.sameKey, Go.intOf]⟩
  · rintro ⟨p, hp, hs⟩
    obtain ⟨a, ha⟩ := hkey p hp
    rw [ha] at hs
    exact ⟨p, hp, by rw [ha]; simpa [Lit.sameKey, Go.intOf] using hs⟩

theorem len_intKeys {P : Program} {k : TypeId} {R : Value → Option (DataW Unit × List MemPlace)} {w : World} {b n : Nat} {D : DataW Unit} (hown : w.ownsMap P k R b n D) : (intKeys D).length ≤ n := by
  have h := hown.size_le
  obtain ⟨es, rfl⟩ := hown.isMap
  simpa [intKeys, Maps.size] using h

/-- A slice of numbers in memory. -/
def ZRow (w : World) (B : Nat) (A : Option Addr) (L : List Int) : Prop :=
  0 < L.length → ∃ b off, A = some ⟨b, off, none⟩ ∧ b < B ∧ ∀ i (h : i < L.length), w.cell? ⟨b, off + i, none⟩ = some (.int .i64 L[i])

theorem ZRow.below {w w' : World} {B C : Nat} {A : Option Addr} {L : List Int} (h : ZRow w B A L) (hb : Below C w w') (hBC : B ≤ C) : ZRow w' B A L := by
  intro hl
  obtain ⟨b, off, e, hlt, hc⟩ := h hl
  exact ⟨b, off, e, hlt, fun i hi => (hb.cell (p := ⟨b, _, none⟩) (by show b < C; omega)).trans (hc i hi)⟩

theorem zrow_own {w : World} {base : Nat} {e : TypeId} {v : Value} {L : List Int} (h : w.ownsRow base e 1 v L.length (L.map encZ)) :
    ∃ A cap, v = .slice A L.length cap ∧ L.length ≤ cap ∧ ZRow w w.heap.size A L := by
  rcases h.2 with ⟨rfl, h0⟩ | ⟨g, cap, cur, rfl, _, hg, hnc, _⟩
  · exact ⟨_, _, by rw [h0], by omega, fun h => by omega⟩
  · refine ⟨_, cap, rfl, hnc, fun _ => ⟨g, 0, rfl, lt_of_block hg, fun i hi => ?_⟩⟩
    have hc := h.cells (g := g) rfl i (encZ L[i]) (by simp [hi])
    have ha : (⟨g, 0, none⟩ : Addr).add i = ⟨g, 0 + i, none⟩ := by unfold Addr.add; split <;> simp_all
    rwa [ha] at hc

theorem succ_mul_nat (j : Nat) (t : Int) : ((j : Int) + 1) * t + t = (((j + 1 : Nat) : Int) + 1) * t := by
  rw [show (((j + 1 : Nat) : Int) + 1) = ((j : Int) + 1) + 1 by omega, Int.add_mul ((j : Int) + 1) 1 t]; omega

def PointsPost (L : List De) (most : Int) (w : World) (e : Ending) (w' : World) : Prop :=
  ∃ (ps : List Int) (A : Option Addr) (cap : Nat), e = .returned (.slice A ps.length cap) ∧ ps.length ≤ 400 ∧ (∀ p, p ∈ ps ↔ Pt L most p) ∧ ZRow w' w'.heap.size A ps ∧ Below w.heap.size w w'

set_option maxHeartbeats 2000000 in
theorem points_any (A : Option Addr) (cap : Nat) (L : List De) (most : Int) (w : World) (hL : AllSmall L) (hn : L.length ≤ 6) (hr : DRow w w.heap.size A L) (hm : 1 ≤ most) (hm' : most ≤ 256) :
    Calls Try.prog 18 #[.slice A L.length cap, .int .i64 most] w (PointsPost L most w) := by
  have hmay := Lib.hid (may_yes A cap L most w hL.oks (by omega) hr hm (by omega))
  have hmm := @run_makeMap Try.prog
  obtain ⟨n, hn'⟩ : ∃ n, n = L.length := ⟨_, rfl⟩
  rw [← hn'] at hn hmay ⊢
  have HN := Lib.hid hn'
  clear hn'
  have hkm : keyOf Try.prog 2 (.int .i64 most) = some (.int .i64 most) := keyOf_int_mk Try.underlying2 (WalkArith.wf_i64 (by omega))
  go_enter Try.func18, Try.ntmps18
  go_wp2_with (first
    | (go_at_call 13; refine hmay.out.mono ?_; rintro e w1 ⟨rfl, hb1⟩; have hown0 := World.ownsMap_made (H := Unit) w1 Try.prog 2 (plainElem Try.prog 4))
    | (refine wpList_insert_own _ rfl (.tmp 13) (.tmp 14) (.const (.bool true)) 49 rfl 2 4 keyed64 Try.underlying49 (plainElem Try.prog 4) w1.heap.size 0 (.map []) rfl hown0 (by unfold maxLen; omega) _ _ _ rfl rfl hkm (.lit (.bool true)) [] (plainElem_bool Try.underlying4 true) ?_; intro w2 hown2 hg2))
  have hB0 : Below w.heap.size w w2 := (hb1.alloc hb1.size _).grown hg2 (by have := hb1.size; simp; omega) (fun g hg => by injection hg with hg; subst hg; exact hb1.size)
  have hb1s := hb1.size
  have hs0 : ∀ x, has ((DataW.map [] : DataW Unit).put (.int .i64 most) (.lit (.bool true))) (.int .i64 x) = true ↔ PtK L most 0 x := fun x => by
    rw [OwnPts.put (S := fun _ => False) ⟨[], rfl⟩ (fun x => by simp [has])]
    simp [PtK]
  have HS0 := Lib.hid hs0
  clear hs0 hown0 hg2 hkm hb1 hmm hmay
  obtain ⟨b, hb⟩ : ∃ b, b = w1.heap.size := ⟨_, rfl⟩
  rw [← hb] at hown2 ⊢
  have hbw : w.heap.size ≤ b := by rw [hb]; exact hb1s
  clear hb hb1s
  go_loopw [18] (fun i wr => ∃ (k m : Nat) (D : DataW Unit), k ≤ n ∧ i = .int .i64 k ∧ wr.ownsMap Try.prog 2 (plainElem Try.prog 4) b m D ∧ m ≤ 1 + 64 * k ∧ Hid (∀ x, has D (.int .i64 x) = true ↔ PtK L most k x) ∧ Below w.heap.size w wr) (fun i _ => n - (intOf i).toNat)
  case atStart => exact ⟨0, 1, _, Nat.zero_le _, rfl, hown2, by omega, HS0, hB0⟩
  case round =>
    clear HS0 hown2 hB0
    obtain ⟨k, m, D, hk, rfl, hown, hm1, hD, hbel⟩ := hrel
    obtain ⟨wo, rfl⟩ : ∃ wo : World, wo = wr := ⟨_, rfl⟩
    by_cases hlt : k < n
    · have hk' : k < L.length := by rw [← HN.out]; exact hlt
      obtain ⟨bl, off, rfl, hbl, hc⟩ := hr (by omega)
      obtain ⟨c0, c1, c2⟩ := hc k hk'
      have d0 := (hbel.cell (p := ⟨bl, off + k * 3, none⟩) hbl).trans c0
      have d1 := (hbel.cell (p := ⟨bl, off + k * 3 + 1, none⟩) hbl).trans c1
      have d2 := (hbel.cell (p := ⟨bl, off + k * 3 + 2, none⟩) hbl).trans c2
      clear c0 c1 c2 hc
      have hsm := hL L[k] (List.getElem_mem _)
      have hnx : Hid (∀ (j : Nat) (X : Int), X = ((j : Int) + 1) * L[k].t → most ≤ X → ∀ p, PtJ L most k L[k].t j p ↔ PtK L most (k + 1) p) :=
        Lib.hid fun j X hX hm p => PtK.next hk' hX hm (by obtain ⟨_, _, _, _, _, _⟩ := hsm; omega) p
      generalize L[k] = x at hnx hsm d0 d1 d2
      obtain ⟨c, d, t⟩ := x
      obtain ⟨v0, v1, v2, v3, v4, v5⟩ := hsm
      dsimp only at hnx d0 d1 d2 v0 v1 v2 v3 v4 v5
      have hbl' := hown.lt
      go_wp2
      go_loopw [8] (fun v wr2 => ∃ (j m2 : Nat) (X : Int) (D2 : DataW Unit), v = .int .i64 X ∧ Hid (X = ((j : Int) + 1) * t) ∧ 0 < X ∧ 4 * (j : Int) + t ≤ X ∧ X < most + t ∧ wr2.ownsMap Try.prog 2 (plainElem Try.prog 4) b m2 D2 ∧ m2 ≤ 1 + 64 * k + j ∧ Hid (∀ x, has D2 (.int .i64 x) = true ↔ PtJ L most k t j x) ∧ Below w.heap.size w wr2 ∧
          wr2.heap[wo.heap.size]? = some (.cells #[.int .i64 c, .int .i64 d, .int .i64 t] 29 (0, 0))) (fun v _ => (most - intOf v).toNat)
      case atStart => exact ⟨0, m, t, D, rfl, Lib.hid (by simp), by omega, by omega, by omega, hown.alloc _, by omega, Lib.hid (fun x => by rw [hD.out x]; unfold PtJ; simp; intros; omega), hbel.alloc hbel.size _, heap_alloc_new wo _⟩
      case round =>
        obtain ⟨j, m2, X, D2, rfl, hX, X0, X1, X2, hown2, hm2, hD2, hbel2, hbox⟩ := hrel
        by_cases hXm : X < most
        · have hkX : keyOf Try.prog 2 (.int .i64 X) = some (.int .i64 X) := keyOf_int_mk Try.underlying2 (WalkArith.wf_i64 (by omega))
          have hblt := lt_of_block hbox
          have hmap := hown2.isMap
          go_wp2_with (first
            | (at_mapUpdate; refine wpList_mapUpdate_own _ rfl _ _ _ 49 rfl 2 4 keyed64 Try.underlying49 (plainElem Try.prog 4) b m2 D2 rfl hown2 (by unfold maxLen; omega) _ _ _ rfl rfl hkX (.lit (.bool true)) [] (plainElem_bool Try.underlying4 true) ?_; intro w3 hown3 hg3; have hsz3 := hown3.size_le; have hbox3 : w3.heap[wo.heap.size]? = some (.cells #[.int .i64 c, .int .i64 d, .int .i64 t] 29 (0, 0)) := (hg3.block _ hblt (by intro e; injection e with e; omega)).trans hbox; have hc3 : w3.cell? ⟨wo.heap.size, 2, none⟩ = some (.int .i64 t) := by simp [World.cell?, hbox3])
            | (at_len; refine wpList_len_own _ rfl _ 49 rfl 2 4 Try.underlying49 _ b _ _ rfl hown3 ?_))
          go_roundw
          case rel => exact ⟨j + 1, m2 + 1, X + t, _, rfl, Lib.hid (by rw [hX.out]; exact succ_mul_nat j t), by omega, by omega, by omega, hown3, by omega, Lib.hid (fun x => by rw [OwnPts.put hmap hD2.out x]; exact PtJ.next hX.out hXm x), hbel2.grown hg3 (by omega) (fun g hg => by injection hg with hg; omega), hbox3⟩
          case measure => simp [intOf]; omega
        · go_wp2
          go_roundw
          case rel => exact ⟨k + 1, m2, D2, by omega, by go_num, hown2, by omega, Lib.hid (fun x => by rw [hD2.out x]; exact hnx.out j X hX.out (by omega) x), hbel2⟩
          case measure => simp [intOf]; omega
    · have hsz := hown.size_le
      have hS := Lib.hid (sorted_any b m D _ wo hown (by unfold maxLen; omega) (by omega))
      have hkn : k = n := by omega
      have hD' : Hid (∀ x, has D (.int .i64 x) = true ↔ Pt L most x) := Lib.hid fun x => by
        rw [hD.out x]
        unfold PtK Pt
        rw [hkn, HN.out, List.take_length]
      clear hD hkn
      go_wp2_with (first
        | (go_at_call 23; refine (keys_any _ _).mono ?_; rintro e w3 ⟨rfl, rfl⟩)
        | (go_at_call 22; refine hS.out.mono ?_; rintro e w4 ⟨v, ss, rfl, hperm, hrow, hb4⟩))
      obtain ⟨A', c', rfl, hc', hz'⟩ := zrow_own (L := ss.mergeSort (fun x y => decide (x ≤ y))) (by rw [List.length_mergeSort]; exact hrow)
      go_ret
      refine ⟨_, A', c', rfl, ?_, ?_, hz', hbel.trans (((Below.refl _ _).alloc hbel.size _).trans (hb4.mono (by have := hbel.size; omega)))⟩
      · have h1 := len_intKeys hown
        have h2 := hperm.length_eq
        rw [List.length_mergeSort]
        omega
      · intro p
        rw [List.mem_mergeSort, hperm.mem_iff, mem_intKeys hown Try.underlying2, hD'.out p]

end Go.Proofs.Ytcmldhanidkdjaa
