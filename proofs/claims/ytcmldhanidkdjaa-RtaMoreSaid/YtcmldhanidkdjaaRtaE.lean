/- rta.Fits; the law's own made. -/
import Derived.Test.YtcmldhanidkdjaaRtaD
import Derived.Test.YtcmldhanidkdjaaOpen
import Derived.Laws.BitsLemmas
import Derived.Deep.AppendLies
namespace Go.Proofs.Ytcmldhanidkdjaa
open Go.RowKit Go.Shelf

theorem and_mask (n : Int) (k : Nat) (hk : k ≤ 62) : bits .and .i64 n (((2 ^ k - 1 : Nat)) : Int) = n % ((2 ^ k : Nat) : Int) := by
  have hp : (2 : Nat) ^ k ≤ 2 ^ 62 := Nat.pow_le_pow_right (by decide) hk
  have hpos : 0 < (2 : Nat) ^ k := Nat.pow_pos (by decide)
  have hm : (BitVec.ofInt 64 (((2 ^ k - 1 : Nat)) : Int)).toNat = 2 ^ k - 1 := by
    rw [BitVec.ofInt_natCast, BitVec.toNat_ofNat]; exact Nat.mod_eq_of_lt (by omega)
  have hdvd : (2 ^ k : Nat) ∣ 2 ^ 64 := Nat.pow_dvd_pow 2 (by omega)
  have key : (BitVec.ofInt 64 n &&& BitVec.ofInt 64 (((2 ^ k - 1 : Nat)) : Int)).toNat = (n % ((2 ^ 64 : Nat) : Int)).toNat % 2 ^ k := by
    rw [BitVec.toNat_and, BitVec.toNat_ofInt, hm, Nat.and_two_pow_sub_one_eq_mod]
  show IntKind.i64.wrap ((BitVec.ofInt 64 n &&& BitVec.ofInt 64 (((2 ^ k - 1 : Nat)) : Int)).toNat : Nat) = _
  rw [key, IntKind.wrap_i64]
  have hlt : (n % ((2 ^ 64 : Nat) : Int)).toNat % 2 ^ k < 2 ^ k := Nat.mod_lt _ hpos
  have h64 : 0 ≤ n % ((2 ^ 64 : Nat) : Int) := Int.emod_nonneg _ (by decide)
  have hz : (((n % ((2 ^ 64 : Nat) : Int)).toNat % 2 ^ k : Nat) : Int) = n % ((2 ^ k : Nat) : Int) := by
    rw [Int.natCast_emod, Int.toNat_of_nonneg h64, Int.emod_emod_of_dvd _ (Int.natCast_dvd_natCast.2 hdvd)]
  rw [← hz]
  omega

theorem and7 (n : Int) : bits .and .i64 n 7 = n % 8 := and_mask n 3 (by decide)
theorem and15 (n : Int) : bits .and .i64 n 15 = n % 16 := and_mask n 4 (by decide)
theorem and31 (n : Int) : bits .and .i64 n 31 = n % 32 := and_mask n 5 (by decide)
theorem and127 (n : Int) : bits .and .i64 n 127 = n % 128 := and_mask n 7 (by decide)
theorem and255 (n : Int) : bits .and .i64 n 255 = n % 256 := and_mask n 8 (by decide)

def FitsPost (L : List De) (held most : Int) (w : World) (e : Ending) (w' : World) : Prop :=
  ∃ n ok, e = .returned (.bool ok) ∧ BusyIs L held most n ok ∧ Below w.heap.size w w'

set_option maxHeartbeats 400000 in
theorem fits_any (A : Option Addr) (cap : Nat) (L : List De) (held most : Int) (w : World) (hL : ∀ x ∈ L, x.Ok) (hn : L.length ≤ 64) (hr : DRow w w.heap.size A L) (h0 : 0 ≤ held) (h1 : held ≤ 1099511627776)
    (hX : 1 ≤ most) (hX' : most ≤ 2147483648) (hW : wsum most L ≤ 4611686018427387904) :
    Calls Try.prog 11 #[.slice A L.length cap, .int .i64 held, .int .i64 most] w (FitsPost L held most w) := by
  have hbusy := Lib.hid (busy_any A cap L held most w hL hn hr h0 h1 hX hX' hW)
  clear hL hr hn hW
  go_enter Try.func11, Try.ntmps11
  go_wp2_with (go_at_call 9; refine hbusy.out.mono ?_; rintro e w1 ⟨n, ok, rfl, hb, hbel⟩)
  go_ret
  exact ⟨n, ok, rfl, hb, hbel⟩

/-- A demand that the law makes. -/
def De.Small (x : De) : Prop := 0 ≤ x.c ∧ x.c ≤ x.d ∧ 1 ≤ x.d ∧ x.d ≤ x.t ∧ 4 ≤ x.t ∧ x.t ≤ 24

theorem De.Small.ok {x : De} (h : x.Small) : x.Ok := by
  obtain ⟨h1, h2, h3, h4, h5, h6⟩ := h
  exact ⟨h1, by omega, h3, h4, by omega⟩

def De.cells (x : De) : List Value := [.int .i64 x.c, .int .i64 x.d, .int .i64 x.t]

theorem cells_at (L : List De) : ∀ i (h : i < L.length), (L.flatMap De.cells)[i * 3]? = some (.int .i64 L[i].c) ∧ (L.flatMap De.cells)[i * 3 + 1]? = some (.int .i64 L[i].d) ∧ (L.flatMap De.cells)[i * 3 + 2]? = some (.int .i64 L[i].t) := by
  induction L with
  | nil => intro i h; simp at h
  | cons x r ih =>
    intro i h
    cases i with
    | zero => simp [De.cells]
    | succ j =>
      obtain ⟨a, b, c⟩ := ih j (by simpa using h)
      have e : ∀ m, (De.cells x ++ List.flatMap De.cells r)[m + 3]? = (List.flatMap De.cells r)[m]? := fun m => by simp [De.cells]
      simp only [List.flatMap_cons, List.getElem_cons_succ]
      refine ⟨?_, ?_, ?_⟩
      · rw [show (j + 1) * 3 = j * 3 + 3 by omega, e]; exact a
      · rw [show (j + 1) * 3 + 1 = (j * 3 + 1) + 3 by omega, e]; exact b
      · rw [show (j + 1) * 3 + 2 = (j * 3 + 2) + 3 by omega, e]; exact c

theorem cells_len (L : List De) : (L.flatMap De.cells).length = L.length * 3 := by
  induction L with
  | nil => rfl
  | cons x r ih => simp [De.cells, ih]; omega

/-- What the call's own row of demands gives to a reader. -/
theorem drow_own {w : World} {base : Nat} {e : TypeId} {v : Value} {L : List De} (h : w.ownsRow base e 3 v L.length (L.flatMap De.cells)) :
    ∃ A cap, v = .slice A L.length cap ∧ L.length ≤ cap ∧ (A = none → cap = 0) ∧ DRow w w.heap.size A L := by
  rcases h.2 with ⟨rfl, h0⟩ | ⟨g, cap, cur, rfl, _, hg, hnc, _⟩
  · exact ⟨_, _, by rw [h0], by omega, fun _ => rfl, fun h => by omega⟩
  · refine ⟨_, cap, rfl, hnc, (fun h => by cases h), fun _ => ⟨g, 0, rfl, lt_of_block hg, fun i hi => ?_⟩⟩
    obtain ⟨a, b, c⟩ := cells_at L i hi
    have hc := h.cells (g := g) rfl
    have ha : ∀ j, (⟨g, 0, none⟩ : Addr).add j = ⟨g, 0 + j, none⟩ := fun j => by unfold Addr.add; split <;> simp_all
    exact ⟨by have := hc _ _ a; rwa [ha] at this, by have := hc _ _ b; rwa [ha] at this, by have := hc _ _ c; rwa [ha] at this⟩

theorem dem_info : (Try.prog.info? 29).map (fun i => (i.zero, i.size, i.bytes)) = some (some (.agg #[.int .i64 0, .int .i64 0, .int .i64 0]), 3, 24) := by kernel_rfl

/-- The periods. -/
def pers : Array Value := #[.int .i64 4, .int .i64 5, .int .i64 6, .int .i64 8, .int .i64 10, .int .i64 12, .int .i64 20, .int .i64 24]

theorem pers_at (j : Nat) (h : j < 8) : ∃ P : Int, pers[j]? = some (.int .i64 P) ∧ 4 ≤ P ∧ P ≤ 24 := by
  match j, h with
  | 0, _ => exact ⟨4, rfl, by decide, by decide⟩
  | 1, _ => exact ⟨5, rfl, by decide, by decide⟩
  | 2, _ => exact ⟨6, rfl, by decide, by decide⟩
  | 3, _ => exact ⟨8, rfl, by decide, by decide⟩
  | 4, _ => exact ⟨10, rfl, by decide, by decide⟩
  | 5, _ => exact ⟨12, rfl, by decide, by decide⟩
  | 6, _ => exact ⟨20, rfl, by decide, by decide⟩
  | 7, _ => exact ⟨24, rfl, by decide, by decide⟩

theorem tmod_bd (v : Int) {p : Int} (h : 0 < p) : -p < v.tmod p ∧ v.tmod p < p := ⟨Int.lt_tmod_of_pos v h, Int.tmod_lt_of_pos v h⟩

theorem news3 (w : World) (a b c : Value) (t : TypeId) : ∀ (j : Nat) (u : Value), [a, b, c][j]? = some u → (w.alloc (.cells #[a, b, c] t)).cell? ((⟨w.heap.size, 0, none⟩ : Addr).add j) = some u := by
  intro j u hj
  have ha : (⟨w.heap.size, 0, none⟩ : Addr).add j = ⟨w.heap.size, j, none⟩ := by unfold Addr.add; split <;> simp_all
  rw [ha, World.cell?_alloc_new]
  match j, hj with
  | 0, hj => simpa using hj
  | 1, hj => simpa using hj
  | 2, hj => simpa using hj

def AllSmall (L : List De) : Prop := ∀ x ∈ L, x.Small

theorem AllSmall.snoc {L : List De} {x : De} (h : AllSmall L) (hx : x.Small) : AllSmall (L ++ [x]) := by
  intro y hy
  rcases List.mem_append.1 hy with hy | hy
  · exact h y hy
  · simp at hy; exact hy ▸ hx

def MadePost (w : World) (e : Ending) (w' : World) : Prop :=
  ∃ (L : List De) (A : Option Addr) (cap : Nat), e = .returned (.slice A L.length cap) ∧ (L.length ≤ cap ∧ (A = none → cap = 0)) ∧ L.length ≤ 6 ∧ AllSmall L ∧ DRow w' w'.heap.size A L ∧ Below w.heap.size w w'

set_option maxHeartbeats 1000000 in
theorem made_any (A : Option Addr) (n cap : Nat) (f : Nat → Nat → Int) (w : World) (hr : TRow w w.heap.size A n f) (hn : n ≤ 9223372036854775807) :
    Calls Try.prog 8 #[.slice A n cap] w (MadePost w) := by
  obtain ⟨i0, hi, hz0, hz1, hz2⟩ := info_parts dem_info
  go_enter Try.func8, Try.ntmps8
  go_wp2
  have hper : (w.alloc (.cells pers 37)).heap[w.heap.size]? = some (.cells pers 37 (0, 0)) := heap_alloc_new w _
  have hper0 : Hid ((w.alloc (.cells pers 37)).heap[w.heap.size]? = some (.cells pers 37 (0, 0))) := Lib.hid hper
  clear hper
  go_loopw [4, 5] (fun v i wr => ∃ L : List De, i = .int .i64 L.length ∧ L.length ≤ n ∧ L.length ≤ 6 ∧ AllSmall L ∧ wr.ownsRow (w.heap.size + 1) 29 3 v L.length (L.flatMap De.cells) ∧
      Hid (wr.heap[w.heap.size]? = some (.cells pers 37 (0, 0))) ∧ Below w.heap.size w wr) (fun _ i _ => 6 - (intOf i).toNat)
  case atStart => exact ⟨[], rfl, Nat.zero_le _, Nat.zero_le _, fun x hx => by simp at hx, World.ownsRow_nil _ _ _ _, hper0, (Below.refl _ _).alloc (Nat.le_refl _) _⟩
  case round =>
    clear hper0
    obtain ⟨L, rfl, hk1, hk2, hsm, hown, hper, hb⟩ := hrel
    obtain ⟨k, hk⟩ : ∃ k, k = L.length := ⟨_, rfl⟩
    rw [← hk] at hown hk1 hk2 ⊢
    have HK := Lib.hid hk
    clear hk
    by_cases h1 : k < n
    · by_cases h2 : k < 6
      · obtain ⟨b, off, rfl, hbl, hc⟩ := hr (by omega)
        obtain ⟨c0, c1, c2⟩ := hc k h1
        have d0 := (hb.cell (p := ⟨b, off + k * 3, none⟩) hbl).trans c0
        have d1 := (hb.cell (p := ⟨b, off + k * 3 + 1, none⟩) hbl).trans c1
        have d2 := (hb.cell (p := ⟨b, off + k * 3 + 2, none⟩) hbl).trans c2
        clear hc c0 c1 c2
        generalize f k 0 = v0 at *
        generalize f k 1 = v1 at *
        generalize f k 2 = v2 at *
        obtain ⟨j, hj⟩ : ∃ j : Nat, v2 % 8 = (j : Int) := ⟨(v2 % 8).toNat, by omega⟩
        have hj8 : j < 8 := by omega
        obtain ⟨P, hP, hP0, hP1⟩ := pers_at j hj8
        have cP : wr.cell? ⟨w.heap.size, j, none⟩ = some (.int .i64 P) := by simp [World.cell?, hper.out, hP]
        have hq : bits .and .i64 v2 7 = (j : Int) := by rw [and7]; exact hj
        clear hP hj
        obtain ⟨t1, t2⟩ := tmod_bd v1 (p := P) (by omega)
        obtain ⟨r, hr1⟩ : ∃ r, (v1.tmod P + P) % P = r := ⟨_, rfl⟩
        have r0 : 0 ≤ r := by rw [← hr1]; exact Int.emod_nonneg _ (by omega)
        have r1 : r < P := by rw [← hr1]; exact Int.emod_lt_of_pos _ (by omega)
        obtain ⟨t3, t4⟩ := tmod_bd v0 (p := 1 + r + 1) (by omega)
        obtain ⟨c, hc1⟩ : ∃ c, (v0.tmod (1 + r + 1) + (1 + r) + 1) % (1 + r + 1) = c := ⟨_, rfl⟩
        have e0 : 0 ≤ c := by rw [← hc1]; exact Int.emod_nonneg _ (by omega)
        have e1 : c < 1 + r + 1 := by rw [← hc1]; exact Int.emod_lt_of_pos _ (by omega)
        have hbase : w.heap.size + 1 ≤ wr.heap.size := lt_of_block hper.out
        go_wp2_with (at_builtin; go_loud (refine wpList_append_own _ rfl _ _ 24 rfl (w.heap.size + 1) 29 i0 _ 3 24 Try.underlying24 hi hz0 hz1 hz2 rfl (by decide) _ _ _ rfl (hown.alloc _) ⟨wr.heap.size, 0, none⟩ 1 1 [.int .i64 c, .int .i64 (1 + r), .int .i64 P] rfl rfl (news3 _ _ _ _ _) (by simp [Value.oneCell']) (by unfold maxLen; omega) (by omega) (by simp; omega) ?_; intro v' w1 hown' hgrow _))
        have hb1 : Below w.heap.size w w1 := (hb.alloc hb.size _).grown hgrow (by simp; omega) (fun g hg => by have := (hown.alloc (.cells #[.int .i64 c, .int .i64 (1 + r), .int .i64 P] 29)).lt g hg; omega)
        have hper1 : Hid (w1.heap[w.heap.size]? = some (.cells pers 37 (0, 0))) := Lib.hid (by
          rw [hgrow.block _ (by simp; omega) (fun he => by have := (hown.alloc (.cells #[.int .i64 c, .int .i64 (1 + r), .int .i64 P] 29)).lt _ he.symm; omega), Below.heap_alloc _ _ _ (by omega)]
          exact hper.out)
        have hs1 : AllSmall (L ++ [⟨c, 1 + r, P⟩]) := hsm.snoc ⟨e0, by show c ≤ 1 + r; omega, by show 1 ≤ 1 + r; omega, by show 1 + r ≤ P; omega, hP0, hP1⟩
        have hl1 : Hid ((L ++ [(⟨c, 1 + r, P⟩ : De)]).length = k + 1) := Lib.hid (by rw [HK.out]; simp)
        have ho1 : Hid (w1.ownsRow (w.heap.size + 1) 29 3 v' (L ++ [(⟨c, 1 + r, P⟩ : De)]).length ((L ++ [(⟨c, 1 + r, P⟩ : De)]).flatMap De.cells)) := Lib.hid (by rw [hl1.out, List.flatMap_append]; simpa [De.cells] using hown')
        clear hown' hgrow hown hper
        go_wp2
        go_roundw
        case rel => exact ⟨L ++ [⟨c, 1 + r, P⟩], by rw [hl1.out]; go_num, by rw [hl1.out]; omega, by rw [hl1.out]; omega, hs1, ho1.out, hper1, hb1⟩
        case measure => simp [intOf]; omega
      · go_wp2
        obtain ⟨A', cap', rfl, hc', hn', hd'⟩ := drow_own (L := L) (by rw [← HK.out]; exact hown)
        go_ret
        exact ⟨L, A', cap', rfl, ⟨hc', hn'⟩, by rw [← HK.out]; exact hk2, hsm, hd', hb⟩
    · go_wp2
      obtain ⟨A', cap', rfl, hc', hn', hd'⟩ := drow_own (L := L) (by rw [← HK.out]; exact hown)
      go_ret
      exact ⟨L, A', cap', rfl, ⟨hc', hn'⟩, by rw [← HK.out]; exact hk2, hsm, hd', hb⟩

end Go.Proofs.Ytcmldhanidkdjaa
