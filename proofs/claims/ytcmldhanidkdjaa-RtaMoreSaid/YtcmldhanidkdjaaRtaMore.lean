/- RtaMore: the given statement: for every input that can be read the law returns true, and each argument reads as it did. No condition. -/
import Derived.Test.YtcmldhanidkdjaaRtaMoreW
import Derived.Test.YtcmldhanidkdjaaOpen
namespace Go.Proofs.Ytcmldhanidkdjaa.rtaMoreLaw
open Go.ChangeShapes Go.WideShapes Go.ChangeAt Go.RowKit
open Go.ChangeMaps (open_string shut_string)
set_option linter.unusedVariables false

theorem own : ownKnob Try.prog.godebug = none := by kernel_rfl
theorem laidOut : laidOutB Try.prog = true := by kernel_rfl

set_option maxRecDepth 100000 in
theorem lifted (os : Os) (started : os.Started) (H : Type) (enc : TypeId × Value → H) :
    ReturnsInHanded {} Try.checked os 4 .any (Rows.rtaMoreSpec.pre6 enc Try.prog Try.f4 Rows.rtaMoreRow.domain false) (Rows.rtaMoreSpec.post enc Try.prog Try.f4 false true false false) := by
  refine returnsInHanded_of_change (C := Try.checked) own started (by kernel_rfl) Try.func4
    (ChangeSpec.witness6 (enc := enc) (C := Try.checked) false ⟨#[], #[.slice none 0 0, .agg #[.int .i64 0, .int .i64 0, .int .i64 0], .agg #[.int .i64 0, .int .i64 0]], []⟩ 8 (by kernel_rfl) (by kernel_rfl) (by kernel_rfl) (by kernel_rfl)) ?_
  intro W base args ds gs before hval0 hW hcnd _
  have hval : ∀ (j : Nat) t v, Try.f4.params[j]? = some t → args[j]? = some v → Value.okWide Try.prog W .any base t v := hval0
  have hW' := hW
  obtain ⟨p, q, hA0, hV, rfl, hfz, hnd⟩ := hW
  have hA : DataW.TrodAll enc Try.prog W 0 (fun _ => true) true Try.f4.params.toList args.toList ds p := hA0
  rw [Try.params4] at hA hval
  obtain ⟨v0, vs0, d0, ds0, p0, q0, hargs, rfl, rfl, h0, r0⟩ := trodAll_cons hA
  obtain ⟨v1, vs1, d1, ds1, p1, q1, rfl, rfl, rfl, h1, r1⟩ := trodAll_cons r0
  obtain ⟨v2, vs2, d2, ds2, p2, q2, rfl, rfl, rfl, h2, r2⟩ := trodAll_cons r1
  obtain ⟨rfl, rfl, rfl⟩ := trodAll_nil r2
  obtain rfl : args = #[v0, v1, v2] := by cases args; simp_all
  obtain ⟨rfl, rfl⟩ := trodVars_none hV
  have k0 := h0
  have lt0 : ∀ x ∈ p0, x.block < W.heap.size := by obtain ⟨m, hm⟩ := k0; exact DataW.trod_lt m _ _ _ hm
  obtain ⟨A0, n0, c0, rfl⟩ := okWide_slice Try.underlying22 (hval 0 22 v0 rfl rfl)
  obtain ⟨f0, hn0, hr0⟩ : ∃ f, n0 ≤ 9223372036854775807 ∧ TRow W W.heap.size A0 n0 f := by
    obtain ⟨fuel, hf⟩ := h0
    obtain ⟨A, n, c, f, hcs, hl, hm, hr⟩ := open_rows3 Try.underlying22 Try.underlying31 Try.underlying3 (by kernel_rfl) (by kernel_rfl) hf
    simp [Value.cells] at hcs
    obtain ⟨rfl, rfl, rfl⟩ := hcs
    exact ⟨f, by unfold maxLen at hm; omega, hr⟩
  have k1 := h1
  have lt1 : ∀ x ∈ p1, x.block < W.heap.size := by obtain ⟨m, hm⟩ := k1; exact DataW.trod_lt m _ _ _ hm
  obtain ⟨cs1, rfl, hs1⟩ := okWide_array Try.underlying31 (hval 1 31 v1 rfl rfl)
  obtain ⟨f1, hf1⟩ : ∃ f : Nat → Int, cs1 = #[.int .i64 (f 0), .int .i64 (f 1), .int .i64 (f 2)] ∧ (Lit.int .i64 (f 0)).wf = true ∧ (Lit.int .i64 (f 1)).wf = true ∧ (Lit.int .i64 (f 2)).wf = true := by
    obtain ⟨fuel, hf⟩ := h1
    obtain ⟨f, hl, hf⟩ := trod_nums Try.underlying31 Try.underlying3 (by kernel_rfl) (by kernel_rfl) hf
    exact ⟨f, arr_of3 hl hf⟩
  obtain ⟨rfl, wf1⟩ := hf1
  have k2 := h2
  have lt2 : ∀ x ∈ p2, x.block < W.heap.size := by obtain ⟨m, hm⟩ := k2; exact DataW.trod_lt m _ _ _ hm
  obtain ⟨cs2, rfl, hs2⟩ := okWide_array Try.underlying32 (hval 2 32 v2 rfl rfl)
  obtain ⟨f2, hf2⟩ : ∃ f : Nat → Int, cs2 = #[.int .i64 (f 0), .int .i64 (f 1)] ∧ (Lit.int .i64 (f 0)).wf = true ∧ (Lit.int .i64 (f 1)).wf = true := by
    obtain ⟨fuel, hf⟩ := h2
    obtain ⟨f, hl, hf⟩ := trod_nums Try.underlying32 Try.underlying2 (by kernel_rfl) (by kernel_rfl) hf
    exact ⟨f, arr_of2 hl hf⟩
  obtain ⟨rfl, wf2⟩ := hf2
  clear hA0 hval0
  refine (more_walk W A0 n0 c0 f0 hr0 hn0 f1 wf1 f2 wf2).mono fun e W' ⟨he, bel⟩ => ?_
  subst he
  exact ⟨_, rfl, _, _, _, [], _, [], hW', trodAll_mk1 (shut_bool Try.underlying4 _), (trodAll_cons_mk (Below.trod laidOut (by kernel_rfl) (of_decide_eq_true (by kernel_rfl)) k0 bel lt0) (trodAll_cons_mk (Below.trod laidOut (by kernel_rfl) (of_decide_eq_true (by kernel_rfl)) k1 bel lt1) (trodAll_cons_mk (Below.trod laidOut (by kernel_rfl) (of_decide_eq_true (by kernel_rfl)) k2 bel lt2) trodAll_mk0))), rfl, bel.frame _, fun h => by cases h⟩

theorem over : Rows.rtaMoreRow.holds Try.pinned (OpenSpec.ofChange Rows.rtaMoreSpec) :=
  OpenClaim.holds_of_wide 4 Try.f4 rfl rfl rfl rfl rfl rfl rfl ⟨rfl, rfl, rfl, rfl, rfl⟩ rfl rfl rfl rfl rfl (by kernel_rfl) Try.func4 (by kernel_rfl)
    (of_decide_eq_true (by kernel_rfl)) (by unfold Func.isWrapper; rw [if_neg (of_decide_eq_false (by kernel_rfl))]; exact ⟨rfl, rfl⟩)
    (fun os started H enc _ => lifted os started H enc)

theorem proved : Rows.RtaMoreSaid := over
#print axioms proved
end Go.Proofs.Ytcmldhanidkdjaa.rtaMoreLaw
