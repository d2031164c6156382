/- A region that draws its order, of plain operations, inside a round: taken as outside. -/
import Derived.Test.YtnejkfccdnadcaaDoorWords
import Derived.OrdersHeld
import Derived.OrdersIn
import Derived.OwnWalkIn
namespace Go.Proofs.YtnejkfccdnadcaaDoor
open Go.RowKit

/-- Plain: it calls no function of Go, defers nothing, starts nothing. -/
def plainB (o : Oper) : Bool :=
  match o.op with
  | .move _ => true
  | .assign _ => true
  | .binOp .. => true
  | .load .. => true
  | .store .. => true
  | .indexAddr .. => true
  | .fieldAddr .. => true
  | .buildSlice .. => true
  | .call c => match c.callee with
    | .builtin .append => true
    | .builtin .len => true
    | _ => false
  | _ => false

theorem run_val {P : Program} {w : World} (s : Sem Value) : ((do pure (Next.value (← s)) : Sem Next)).run P w = match s.run P w with
    | .ok x w' => .ok (.value x) w'
    | .halt e w' => .halt e w' := by
  rw [Sem.run_bind]
  cases s.run P w <;> rfl

theorem run_unit {P : Program} {w : World} (s : Sem Unit) : ((do s; pure Next.skip : Sem Next)).run P w = match s.run P w with
    | .ok _ w' => .ok .skip w'
    | .halt e w' => .halt e w' := by
  rw [Sem.run_bind]
  cases s.run P w <;> rfl

theorem plain_run {P : Program} {o : Oper} (h : plainB o = true) (ρ : Operand → Value) (w : World) :
    (∃ v w', (execOp ρ o).run P w = .ok (.value v) w') ∨ (∃ w', (execOp ρ o).run P w = .ok .skip w') ∨ (∃ e w', (execOp ρ o).run P w = .halt e w') := by
  have hv : ∀ s : Sem Value, (execOp ρ o = do pure (Next.value (← s))) → (∃ v w', (execOp ρ o).run P w = .ok (.value v) w') ∨ (∃ w', (execOp ρ o).run P w = .ok .skip w') ∨ (∃ e w', (execOp ρ o).run P w = .halt e w') := by
    intro s hs
    rw [hs, run_val]
    cases s.run P w with
    | ok x w' => exact .inl ⟨_, _, rfl⟩
    | halt e w' => exact .inr (.inr ⟨_, _, rfl⟩)
  have hu : ∀ s : Sem Unit, (execOp ρ o = do s; pure Next.skip) → (∃ v w', (execOp ρ o).run P w = .ok (.value v) w') ∨ (∃ w', (execOp ρ o).run P w = .ok .skip w') ∨ (∃ e w', (execOp ρ o).run P w = .halt e w') := by
    intro s hs
    rw [hs, run_unit]
    cases s.run P w with
    | ok x w' => exact .inr (.inl ⟨_, rfl⟩)
    | halt e w' => exact .inr (.inr ⟨_, _, rfl⟩)
  unfold plainB at h
  split at h
  case h_1 x ho => exact .inl ⟨_, _, by simp only [execOp, ho]; rfl⟩
  case h_2 x ho => exact .inl ⟨_, _, by simp only [execOp, ho]; rfl⟩
  case h_3 op ty x y yt ho => exact hv (do eqGuard op ty x y (ρ x) (ρ y); binOp op ty (ρ x) (ρ y)) (by simp only [execOp, ho])
  case h_4 ty x ho => exact hv (Instr.loadAt ty (ρ x)) (by simp only [execOp, ho])
  case h_5 ty x y ho => exact hu (Instr.storeAt ty (ρ x) (ρ y)) (by simp only [execOp, ho])
  case h_6 ty x ix ho => exact hv (Instr.indexAt ty (ρ x) (ρ ix)) (by simp only [execOp, ho])
  case h_7 s x f ho => exact hv (Instr.fieldAt s (ρ x) f) (by simp only [execOp, ho])
  case h_8 ty len parts ho => exact hv (Instr.buildSlice ty len (parts.map fun (i, x) => (i, ρ x))) (by simp only [execOp, ho])
  case h_9 c ho =>
    split at h
    case h_1 hc => exact hv (Builtin.append_ c.argTypes o.type (c.args.map ρ)) (by simp only [execOp, ho, resolve, hc, invoke, builtin, pure_bind])
    case h_2 hc => exact hv (Builtin.len_ c.argTypes o.type (c.args.map ρ)) (by simp only [execOp, ho, resolve, hc, invoke, builtin, pure_bind])
    case h_3 => cases h
  case h_10 => cases h

theorem plain_about {P : Program} {o : Oper} (h : plainB o = true) (ρ : Operand → Value) (w : World) : o.about P w ρ = none := by
  unfold plainB at h
  split at h
  case h_9 c ho =>
    split at h
    case h_1 hc => simp [Oper.about, ho, resolve, hc, Target.leads, Sem.run_pure]
    case h_2 hc => simp [Oper.about, ho, resolve, hc, Target.leads, Sem.run_pure]
    case h_3 => cases h
  case h_10 => cases h
  all_goals (rename_i ho; simp [Oper.about, ho])

theorem plain_defer {o : Oper} (h : plainB o = true) : ∀ c, o.op ≠ .defer c := by
  intro c hc
  unfold plainB at h
  rw [hc] at h
  cases h

theorem wp_in {F : Fence} {n : Nat} {P : Program} {o : Oper} {a : Act} {w : World} {K : Act → World → Prop} {Q : Exit → Act → World → Prop} (h : plainB o = true) (hw : o.wp P a w K Q) : o.wpIn F n P a w K Q := by
  refine ⟨fun f hf => (by rw [plain_about h] at hf; cases hf), ?_⟩
  rw [Oper.semAt_plain F _ _ (plain_defer h)]
  unfold Oper.wp at hw
  rcases plain_run (P := P) h a.eval w with ⟨v, w', e⟩ | ⟨w', e⟩ | ⟨e', w', e⟩
  · rw [e] at hw ⊢; exact hw
  · rw [e] at hw ⊢; exact hw
  · rw [e] at hw ⊢
    cases e' <;> first | exact hw | exact hw.elim

theorem any_in {F : Fence} {n : Nat} {P : Program} {ops : Array Oper} {md : Region.Mode} {Q : Exit → Act → World → Prop} (hp : ∀ (i : Nat) o, ops[i]? = some o → plainB o = true) (hQ : ¬ LetsOut Q) :
    ∀ (fuel : Nat) (listed : Array Bool) (a : Act) (w : World), wpAny P md ops Q fuel listed a w → wpAnyIn F n P md ops Q fuel listed a w
  | 0, _, _, _, h => h
  | fuel + 1, listed, a, w, h => ⟨h.1, fun i hi => by
      have h2 := h.2 i hi
      unfold wpOp at h2
      unfold wpOpIn
      cases ho : ops[i]? with
      | none => rw [ho] at h2; exact any_in hp hQ fuel _ _ _ h2
      | some o =>
        rw [ho] at h2
        simp only at h2 ⊢
        split at h2
        · rename_i hw
          rw [if_pos hw]
          rcases h2 with h2 | h2
          · exact Oper.wpIn_mono (fun a' w' h' => any_in hp hQ fuel _ a' w' h') (wp_in (hp i o ho) h2)
          · exact absurd h2.2 hQ
        · rename_i hw
          rw [if_neg hw]
          exact ⟨fun f hf => (by rw [plain_about (hp i o ho)] at hf; cases hf), any_in hp hQ fuel _ _ _ h2⟩⟩

theorem wpIn_region_plain {F : Fence} {n : Nat} {P : Program} {ops : Array Oper} {Q : Exit → Act → World → Prop} {S : World → Prop} {id : Nat} {a : Act} {w : World} (hm : P.follows .mixedOrders = true) (hp : ops.all plainB = true) (hQ : ¬ LetsOut Q)
    (h : wpAnyH P .any ops Q S ops.size (Array.replicate ops.size false) a w.drew) : (Code.region id ops true).wpIn F n P Q a w :=
  wpIn_region_any hm (any_in (fun i o ho => by
    obtain ⟨hi, rfl⟩ := Array.getElem?_eq_some_iff.1 ho
    exact (Array.all_eq_true.1 hp) i hi) hQ _ _ _ _ (wpAny_of_held _ _ _ _ h))

end Go.Proofs.YtnejkfccdnadcaaDoor
