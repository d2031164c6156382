/- CertBack: the given statement, as its tied card says it: for every input that can be read the law returns true, and each argument reads as it did. -/
import Derived.Test.YtgnaaokhfpfglaaGreatDoorZCertBack6
import Derived.Test.YtgnaaokhfpfglaaGreatDoorZCertBack2
import Derived.Shelf.Vars
import Derived.OpenShut
import Derived.ShutString
import Derived.ChangeOld
import Derived.Stop.Joined
namespace Go.Proofs.YtgnaaokhfpfglaaGreatDoor.certBackLaw
open Go.ChangeShapes Go.WideShapes Go.ChangeAt Go.RowKit Go.Proofs.YtgnaaokhfpfglaaGreatDoorW.PrintWords Go.Proofs.YtgnaaokhfpfglaaGreatDoor.PCertBack
open Go.ChangeMaps (open_string shut_string)
set_option linter.unusedVariables false
theorem own:ownKnob Tryz.prog.godebug=none:=by kernel_rfl
theorem laidOut:laidOutB Tryz.prog=true:=by kernel_rfl
set_option maxRecDepth 100000 in
theorem lifted (os:Os) (started:os.Started) (H:Type) (enc:TypeId × Value→H) :
  ReturnsInHanded {} Tryz.checked os 4 .any (fun w args=>(Rows.certBackSpec.pre enc Tryz.prog Tryz.f4 [] false w args∧laidMetH Tryz.prog Rows.certBackRow.laid w)∧sizedMet enc Tryz.prog Tryz.f4 (OpenSpec.ofChange Rows.certBackSpec) false w args) (Rows.certBackSpec.post enc Tryz.prog Tryz.f4 false true false false):=by
 refine handed_laid (C:=Tryz.checked) own started (by kernel_rfl) Tryz.func4
  (ChangeSpec.witness_shaped (enc:=enc) (C:=Tryz.checked) (os:=os) (X:=fun w _=>laidMetH Tryz.prog Rows.certBackRow.laid w) false (World.laidAll Tryz.prog os Rows.certBackRow.laid) #[.agg #[.int .i64 0,.int .i64 0,.slice none 0 0,.int .i64 0,.int .i64 0,.slice none 0 0,.slice none 0 0,.slice none 0 0]] 8 (World.laidAll_os _ _ _) (World.shaped_of_ZipB (by kernel_rfl) (by kernel_rfl)) (by kernel_rfl) (by kernel_rfl) (by kernel_rfl) (laid_met os _)) ?_
 intro W base args ds gs before hval0 hW hL hsh
 have hval:∀ (j:Nat) t v,Tryz.f4.params[j]? = some t→args[j]? = some v→Value.okWide Tryz.prog W .any base t v:=hval0
 have hW':=hW
 obtain⟨p,q,hA0,hV,rfl,hfz,hnd⟩:=hW
 have hA:DataW.TrodAll enc Tryz.prog W 0 (fun _=>true) true Tryz.f4.params.toList args.toList ds p:=hA0
 rw [Tryz.params4] at hA hval
 obtain⟨v0,vs0,d0,ds0,p0,q0,hargs,rfl,rfl,h0,r0⟩:=trodAll_cons hA
 obtain⟨rfl,rfl,rfl⟩:=trodAll_nil r0
 obtain rfl:args = #[v0]:=by cases args;simp_all
 obtain⟨rfl,rfl⟩:=trodVars_none hV
 have k0:=h0
 have lt0:∀ x ∈ p0,x.block<W.heap.size:=by obtain⟨m,hm⟩:=k0;exact DataW.trod_lt m _ _ _ hm
 obtain⟨cs0,rfl,_⟩:=okWide_struct Tryz.underlying30 (hval 0 30 v0 rfl rfl)
 obtain⟨x0,hK0,ok0_⟩:∃ x:S30,k30.K W x cs0.toList∧ok30 x:=by
  obtain⟨fuel,hf⟩:=h0
  obtain⟨x,hK,hok⟩:=opens30 hf
  refine⟨x,?_,hok⟩
  first|exact hK|(simp [Value.cells] at hK;exact hK)
 obtain⟨A0_2,c0_2,A0_5,c0_5,A0_6,c0_6,A0_7,c0_7,hcs0,hc0_2,hr0_2,hc0_5,hr0_5,hc0_6,hr0_6,hc0_7,hr0_7⟩:=k30_open hK0
 obtain⟨cs0⟩:=cs0
 replace hcs0:cs0=_:=hcs0
 subst hcs0
 clear hA0 hval0
 have hT:PCertBack.Tabs W:=by obtain⟨m,hm⟩:=Tryz.laysM143.s1_3 W hsh;exact⟨⟨⟨tab_of_laid hL,bLt _ _ (Lib.TabIs.cell (tab_of_laid hL) (by kernel_rfl) 0 (by decide))⟩,m,hm⟩,trivial⟩
 obtain⟨k,hk⟩:=pure_CertBack x0 ok0_
 refine (ostinatolaw21_CertBack.calls k x0.f0.f0 x0.f0.f1 _ _ x0.f0.f2 x0.f1.f0 x0.f1.f1 _ _ x0.f1.f2 _ _ x0.f1.f3 _ _ x0.f2 true W hr0_2 hc0_2 hr0_5 hc0_5 hr0_6 hc0_6 hr0_7 hc0_7 hk hT).mono fun e W' ⟨he,bel⟩=>?_
 subst he
 exact⟨_,rfl,_,_,_,[],_,[],hW',trodAll_mk1 (shut_bool Tryz.underlying4 _),(trodAll_cons_mk (Below.trod laidOut (by kernel_rfl) (oD9 (by kernel_rfl)) k0 bel lt0) trodAll_mk0),rfl,bel.frame _,fun h=>by cases h⟩
theorem over:Rows.certBackRow.holds Tryz.pinned (OpenSpec.ofChange Rows.certBackSpec):=
 OpenClaim.holds_of_wide 4 Tryz.f4 rfl rfl rfl rfl rfl rfl rfl ⟨rfl,rfl,rfl,rfl,rfl⟩ rfl rfl rfl rfl rfl (by kernel_rfl) Tryz.func4 (by kernel_rfl)
  (oD9 (by kernel_rfl)) (by unfold Func.isWrapper;rw [if_neg (of_decide_eq_false (by kernel_rfl))];exact⟨rfl,rfl⟩)
  (fun os started H enc _=>lifted os started H enc)
theorem proved:Rows.CertBackCardSaid:=
 Claim7.holds_tied_plain_at .later [] Rows.certBackCard.laidKinds true Rows.certBackCard.stood.harness Rows.certBackCard.stood.looks over (fun _ h=>by cases h) (by kernel_rfl) (fun _ h=>by cases h) certBack_row_tie rfl ⟨rfl,rfl⟩ (by kernel_rfl) rfl
  (fun f fn hf hfn=>by
   obtain rfl:f=4:=Option.some.inj ((show Tryz.prog.funcNamed "ostinato/ostinatolaw21.CertBack" = some 4 by kernel_rfl).symm.trans hf) |>.symm
   obtain rfl:fn=Tryz.f4:=(Option.some.inj (Tryz.func4.symm.trans hfn)).symm
   exact⟨by kernel_rfl,fun j t ht=>by
    rw [Tryz.params4] at ht
    have hm:t ∈ ([30]:List Nat):=by simpa using Array.mem_of_getElem? ht
    have hall:(([30]:List Nat).all fun u=>!Tryz.prog.wantsStandIn u)=true:=by kernel_rfl
    exact (show Tryz.prog.wantsStandIn t=false by simpa using List.all_eq_true.1 hall t hm)⟩)
  (by kernel_rfl)
#print axioms proved
end Go.Proofs.YtgnaaokhfpfglaaGreatDoor.certBackLaw
