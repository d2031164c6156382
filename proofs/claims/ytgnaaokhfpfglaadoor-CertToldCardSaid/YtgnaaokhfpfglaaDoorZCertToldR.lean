/- CertTold: the given statement, as its tied card says it: for every input that can be read the law returns true, and each argument reads as it did. -/
import Derived.Test.YtgnaaokhfpfglaaDoorZCertTold6
import Derived.Test.YtgnaaokhfpfglaaDoorZCertTold1
import Derived.Shelf.Vars
import Derived.OpenShut
import Derived.ShutString
import Derived.ChangeOld
import Derived.Stop.Joined
namespace Go.Proofs.YtgnaaokhfpfglaaDoor.certToldLaw
open Go.ChangeShapes Go.WideShapes Go.ChangeAt Go.RowKit Go.Proofs.YtgnaaokhfpfglaaDoorW.PrintWords Go.Proofs.YtgnaaokhfpfglaaDoor.PCertTold
open Go.ChangeMaps (open_string shut_string)
set_option linter.unusedVariables false
theorem own:ownKnob Tryd.prog.godebug=none:=by kernel_rfl
theorem laidOut:laidOutB Tryd.prog=true:=by kernel_rfl
set_option maxRecDepth 100000 in
theorem lifted (os:Os) (started:os.Started) (H:Type) (enc:TypeId × Value→H) :
  ReturnsInHanded {} Tryd.checked os 4 .any (fun w args=>(Rows.certToldSpec.pre enc Tryd.prog Tryd.f4 [] false w args∧laidMetH Tryd.prog Rows.certToldRow.laid w)∧sizedMet enc Tryd.prog Tryd.f4 (OpenSpec.ofChange Rows.certToldSpec) false w args) (Rows.certToldSpec.post enc Tryd.prog Tryd.f4 false true false false):=by
 refine handed_laid (C:=Tryd.checked) own started (by kernel_rfl) Tryd.func4
  (ChangeSpec.witness_shaped (enc:=enc) (C:=Tryd.checked) (os:=os) (X:=fun w _=>laidMetH Tryd.prog Rows.certToldRow.laid w) false (World.laidAll Tryd.prog os Rows.certToldRow.laid) #[.agg #[.int .i64 0,.int .i64 0,.slice none 0 0,.int .i64 0,.int .i64 0,.slice none 0 0,.slice none 0 0,.slice none 0 0],.int .i64 0,.int .i64 0] 8 (World.laidAll_os _ _ _) (World.shaped_of_ZipB (by kernel_rfl) (by kernel_rfl)) (by kernel_rfl) (by kernel_rfl) (by kernel_rfl) (laid_met os _)) ?_
 intro W base args ds gs before hval0 hW hL hsh
 have hval:∀ (j:Nat) t v,Tryd.f4.params[j]? = some t→args[j]? = some v→Value.okWide Tryd.prog W .any base t v:=hval0
 have hW':=hW
 obtain⟨p,q,hA0,hV,rfl,hfz,hnd⟩:=hW
 have hA:DataW.TrodAll enc Tryd.prog W 0 (fun _=>true) true Tryd.f4.params.toList args.toList ds p:=hA0
 rw [Tryd.params4] at hA hval
 obtain⟨v0,vs0,d0,ds0,p0,q0,hargs,rfl,rfl,h0,r0⟩:=trodAll_cons hA
 obtain⟨v1,vs1,d1,ds1,p1,q1,rfl,rfl,rfl,h1,r1⟩:=trodAll_cons r0
 obtain⟨v2,vs2,d2,ds2,p2,q2,rfl,rfl,rfl,h2,r2⟩:=trodAll_cons r1
 obtain⟨rfl,rfl,rfl⟩:=trodAll_nil r2
 obtain rfl:args = #[v0,v1,v2]:=by cases args;simp_all
 obtain⟨rfl,rfl⟩:=trodVars_none hV
 have k0:=h0
 have lt0:∀ x ∈ p0,x.block<W.heap.size:=by obtain⟨m,hm⟩:=k0;exact DataW.trod_lt m _ _ _ hm
 obtain⟨cs0,rfl,_⟩:=okWide_struct Tryd.underlying30 (hval 0 30 v0 rfl rfl)
 obtain⟨x0,hK0,ok0_⟩:∃ x:S30,k30.K W x cs0.toList∧ok30 x:=by
  obtain⟨fuel,hf⟩:=h0
  obtain⟨x,hK,hok⟩:=opens30 hf
  refine⟨x,?_,hok⟩
  first|exact hK|(simp [Value.cells] at hK;exact hK)
 obtain⟨A0_2,c0_2,A0_5,c0_5,A0_6,c0_6,A0_7,c0_7,hcs0,hc0_2,hr0_2,hc0_5,hr0_5,hc0_6,hr0_6,hc0_7,hr0_7⟩:=k30_open hK0
 obtain⟨cs0⟩:=cs0
 replace hcs0:cs0=_:=hcs0
 subst hcs0
 have k1:=h1
 have lt1:∀ x ∈ p1,x.block<W.heap.size:=by obtain⟨m,hm⟩:=k1;exact DataW.trod_lt m _ _ _ hm
 obtain⟨a1,rfl,_,_,ok1_⟩:=open_int Tryd.underlying3 (hval 1 3 v1 rfl rfl) h1
 have k2:=h2
 have lt2:∀ x ∈ p2,x.block<W.heap.size:=by obtain⟨m,hm⟩:=k2;exact DataW.trod_lt m _ _ _ hm
 obtain⟨a2,rfl,_,_,ok2_⟩:=open_int Tryd.underlying2 (hval 2 2 v2 rfl rfl) h2
 clear hA0 hval0
 have hT:PCertTold.Tabs W:=by obtain⟨m,hm⟩:=Go.Proofs.cell_of_shapedOpen_int (zero:=#[.int .i64 0]) (t:=3) hsh (of_decide_eq_true (by kernel_rfl)) (by kernel_rfl) rfl (by kernel_rfl) (by kernel_rfl) Tryd.underlying3;exact⟨⟨⟨tab_of_laid hL,by have:=bLt _ _ hm;simp only at this;omega⟩,m,hm⟩,trivial⟩
 obtain⟨k,hk⟩:=pure_CertTold x0 a1 a2 ok0_ ok1_ ok2_
 refine (ostinatolaw21_CertTold.calls k x0.f0.f0 x0.f0.f1 _ _ x0.f0.f2 x0.f1.f0 x0.f1.f1 _ _ x0.f1.f2 _ _ x0.f1.f3 _ _ x0.f2 a1 a2 true W hr0_2 hc0_2 hr0_5 hc0_5 hr0_6 hc0_6 hr0_7 hc0_7 hk hT).mono fun e W' ⟨he,bel⟩=>?_
 subst he
 exact⟨_,rfl,_,_,_,[],_,[],hW',trodAll_mk1 (shut_bool Tryd.underlying4 _),(trodAll_cons_mk (Below.trod laidOut (by kernel_rfl) (of_decide_eq_true (by kernel_rfl)) k0 bel lt0) (trodAll_cons_mk (Below.trod laidOut (by kernel_rfl) (of_decide_eq_true (by kernel_rfl)) k1 bel lt1) (trodAll_cons_mk (Below.trod laidOut (by kernel_rfl) (of_decide_eq_true (by kernel_rfl)) k2 bel lt2) trodAll_mk0))),rfl,bel.frame _,fun h=>by cases h⟩
theorem over:Rows.certToldRow.holds Tryd.pinned (OpenSpec.ofChange Rows.certToldSpec):=
 OpenClaim.holds_of_wide 4 Tryd.f4 rfl rfl rfl rfl rfl rfl rfl ⟨rfl,rfl,rfl,rfl,rfl⟩ rfl rfl rfl rfl rfl (by kernel_rfl) Tryd.func4 (by kernel_rfl)
  (of_decide_eq_true (by kernel_rfl)) (by unfold Func.isWrapper;rw [if_neg (of_decide_eq_false (by kernel_rfl))];exact⟨rfl,rfl⟩)
  (fun os started H enc _=>lifted os started H enc)
theorem proved:Rows.CertToldCardSaid:=
 Claim7.holds_tied_plain_at .later [] Rows.certToldCard.laidKinds true Rows.certToldCard.stood.harness Rows.certToldCard.stood.looks over (fun _ h=>by cases h) (by kernel_rfl) (fun _ h=>by cases h) certTold_row_tie rfl ⟨rfl,rfl⟩ (by kernel_rfl) rfl
  (fun f fn hf hfn=>by
   obtain rfl:f=4:=Option.some.inj ((show Tryd.prog.funcNamed "ostinato/ostinatolaw21.CertTold" = some 4 by kernel_rfl).symm.trans hf) |>.symm
   obtain rfl:fn=Tryd.f4:=(Option.some.inj (Tryd.func4.symm.trans hfn)).symm
   exact⟨by kernel_rfl,fun j t ht=>by
    rw [Tryd.params4] at ht
    have hm:t ∈ ([30,3,2]:List Nat):=by simpa using Array.mem_of_getElem? ht
    have hall:(([30,3,2]:List Nat).all fun u=>!Tryd.prog.wantsStandIn u)=true:=by kernel_rfl
    exact (show Tryd.prog.wantsStandIn t=false by simpa using List.all_eq_true.1 hall t hm)⟩)
  (by kernel_rfl)
#print axioms proved
end Go.Proofs.YtgnaaokhfpfglaaDoor.certToldLaw
