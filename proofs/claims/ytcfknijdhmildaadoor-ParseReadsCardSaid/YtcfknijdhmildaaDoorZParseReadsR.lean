/- ParseReads: the given statement, as its tied card says it: for every input that can be read the law returns true, and each argument reads as it did. -/
import Derived.Test.YtcfknijdhmildaaDoorZParseReads6
import Derived.OpenShut
import Derived.ShutString
import Derived.ChangeOld
import Derived.Stop.Joined
namespace Go.Proofs.YtcfknijdhmildaaDoor.parseReadsLaw
open Go.ChangeShapes Go.WideShapes Go.ChangeAt Go.RowKit Go.Proofs.YtcfknijdhmildaaDoorW.PrintWords Go.Proofs.YtcfknijdhmildaaDoor.PParseReads
open Go.ChangeMaps (open_string shut_string)
set_option linter.unusedVariables false
theorem own:ownKnob Tryd.prog.godebug=none:=by kernel_rfl
theorem laidOut:laidOutB Tryd.prog=true:=by kernel_rfl
set_option maxRecDepth 100000 in
theorem lifted (os:Os) (started:os.Started) (H:Type) (enc:TypeId × Value→H) :
  ReturnsInHanded {} Tryd.checked os 3 .any (fun w args=>(Rows.parseReadsSpec.pre enc Tryd.prog Tryd.f3 [] false w args∧laidMetH Tryd.prog Rows.parseReadsRow.laid w)∧sizedMet enc Tryd.prog Tryd.f3 (OpenSpec.ofChange Rows.parseReadsSpec) false w args) (Rows.parseReadsSpec.post enc Tryd.prog Tryd.f3 false true false false):=by
 refine handed_laid (C:=Tryd.checked) own started (by kernel_rfl) Tryd.func3
  (ChangeSpec.witness_shaped (enc:=enc) (C:=Tryd.checked) (os:=os) (X:=fun w _=>laidMetH Tryd.prog Rows.parseReadsRow.laid w) false (World.laidAll Tryd.prog os Rows.parseReadsRow.laid) #[.string ByteArray.empty,.agg #[.int .i64 0,.int .i64 0,.slice none 0 0],.agg #[.int .i64 0,.int .i64 0,.int .u8 0]] 8 (World.laidAll_os _ _ _) (World.shaped_of_ZipB (by kernel_rfl) (by kernel_rfl)) (by kernel_rfl) (by kernel_rfl) (by kernel_rfl) (laid_met os _)) ?_
 intro W base args ds gs before hval0 hW hL hsh
 have hval:∀ (j:Nat) t v,Tryd.f3.params[j]? = some t→args[j]? = some v→Value.okWide Tryd.prog W .any base t v:=hval0
 have hW':=hW
 obtain⟨p,q,hA0,hV,rfl,hfz,hnd⟩:=hW
 have hA:DataW.TrodAll enc Tryd.prog W 0 (fun _=>true) true Tryd.f3.params.toList args.toList ds p:=hA0
 rw [Tryd.params3] at hA hval
 obtain⟨v0,vs0,d0,ds0,p0,q0,hargs,rfl,rfl,h0,r0⟩:=trodAll_cons hA
 obtain⟨v1,vs1,d1,ds1,p1,q1,rfl,rfl,rfl,h1,r1⟩:=trodAll_cons r0
 obtain⟨v2,vs2,d2,ds2,p2,q2,rfl,rfl,rfl,h2,r2⟩:=trodAll_cons r1
 obtain⟨rfl,rfl,rfl⟩:=trodAll_nil r2
 obtain rfl:args = #[v0,v1,v2]:=by cases args;simp_all
 obtain⟨rfl,rfl⟩:=trodVars_none hV
 have k0:=h0
 have lt0:∀ x ∈ p0,x.block<W.heap.size:=by obtain⟨m,hm⟩:=k0;exact DataW.trod_lt m _ _ _ hm
 obtain⟨a0,rfl,_,_,ok0_⟩:=open_string Tryd.underlying9 (hval 0 9 v0 rfl rfl) h0
 have k1:=h1
 have lt1:∀ x ∈ p1,x.block<W.heap.size:=by obtain⟨m,hm⟩:=k1;exact DataW.trod_lt m _ _ _ hm
 obtain⟨cs1,rfl,_⟩:=okWide_struct Tryd.underlying24 (hval 1 24 v1 rfl rfl)
 obtain⟨x1,hK1,ok1_⟩:∃ x:S24,k24.K W x cs1.toList∧ok24 x:=by
  obtain⟨fuel,hf⟩:=h1
  obtain⟨x,hK,hok⟩:=opens24 hf
  refine⟨x,?_,hok⟩
  first|exact hK|(simp [Value.cells] at hK;exact hK)
 obtain⟨A1_2,c1_2,hcs1,hc1_2,hr1_2⟩:=k24_open hK1
 obtain⟨cs1⟩:=cs1
 replace hcs1:cs1=_:=hcs1
 subst hcs1
 have k2:=h2
 have lt2:∀ x ∈ p2,x.block<W.heap.size:=by obtain⟨m,hm⟩:=k2;exact DataW.trod_lt m _ _ _ hm
 obtain⟨cs2,rfl,_⟩:=okWide_struct Tryd.underlying26 (hval 2 26 v2 rfl rfl)
 obtain⟨x2,hK2,ok2_⟩:∃ x:S26,k26.K W x cs2.toList∧ok26 x:=by
  obtain⟨fuel,hf⟩:=h2
  obtain⟨x,hK,hok⟩:=opens26 hf
  refine⟨x,?_,hok⟩
  first|exact hK|(simp [Value.cells] at hK;exact hK)
 obtain hcs2:=k26_open hK2
 obtain⟨cs2⟩:=cs2
 replace hcs2:cs2=_:=hcs2
 subst hcs2
 clear hA0 hval0
 obtain⟨mx,hmx⟩:=Tryd.laysM143.s1_3 W hsh
 obtain⟨k,hk⟩:=pure_ParseReads a0 x1 x2 ok0_ ok1_ ok2_
 refine (ostinatolaw07_ParseReads.calls k a0 x1.f0 x1.f1 _ _ x1.f2 x2.f0 x2.f1 x2.f2 true W hr1_2 hc1_2 hk hmx).mono fun e W' ⟨he,bel⟩=>?_
 subst he
 exact⟨_,rfl,_,_,_,[],_,[],hW',trodAll_mk1 (shut_bool Tryd.underlying4 _),(trodAll_cons_mk (Below.trod laidOut (by kernel_rfl) (of_decide_eq_true (by kernel_rfl)) k0 bel lt0) (trodAll_cons_mk (Below.trod laidOut (by kernel_rfl) (of_decide_eq_true (by kernel_rfl)) k1 bel lt1) (trodAll_cons_mk (Below.trod laidOut (by kernel_rfl) (of_decide_eq_true (by kernel_rfl)) k2 bel lt2) trodAll_mk0))),rfl,bel.frame _,fun h=>by cases h⟩
theorem over:Rows.parseReadsRow.holds Tryd.pinned (OpenSpec.ofChange Rows.parseReadsSpec):=
 OpenClaim.holds_of_wide 3 Tryd.f3 rfl rfl rfl rfl rfl rfl rfl ⟨rfl,rfl,rfl,rfl,rfl⟩ rfl rfl rfl rfl rfl (by kernel_rfl) Tryd.func3 (by kernel_rfl)
  (of_decide_eq_true (by kernel_rfl)) (by unfold Func.isWrapper;rw [if_neg (of_decide_eq_false (by kernel_rfl))];exact⟨rfl,rfl⟩)
  (fun os started H enc _=>lifted os started H enc)
theorem proved:Rows.ParseReadsCardSaid:=
 Claim7.holds_tied_plain_at .later [] Rows.parseReadsCard.laidKinds true Rows.parseReadsCard.stood.harness Rows.parseReadsCard.stood.looks over (fun _ h=>by cases h) (by kernel_rfl) (fun _ h=>by cases h) parseReads_row_tie rfl ⟨rfl,rfl⟩ (by kernel_rfl) rfl
  (fun f fn hf hfn=>by
   obtain rfl:f=3:=Option.some.inj ((show Tryd.prog.funcNamed "ostinato/ostinatolaw07.ParseReads" = some 3 by kernel_rfl).symm.trans hf) |>.symm
   obtain rfl:fn=Tryd.f3:=(Option.some.inj (Tryd.func3.symm.trans hfn)).symm
   exact⟨by kernel_rfl,fun j t ht=>by
    rw [Tryd.params3] at ht
    have hm:t ∈ ([9,24,26]:List Nat):=by simpa using Array.mem_of_getElem? ht
    have hall:(([9,24,26]:List Nat).all fun u=>!Tryd.prog.wantsStandIn u)=true:=by kernel_rfl
    exact (show Tryd.prog.wantsStandIn t=false by simpa using List.all_eq_true.1 hall t hm)⟩)
  (by kernel_rfl)
#print axioms proved
end Go.Proofs.YtcfknijdhmildaaDoor.parseReadsLaw
