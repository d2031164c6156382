/- ParseFirst: the given statement, as its tied card says it: for every input that can be read the law returns true, and each argument reads as it did. -/
import Derived.Test.YtcfknijdhmildaaDoorZParseFirst4
import Derived.Test.YtcfknijdhmildaaDoorZParseFirst1
import Derived.OpenShut
import Derived.ShutString
import Derived.ChangeOld
import Derived.Stop.Joined
namespace Go.Proofs.YtcfknijdhmildaaDoor.parseFirstLaw
open Go.ChangeShapes Go.WideShapes Go.ChangeAt Go.RowKit Go.Proofs.YtcfknijdhmildaaDoorW.PrintWords Go.Proofs.YtcfknijdhmildaaDoor.PParseFirst
open Go.ChangeMaps (open_string shut_string)
set_option linter.unusedVariables false
theorem own:ownKnob Tryd.prog.godebug=none:=by kernel_rfl
theorem laidOut:laidOutB Tryd.prog=true:=by kernel_rfl
set_option maxRecDepth 100000 in
theorem lifted (os:Os) (started:os.Started) (H:Type) (enc:TypeId × Value→H) :
  ReturnsInHanded {} Tryd.checked os 6 .any (fun w args=>(Rows.parseFirstSpec.pre enc Tryd.prog Tryd.f6 [] false w args∧laidMetH Tryd.prog Rows.parseFirstRow.laid w)∧sizedMet enc Tryd.prog Tryd.f6 (OpenSpec.ofChange Rows.parseFirstSpec) false w args) (Rows.parseFirstSpec.post enc Tryd.prog Tryd.f6 false true false false):=by
 refine handed_laid (C:=Tryd.checked) own started (by kernel_rfl) Tryd.func6
  (ChangeSpec.witness_shaped (enc:=enc) (C:=Tryd.checked) (os:=os) (X:=fun w _=>laidMetH Tryd.prog Rows.parseFirstRow.laid w) false (World.laidAll Tryd.prog os Rows.parseFirstRow.laid) #[.agg #[.int .i64 0,.int .i64 0,.slice none 0 0],.int .i64 0,.string ByteArray.empty] 8 (World.laidAll_os _ _ _) (World.shaped_of_ZipB (by kernel_rfl) (by kernel_rfl)) (by kernel_rfl) (by kernel_rfl) (by kernel_rfl) (laid_met os _)) ?_
 intro W base args ds gs before hval0 hW hL hsh
 have hval:∀ (j:Nat) t v,Tryd.f6.params[j]? = some t→args[j]? = some v→Value.okWide Tryd.prog W .any base t v:=hval0
 have hW':=hW
 obtain⟨p,q,hA0,hV,rfl,hfz,hnd⟩:=hW
 have hA:DataW.TrodAll enc Tryd.prog W 0 (fun _=>true) true Tryd.f6.params.toList args.toList ds p:=hA0
 rw [Tryd.params6] at hA hval
 obtain⟨v0,vs0,d0,ds0,p0,q0,hargs,rfl,rfl,h0,r0⟩:=trodAll_cons hA
 obtain⟨v1,vs1,d1,ds1,p1,q1,rfl,rfl,rfl,h1,r1⟩:=trodAll_cons r0
 obtain⟨v2,vs2,d2,ds2,p2,q2,rfl,rfl,rfl,h2,r2⟩:=trodAll_cons r1
 obtain⟨rfl,rfl,rfl⟩:=trodAll_nil r2
 obtain rfl:args = #[v0,v1,v2]:=by cases args;simp_all
 obtain⟨rfl,rfl⟩:=trodVars_none hV
 have k0:=h0
 have lt0:∀ x ∈ p0,x.block<W.heap.size:=by obtain⟨m,hm⟩:=k0;exact DataW.trod_lt m _ _ _ hm
 obtain⟨cs0,rfl,_⟩:=okWide_struct Tryd.underlying24 (hval 0 24 v0 rfl rfl)
 obtain⟨x0,hK0,ok0_⟩:∃ x:S24,k24.K W x cs0.toList∧ok24 x:=by
  obtain⟨fuel,hf⟩:=h0
  obtain⟨x,hK,hok⟩:=opens24 hf
  refine⟨x,?_,hok⟩
  first|exact hK|(simp [Value.cells] at hK;exact hK)
 obtain⟨A0_2,c0_2,hcs0,hc0_2,hr0_2⟩:=k24_open hK0
 obtain⟨cs0⟩:=cs0
 replace hcs0:cs0=_:=hcs0
 subst hcs0
 have k1:=h1
 have lt1:∀ x ∈ p1,x.block<W.heap.size:=by obtain⟨m,hm⟩:=k1;exact DataW.trod_lt m _ _ _ hm
 obtain⟨a1,rfl,_,_,ok1_⟩:=open_int Tryd.underlying3 (hval 1 3 v1 rfl rfl) h1
 have k2:=h2
 have lt2:∀ x ∈ p2,x.block<W.heap.size:=by obtain⟨m,hm⟩:=k2;exact DataW.trod_lt m _ _ _ hm
 obtain⟨a2,rfl,_,_,ok2_⟩:=open_string Tryd.underlying9 (hval 2 9 v2 rfl rfl) h2
 clear hA0 hval0
 have hT:Tabs W:=by obtain⟨m,hm⟩:=Tryd.laysM143.s1_3 W hsh;exact⟨⟨tab_of_laid hL,by have:=bLt _ _ hm;simp only at this;omega⟩,m,hm⟩
 obtain⟨k,hk⟩:=pure_ParseFirst x0 a1 a2 ok0_ ok1_ ok2_
 refine (ostinatolaw07_ParseFirst.calls k x0.f0 x0.f1 _ _ x0.f2 a1 a2 true W hr0_2 hc0_2 hk hT).mono fun e W' ⟨he,bel⟩=>?_
 subst he
 exact⟨_,rfl,_,_,_,[],_,[],hW',trodAll_mk1 (shut_bool Tryd.underlying4 _),(trodAll_cons_mk (Below.trod laidOut (by kernel_rfl) (of_decide_eq_true (by kernel_rfl)) k0 bel lt0) (trodAll_cons_mk (Below.trod laidOut (by kernel_rfl) (of_decide_eq_true (by kernel_rfl)) k1 bel lt1) (trodAll_cons_mk (Below.trod laidOut (by kernel_rfl) (of_decide_eq_true (by kernel_rfl)) k2 bel lt2) trodAll_mk0))),rfl,bel.frame _,fun h=>by cases h⟩
theorem over:Rows.parseFirstRow.holds Tryd.pinned (OpenSpec.ofChange Rows.parseFirstSpec):=
 OpenClaim.holds_of_wide 6 Tryd.f6 rfl rfl rfl rfl rfl rfl rfl ⟨rfl,rfl,rfl,rfl,rfl⟩ rfl rfl rfl rfl rfl (by kernel_rfl) Tryd.func6 (by kernel_rfl)
  (of_decide_eq_true (by kernel_rfl)) (by unfold Func.isWrapper;rw [if_neg (of_decide_eq_false (by kernel_rfl))];exact⟨rfl,rfl⟩)
  (fun os started H enc _=>lifted os started H enc)
theorem proved:Rows.ParseFirstCardSaid:=
 Claim7.holds_tied_plain_at .later [] Rows.parseFirstCard.laidKinds true Rows.parseFirstCard.stood.harness Rows.parseFirstCard.stood.looks over (fun _ h=>by cases h) (by kernel_rfl) (fun _ h=>by cases h) parseFirst_row_tie rfl ⟨rfl,rfl⟩ (by kernel_rfl) rfl
  (fun f fn hf hfn=>by
   obtain rfl:f=6:=Option.some.inj ((show Tryd.prog.funcNamed "ostinato/ostinatolaw07.ParseFirst" = some 6 by kernel_rfl).symm.trans hf) |>.symm
   obtain rfl:fn=Tryd.f6:=(Option.some.inj (Tryd.func6.symm.trans hfn)).symm
   exact⟨by kernel_rfl,fun j t ht=>by
    rw [Tryd.params6] at ht
    have hm:t ∈ ([24,3,9]:List Nat):=by simpa using Array.mem_of_getElem? ht
    have hall:(([24,3,9]:List Nat).all fun u=>!Tryd.prog.wantsStandIn u)=true:=by kernel_rfl
    exact (show Tryd.prog.wantsStandIn t=false by simpa using List.all_eq_true.1 hall t hm)⟩)
  (by kernel_rfl)
#print axioms proved
end Go.Proofs.YtcfknijdhmildaaDoor.parseFirstLaw
