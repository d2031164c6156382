/- Texts of this claim, one behind the other: PureParseRight, Laid, LaidTab. -/
import Derived.Test.YtcfknijdhmildaaDoorZParseRight3
import Derived.Test.YtcfknijdhmildaaDoorZParseRight4
import Derived.Test.YtcfknijdhmildaaDoorRows
import Derived.Test.YtcfknijdhmildaaDoorCards
import Derived.Test.YtcfknijdhmildaaDoorTie
import Derived.ProofKit
import Derived.LaidMore
import Derived.Lay
import Derived.LaidLaws
import Derived.LaidHandle
import Derived.HandedShaped
import Derived.SevenTiedAt
import Derived.Test.YtcfknijdhmildaaDoorZParseRight1
import Derived.Lib.LaidU8
import Derived.Lib.LaidTab

set_option maxHeartbeats 8000000
set_option maxRecDepth 100000
set_option linter.unusedVariables false
set_option linter.unusedSimpArgs false
section
set_option linter.unusedVariables false
namespace Go.Proofs.YtcfknijdhmildaaDoor.PParseRight
open Go.RowKit Go.Lib Go.Proofs.YtcfknijdhmildaaDoorW.PrintWords
theorem short_f (a:ByteArray):∃ s:ByteArray,ostinatolaw07_short.f a 200=some s∧s.size≤200:=by
 unfold ostinatolaw07_short.f
 by_cases h:(a.size:Int) > 200
 ·refine⟨a.extract 0 200,?_,by rw [ByteArray.size_extract];omega⟩
  rw [if_pos h,if_pos (by decide),if_pos (by omega)]
  rfl
 ·exact⟨a,by rw [if_neg h],by omega⟩
theorem pure_ParseRight (a0:ByteArray) (ok0_:a0.size≤maxLen):∃ k,ostinatolaw07_ParseRight.f k a0=some true:=by
 obtain⟨s,hs,hz⟩:=short_f a0
 refine Ev.rounds (r:=true) ?_
 unfold ostinatolaw07_ParseRight.f
 refine Ev.bindS awake_f ?_
 refine Ev.bindS hs ?_
 rcases parseP_says s (by omega) with ⟨S,R,L,g,G,h1,h2,h3,h4,h5,h6⟩|⟨a,e,h1,h2,h3,h4⟩
 ·have hb:=checkE_each h3
  have hbb:∀ x ∈ L,x.ch.length≤1000000∧x.us.length≤1000000∧x.c≤9223372036854775807:=fun x hx=>by have:=hb x hx;omega
  have hl:=(qaZ h3).2.2.2
  have hfew:=parse_few (by omega) h1
  have hp:=parse_print h3
  have hsz:(printT S R L).size≤65536:=by
   have hs:=qaZ h3
   have a1:=headT_size S R hs.1 hs.2.1
   have a2:=goT_size L (headT S R)
   unfold printT
   omega
  refine Ev.bindS (parse_f (by omega) h1) ?_
  refine Ev.ifp rfl ?_
  refine Ev.bindS (print_f h3 hbb) ?_
  refine Ev.bindS (parse_f hsz hp) ?_
  refine Ev.bind (same_f S R L (by omega) (fun x hx=>⟨(hbb x hx).1,(hbb x hx).2.1⟩)) ?_
  refine Ev.ifp rfl (Ev.ifp rfl ?_)
  refine Ev.bind (check_f S R L (by omega) hbb) ?_
  rw [h3]
  exact Ev.ifp rfl (Ev.ifp rfl (Ev.now _))
 ·refine Ev.bindS (parse_f (by omega) h1) ?_
  refine Ev.ifn h2 ?_
  exact Ev.ifp rfl (Ev.ifp h3 (Ev.ifp h4 (Ev.ifp rfl (Ev.ifp rfl (Ev.now _)))))
end Go.Proofs.YtcfknijdhmildaaDoor.PParseRight
end
section
namespace Go.Proofs.YtcfknijdhmildaaDoor
open Go.ChangeShapes Go.WideShapes Go.ChangeAt Go.RowKit
theorem laid_met (os:Os) (args:Array Value):laidMetH Tryd.prog Rows.parseRightRow.laid ((World.laidAll Tryd.prog os Rows.parseRightRow.laid).forCall (fun _ _=>0) ⟨#[],args,[]⟩).memory:=by
 rw [MakeChecks.laidMetH_plain _ _ _ (by kernel_rfl)]
 exact laidMet_laidAll _ (by kernel_rfl) (by kernel_rfl)
theorem handed_laid {H:Type} {enc:TypeId × Value→H} {C:Checked} {os:Os} {f:FuncId} {fn:Func} {s:ChangeSpec} {l:List (String × DataW Unit)}
  (own:ownKnob C.prog.godebug=none) (started:os.Started) (noInit:C.prog.inits.idxOf? f=none) (hfn:C.prog.funcs[f]? = some fn)
  (witness:∃ (w:World) (tape:Tape) (i:Input),w.os=os∧(w.forCall tape i).Shaped C.prog∧i.vars=[]∧Input.okWide C.prog (w.forCall tape i) .any w.heap.size f i ∧
   ((s.pre enc C.prog fn [] false (w.forCall tape i).memory i.args∧laidMetH C.prog l (w.forCall tape i).memory)∧sizedMet enc C.prog fn (OpenSpec.ofChange s) false (w.forCall tape i).memory i.args)∧({}:Assume).holds C.prog (lone (Frame.enter C.prog f i.args .normal) [] (w.forCall tape i)))
  (contract:∀ (W:World) (base:Nat) (args:Array Value) (ds gs:List (DataW H)) (before:List MemPlace),
   (∀ (j:Nat) t v,fn.params[j]? = some t→args[j]? = some v→Value.okWide C.prog W .any base t v) →
   DataW.Whole enc C.prog fn.params.toList s.vars false W args.toList ds gs before→laidMetH C.prog l W→W.ShapedOpen C.prog →
   Calls C.prog f args W fun e W'=>∃ v,e=.returned v∧s.post enc C.prog fn false true false false W args v W') :
  ReturnsInHanded {} C os f .any (fun w args=>(s.pre enc C.prog fn [] false w args∧laidMetH C.prog l w)∧sizedMet enc C.prog fn (OpenSpec.ofChange s) false w args) (s.post enc C.prog fn false true false false):=by
 refine returnsInHanded_of_calls own started noInit witness ?_
 intro w tape i _ hsh _ hok hpre _
 obtain⟨_,_,_,fn',hfn',_,_,_,_,hval⟩:=hok
 obtain rfl:fn' = fn:=Option.some.inj (hfn'.symm.trans hfn)
 obtain⟨⟨⟨ds,gs,before,hw,_⟩,hl⟩,_⟩:=hpre
 have hw':=DataW.Whole.of_heap (w':=w.forCall tape i) (by rfl) hw
 refine (contract (w.forCall tape i) w.heap.size i.args ds gs before hval hw' (laidMetH.of_heap (by rfl) hl) hsh).mono fun e W' ⟨v,he,hp⟩=>?_
 subst he
 exact ChangeSpec.post_blind hp
end Go.Proofs.YtcfknijdhmildaaDoor
end
section
namespace Go.Proofs.YtcfknijdhmildaaDoor
open Go.RowKit
theorem tab_of_laid {W:World} (h:laidMetH Tryd.prog Rows.parseRightRow.laid W):Lib.TabIs Tryd.prog W "internal/strconv.uint64pow10" .u64 Lib.pow10Tab:=by
 rw [MakeChecks.laidMetH_plain _ _ _ (by kernel_rfl)] at h
 have hm:("internal/strconv.uint64pow10",Rows.laid_internal_strconv_uint64pow10) ∈ Rows.parseRightRow.laid:=by
  unfold Rows.parseRightRow
  simp
 obtain⟨g,t,cs,fuel,p,hg,ht,hv,hd⟩:=Lib.laidMet.reads h hm
 have hg0:Tryd.prog.globalNamed "internal/strconv.uint64pow10" = some 0:=by kernel_rfl
 obtain rfl:=Option.some.inj (hg0.symm.trans hg)
 have e:(Rows.laid_internal_strconv_uint64pow10:DataW Unit)=Lib.tabData .u64 Lib.pow10Tab:=by kernel_rfl
 rw [e] at hd
 have hty:(Tryd.prog.globals[0]?).map (·.type)=some 169:=by kernel_rfl
 obtain rfl:=Option.some.inj (hty.symm.trans ht)
 unfold Lib.TabIs
 rw [hv,← Lib.cells_of_tab Tryd.underlying169 Tryd.underlying90 (by kernel_rfl) (by kernel_rfl) hd]
end Go.Proofs.YtcfknijdhmildaaDoor
end
