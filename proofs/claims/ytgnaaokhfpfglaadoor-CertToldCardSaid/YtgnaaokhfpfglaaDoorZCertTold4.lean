/- Texts of this claim, one behind the other: PCertTold6, PCertTold7, PCertTold8, PCertTold9, PCertTold10. -/
import Derived.Test.YtgnaaokhfpfglaaDoorZCertTold1
import Derived.Test.YtgnaaokhfpfglaaDoorZCertTold2
import Derived.Test.YtgnaaokhfpfglaaDoorZCertTold3

set_option maxHeartbeats 8000000
set_option maxRecDepth 100000
set_option linter.unusedVariables false
set_option linter.unusedSimpArgs false
section
namespace Go.Proofs.YtgnaaokhfpfglaaDoor.PCertTold
open Go.RowKit Go.Proofs.YtgnaaokhfpfglaaDoorW.PrintWords Go.Proofs.YtgnaaokhfpfglaaDoorW.PrintLast Go.Proofs.YtgnaaokhfpfglaaDoorW.PrintMore
attribute [local go_sem] qaW qaU qa3 qa2 qaN qaM qaV qaT
set_option linter.unusedVariables false
set_option linter.unusedSimpArgs false
noncomputable section
mutual
def ostinatoref05_Num_task.l0:Nat→Int→Int→Int→Int→Int→Int→Int→Int→Int→List Int→Int→Int→Int→Int→Int→List Int→Option (Int × Int × Int × Int × Int × List Int × List Int)
 |0,_,_,_,_,_,_,_,_,_,_,_,_,_,_,_,_=>none
 |k+1,x2,aq,ar,ap,ac,ae,af,ag,ab,ah,ai,aj,ak,al,am,aa=>if ap<aq then (if 0≤(IntKind.u64.wrap (ap)) then (if (Go.bits .and .i64 (shr .i64 ab (IntKind.u64.wrap (ap))) 1)=1 then (if aa.length<17592186044416 then (ostinatoref05_Num_task.l0 k x2 aq ap (an (ap+1)) ac ae af ag ab ah ai aj ak al am (aa++[an (ap - ar)])) else (none)) else (ostinatoref05_Num_task.l0 k x2 aq ar (an (ap+1)) ac ae af ag ab ah ai aj ak al am aa)) else (none)) else (if ar > 0 then (if aa.length<17592186044416 then (ostinatoref05_Num_task.j1 k x2 ac ae af ag ab ah ai aj ak al am (aa++[an (aq - ar)])) else (none)) else (ostinatoref05_Num_task.j1 k x2 ac ae af ag ab ah ai aj ak al am aa))
def ostinatoref05_Num_task.j1:Nat→Int→Int→Int→Int→Int→Int→List Int→Int→Int→Int→Int→Int→List Int→Option (Int × Int × Int × Int × Int × List Int × List Int)
 |0,_,_,_,_,_,_,_,_,_,_,_,_,_=>none
 |k+1,x2,aa,ab,ac,ae,af,ag,ah,ai,aj,ak,al,am=>ostinatoref05_Num_task.l1 k x2 0 aa ab ac ae af ag ah ai aj ak al am ([]:List Int)
def ostinatoref05_Num_task.l1:Nat→Int→Int→Int→Int→Int→Int→Int→List Int→Int→Int→Int→Int→Int→List Int→List Int→Option (Int × Int × Int × Int × Int × List Int × List Int)
 |0,_,_,_,_,_,_,_,_,_,_,_,_,_,_,_=>none
 |k+1,x2,ap,aj,ak,al,am,an,ab,ac,ae,af,ag,ah,ai,aa=>if ap<(ab.length:Int) then (if ap<5 then (if 0≤ap then ((ostinatoref05_rest.f (rd ab ap) x2).bind fun t212=>(if aa.length<17592186044416 then (ostinatoref05_Num_task.l1 k x2 (aq (ap+1)) aj ak al am an ab ac ae af ag ah ai (aa++[t212])) else (none))) else (none)) else (some (ac,ae,af,ag,ah,ai,aa))) else (some (ac,ae,af,ag,ah,ai,aa))
end
def ostinatoref05_Num_task.f (k:Nat) (ac:Int) (ae:Int) (ab:Int) (af:Int) (ai:Int) (aj:List Int) (a1:Int) (a2:Int):Option (Int × Int × Int × Int × Int × List Int × List Int):=if 0≤(Go.bits .and .i64 ab 7) then (if (Go.bits .and .i64 ab 7)<8 then ((ostinatoref05_rest.f ae (rd [4,5,6,8,10,12,20,24] (Go.bits .and .i64 ab 7))).bind fun ag=>((ostinatoref05_rest.f ac (aa (1+ag))).bind fun ah=>((ostinatoref05_rest.f af 9).bind fun ak=>(ostinatoref05_Num_task.l0 k a2 (aa (1+ah)) 0 1 ac ae ab af ai aj (aa (a1+1)) (aa (1+ah)) (aa (1+ag)) (rd [4,5,6,8,10,12,20,24] (Go.bits .and .i64 ab 7)) (aa ((aa (10 * (aa (1+ak))))+a1)) ([]:List Int))))) else (none)) else (none)
def ostinatoref05_Num_task.T18:Bool × List (List Nat × List Nat):=(true,[([],[]),([0],[0]),([],[]),([2],[2]),([],[]),([3,4],[3,4]),([5],[5]),([],[]),([6,7],[6,7]),([8],[8]),([1,9,8],[1,9]),([0,1,2,3,4,5,6,7,8,9,10],[]),([11,10,10,0,1,2,3,4,5,6,7,8,9,10],[10,11])])
def ostinatoref05_Num_task.B18:List Nat:=[0,1,0,4,0,28,60,0,252,508,1023,2047,4095]
theorem ostinatoref05_Num_task.tab18:rtab .any (opsOf Tryd.f55 18)=ostinatoref05_Num_task.T18:=by kernel_rfl
theorem ostinatoref05_Num_task.bits18:waitsOk ostinatoref05_Num_task.T18.2 ostinatoref05_Num_task.B18=true:=by kernel_rfl
theorem ostinatoref05_Num_task.calls (k:Nat) (aH:Int) (aJ:Int) (ag:Int) (aG:Int) (aI:Int) (A0_5:Option Addr) (c0_5:Nat) (aA:List Int) (a1:Int) (a2:Int) (r1:Int) (r2:Int) (r3:Int) (r4:Int) (r5:Int) (r6:List Int) (r7:List Int) (w:World) (hr0_5:Kd.C (Kd.int .i64) w A0_5 aA.length aA) (hc0_5:aA.length≤c0_5) (h:ostinatoref05_Num_task.f k aH aJ ag aG aI aA a1 a2=some (r1,r2,r3,r4,r5,r6,r7)) :
  Calls Tryd.prog 55 #[.agg #[.int .i64 aH,.int .i64 aJ,.int .i64 ag,.int .i64 aG,.int .i64 aI,.slice A0_5 aA.length c0_5],.int .i64 a1,.int .i64 a2] w fun e w'=>∃ jl jm:Value,e=.returned (.agg #[.int .i64 r1,.int .i64 r2,.int .i64 r3,.int .i64 r4,.int .i64 r5,jl,jm])∧Kd.R (Kd.int .i64) 2 w' w.heap.size (fun _=>True) jl r6∧Kd.R (Kd.int .i64) 3 w' w.heap.size (fun _=>True) jm r7∧Below w.heap.size w w':=by
 have lb:=Tryd.underlying81
 have ld:=Tryd.underlying53
 have jn:=Tryd.underlying112
 have fL:=qaa.mk hr0_5
 have jo:=qaa.mk hc0_5
 clear hr0_5 hc0_5
 have HB:=qaa.mk (Below.refl w.heap.size w)
 have H:(if 0≤(Go.bits .and .i64 ag 7) then (if (Go.bits .and .i64 ag 7)<8 then ((ostinatoref05_rest.f aJ (rd [4,5,6,8,10,12,20,24] (Go.bits .and .i64 ag 7))).bind fun ax=>((ostinatoref05_rest.f aH (aa (1+ax))).bind fun al=>((ostinatoref05_rest.f aG 9).bind fun aC=>(ostinatoref05_Num_task.l0 k a2 (aa (1+al)) 0 1 aH aJ ag aG aI aA (aa (a1+1)) (aa (1+al)) (aa (1+ax)) (rd [4,5,6,8,10,12,20,24] (Go.bits .and .i64 ag 7)) (aa ((aa (10 * (aa (1+aC))))+a1)) ([]:List Int))))) else (none)) else (none))=some (r1,r2,r3,r4,r5,r6,r7):=h
 clear h
 by_cases c4:0≤(Go.bits .and .i64 ag 7)
 ·rw [if_pos c4] at H
  have fv:decide (0≤(Go.bits .and .i64 ag 7))=true:=decide_eq_true c4
  clear c4
  by_cases c5:(Go.bits .and .i64 ag 7)<8
  ·rw [if_pos c5] at H
   have fw:decide ((Go.bits .and .i64 ag 7)<8)=true:=decide_eq_true c5
   clear c5
   replace H:=Option.bind_eq_some_iff.mp H
   obtain⟨ax,jp,H⟩:=H
   replace H:((ostinatoref05_rest.f aH (aa (1+ax))).bind fun al=>((ostinatoref05_rest.f aG 9).bind fun aC=>(ostinatoref05_Num_task.l0 k a2 (aa (1+al)) 0 1 aH aJ ag aG aI aA (aa (a1+1)) (aa (1+al)) (aa (1+ax)) (rd [4,5,6,8,10,12,20,24] (Go.bits .and .i64 ag 7)) (aa ((aa (10 * (aa (1+aC))))+a1)) ([]:List Int))))=some (r1,r2,r3,r4,r5,r6,r7):=H
   have A6:=qaa.mk jp
   clear jp
   replace H:=Option.bind_eq_some_iff.mp H
   obtain⟨al,jq,H⟩:=H
   replace H:((ostinatoref05_rest.f aG 9).bind fun aC=>(ostinatoref05_Num_task.l0 k a2 (aa (1+al)) 0 1 aH aJ ag aG aI aA (aa (a1+1)) (aa (1+al)) (aa (1+ax)) (rd [4,5,6,8,10,12,20,24] (Go.bits .and .i64 ag 7)) (aa ((aa (10 * (aa (1+aC))))+a1)) ([]:List Int)))=some (r1,r2,r3,r4,r5,r6,r7):=H
   have A7:=qaa.mk jq
   clear jq
   replace H:=Option.bind_eq_some_iff.mp H
   obtain⟨aC,jr,H⟩:=H
   replace H:(ostinatoref05_Num_task.l0 k a2 (aa (1+al)) 0 1 aH aJ ag aG aI aA (aa (a1+1)) (aa (1+al)) (aa (1+ax)) (rd [4,5,6,8,10,12,20,24] (Go.bits .and .i64 ag 7)) (aa ((aa (10 * (aa (1+aC))))+a1)) ([]:List Int))=some (r1,r2,r3,r4,r5,r6,r7):=H
   have A8:=qaa.mk jr
   clear jr
   have H':=qaa.mk H
   clear H
   go_enter Tryd.func55,Tryd.ntmps55
   go_wp2_with (first|((with_reducible refine qap (N:=3) rfl ?_);refine qao ?hg (N:=3) ?hd (cs:=#[.int .i64 aH,.int .i64 aJ,.int .i64 ag,.int .i64 aG,.int .i64 aI,.slice A0_5 aA.length c0_5]) (t:=81) ?hr ?_;(case hd=>rfl);(case hg=>rfl);(case hr=>first|(go_simp;done)|(go_simp;rfl));intro an hg w9 hbox hb;have ab:=qaa.mk (hbox);have js:=qaa.mk ((by rw [hg];exact (qac sB):w.heap.size≤an));have a8:=qaa.mk ((by rw [hg];exact (qac sB):w.heap.size≤an));replace HB:=qaa.mk (qai sB hb);clear hb hbox hg)|((with_reducible refine qap (N:=6) rfl ?_);refine qao ?hg (N:=6) ?hd (cs:=#[.int .i64 0,.int .i64 0,.int .i64 0,.int .i64 0,.int .i64 0,.slice none 0 0,.slice none 0 0]) (t:=53) ?hr ?_;(case hd=>rfl);(case hg=>rfl);(case hr=>first|(go_simp;done)|(go_simp;rfl));intro ai hg lM hbox hb;have ah:=qaa.mk (hbox);have jt:=qaa.mk ((by rw [hg];exact (qac sB):w.heap.size≤ai));have ba:=qaa.mk ((by rw [hg];exact (qac sB):w.heap.size≤ai));replace HB:=qaa.mk (qai sB hb);have aU:=qaa.mk ((by rw [hg];exact Nat.ne_of_lt (sLt ab.out):an≠ai));have aV:=qaa.mk ((by rw [hg];exact Nat.ne_of_gt (sLt ab.out):ai≠an));replace ab:=qaa.mk (sKb ab.out hb);clear hb hbox hg)|((with_reducible refine qap (N:=7) rfl ?_);refine qao ?hg (N:=7) ?hd (cs:=#[.int .i64 0,.int .i64 0,.int .i64 0,.int .i64 0,.int .i64 0,.int .i64 0,.int .i64 0,.int .i64 0]) (t:=112) ?hr ?_;(case hd=>rfl);(case hg=>rfl);(case hr=>first|(go_simp;done)|(go_simp;rfl));intro aw hg ju hbox hb;have af:=qaa.mk (hbox);have jv:=qaa.mk ((by rw [hg];exact (qac sB):w.heap.size≤aw));have be:=qaa.mk ((by rw [hg];exact (qac sB):w.heap.size≤aw));replace HB:=qaa.mk (qai sB hb);have ar:=qaa.mk ((by rw [hg];exact Nat.ne_of_lt (sLt ab.out):an≠aw));have aW:=qaa.mk ((by rw [hg];exact Nat.ne_of_gt (sLt ab.out):aw≠an));replace ab:=qaa.mk (sKb ab.out hb);have az:=qaa.mk ((by rw [hg];exact Nat.ne_of_lt (sLt ah.out):ai≠aw));have bh:=qaa.mk ((by rw [hg];exact Nat.ne_of_gt (sLt ah.out):aw≠ai));replace ah:=qaa.mk (sKb ah.out hb);clear hb hbox hg;have jw:=aW.out;have jx:=ar.out;have jy:=bh.out;have jz:=az.out;obtain⟨bj,bm,bn,bp,bq,bt,bv,bw⟩:=sC8 (w:=ju) af.out;obtain⟨bx,bz,bB,bC,bD,bE,bF,bG⟩:=sF8 af.out)|((with_reducible refine gate_store (t:=112) (p:=7) rfl ?_);refine store_event (t:=112) (p:=7) (v:=?vo_w15) (w1:=((((((((ju.setCell ⟨aw,0,none⟩ (.int .i64 4)).setCell ⟨aw,1,none⟩ (.int .i64 5)).setCell ⟨aw,2,none⟩ (.int .i64 6)).setCell ⟨aw,3,none⟩ (.int .i64 8)).setCell ⟨aw,4,none⟩ (.int .i64 10)).setCell ⟨aw,5,none⟩ (.int .i64 12)).setCell ⟨aw,6,none⟩ (.int .i64 20)).setCell ⟨aw,7,none⟩ (.int .i64 24))) ?hg ?ho ?hn ?hr ?_;(case ho=>rfl);(case hg=>rfl);(case hn=>rfl);(case hr=>first|(go_simp;done)|(go_simp;rfl));intro aT hw;have eR:qaa (aT.heap[an]? = some (.cells #[.int .i64 aH,.int .i64 aJ,.int .i64 ag,.int .i64 aG,.int .i64 aI,.slice A0_5 aA.length c0_5] 81 (0,0))):=⟨(by rw [hw];exact (by refine sM ?_;refine qaf ?_ ar.out _;refine sM ?_;refine qaf ?_ ar.out _;refine sM ?_;refine qaf ?_ ar.out _;refine sM ?_;refine qaf ?_ ar.out _;refine sM ?_;refine qaf ?_ ar.out _;refine sM ?_;refine qaf ?_ ar.out _;refine sM ?_;refine qaf ?_ ar.out _;refine sM ?_;refine qaf ?_ ar.out _;refine sM ?_;exact ab.out))⟩;have eS:qaa (aT.heap[ai]? = some (.cells #[.int .i64 0,.int .i64 0,.int .i64 0,.int .i64 0,.int .i64 0,.slice none 0 0,.slice none 0 0] 53 (0,0))):=⟨(by rw [hw];exact (by refine sM ?_;refine qaf ?_ az.out _;refine sM ?_;refine qaf ?_ az.out _;refine sM ?_;refine qaf ?_ az.out _;refine sM ?_;refine qaf ?_ az.out _;refine sM ?_;refine qaf ?_ az.out _;refine sM ?_;refine qaf ?_ az.out _;refine sM ?_;refine qaf ?_ az.out _;refine sM ?_;refine qaf ?_ az.out _;refine sM ?_;exact ah.out))⟩;have eT:qaa (aT.heap[aw]? = some (.cells #[.int .i64 4,.int .i64 5,.int .i64 6,.int .i64 8,.int .i64 10,.int .i64 12,.int .i64 20,.int .i64 24] 112 (0,0))):=⟨(by rw [hw];exact (by refine sM ?_;refine qak (cs:=#[.int .i64 4,.int .i64 5,.int .i64 6,.int .i64 8,.int .i64 10,.int .i64 12,.int .i64 20,.int .i64 0]) ?_ 7 _ rfl;refine sM ?_;refine qak (cs:=#[.int .i64 4,.int .i64 5,.int .i64 6,.int .i64 8,.int .i64 10,.int .i64 12,.int .i64 0,.int .i64 0]) ?_ 6 _ rfl;refine sM ?_;refine qak (cs:=#[.int .i64 4,.int .i64 5,.int .i64 6,.int .i64 8,.int .i64 10,.int .i64 0,.int .i64 0,.int .i64 0]) ?_ 5 _ rfl;refine sM ?_;refine qak (cs:=#[.int .i64 4,.int .i64 5,.int .i64 6,.int .i64 8,.int .i64 0,.int .i64 0,.int .i64 0,.int .i64 0]) ?_ 4 _ rfl;refine sM ?_;refine qak (cs:=#[.int .i64 4,.int .i64 5,.int .i64 6,.int .i64 0,.int .i64 0,.int .i64 0,.int .i64 0,.int .i64 0]) ?_ 3 _ rfl;refine sM ?_;refine qak (cs:=#[.int .i64 4,.int .i64 5,.int .i64 0,.int .i64 0,.int .i64 0,.int .i64 0,.int .i64 0,.int .i64 0]) ?_ 2 _ rfl;refine sM ?_;refine qak (cs:=#[.int .i64 4,.int .i64 0,.int .i64 0,.int .i64 0,.int .i64 0,.int .i64 0,.int .i64 0,.int .i64 0]) ?_ 1 _ rfl;refine sM ?_;refine qak (cs:=#[.int .i64 0,.int .i64 0,.int .i64 0,.int .i64 0,.int .i64 0,.int .i64 0,.int .i64 0,.int .i64 0]) ?_ 0 _ rfl;refine sM ?_;exact af.out))⟩;have eU:qaa (Below w.heap.size w aT):=⟨(by rw [hw];exact sB)⟩;clear hw;clear ab;clear ah;clear af;clear HB;have ab:=eR;have ah:=eS;have af:=eT;have HB:=eU;clear eR eS eT eU;have jA:=aU.out;have jB:=aV.out;have bH:aT.cell? ⟨an,0,none⟩=some (.int .i64 aH):=(qab ab.out 0).trans rfl;have bI:aT.cell? ⟨an,1,none⟩=some (.int .i64 aJ):=(qab ab.out 1).trans rfl;have bJ:aT.cell? ⟨an,2,none⟩=some (.int .i64 ag):=(qab ab.out 2).trans rfl;have bK:aT.cell? ⟨an,3,none⟩=some (.int .i64 aG):=(qab ab.out 3).trans rfl;have bL:aT.cell? ⟨an,4,none⟩=some (.int .i64 aI):=(qab ab.out 4).trans rfl;have bM:aT.cell? ⟨an,5,none⟩=some (.slice A0_5 aA.length c0_5):=(qab ab.out 5).trans rfl;have bN:=qan ab.out 0;have bO:=qan ab.out 1;have bP:=qan ab.out 2;have bQ:=qan ab.out 3;have bR:=qan ab.out 4;have bS:=qan ab.out 5;have bT:aT.cell? ⟨aw,0,none⟩=some (.int .i64 4):=(qab af.out 0).trans rfl;have bU:aT.cell? ⟨aw,1,none⟩=some (.int .i64 5):=(qab af.out 1).trans rfl;have bV:aT.cell? ⟨aw,2,none⟩=some (.int .i64 6):=(qab af.out 2).trans rfl;have bW:aT.cell? ⟨aw,3,none⟩=some (.int .i64 8):=(qab af.out 3).trans rfl;have bX:aT.cell? ⟨aw,4,none⟩=some (.int .i64 10):=(qab af.out 4).trans rfl;have bY:aT.cell? ⟨aw,5,none⟩=some (.int .i64 12):=(qab af.out 5).trans rfl;have bZ:aT.cell? ⟨aw,6,none⟩=some (.int .i64 20):=(qab af.out 6).trans rfl;have b8:aT.cell? ⟨aw,7,none⟩=some (.int .i64 24):=(qab af.out 7).trans rfl;have b9:=qan af.out 0;have ca:=qan af.out 1;have cb:=qan af.out 2;have ce:=qan af.out 3;have cf:=qan af.out 4;have cg:=qan af.out 5;have cj:=qan af.out 6;have ck:=qan af.out 7;have eP:0≤(Go.bits .and .i64 ag 7:Int):=of_decide_eq_true sA;have eQ:(Go.bits .and .i64 ag 7)<(8:Int):=of_decide_eq_true sA;have jC:aT.cell? ⟨aw,(Go.bits .and .i64 ag 7).toNat,none⟩=some (.int .i64 (rd [4,5,6,8,10,12,20,24] (Go.bits .and .i64 ag 7))):=arrRead (xs:=[4,5,6,8,10,12,20,24]) af.out (Go.bits .and .i64 ag 7) eP eQ;replace eP:=eq_true eP;replace eQ:=eq_true eQ)|((with_reducible refine qaA (f:=54) rfl ?_);refine qa7 (some 24) rfl rfl Tryd.func54 (by kernel_rfl) rfl #[.int .i64 aJ,.int .i64 (rd [4,5,6,8,10,12,20,24] (Go.bits .and .i64 ag 7))] rfl (by (try simp only [List.map_toArray,List.map_cons,List.map_nil]);first|done|rfl|(simp only [List.length_drop,List.length_take];rfl)) ?_;(with_reducible refine (ostinatoref05_rest.calls aJ (rd [4,5,6,8,10,12,20,24] (Go.bits .and .i64 ag 7)) ax _ A6.out).mono ?_);rintro e w' ⟨rfl,⟨nd,rfl⟩⟩;refine⟨_,rfl,?_⟩;(try (rw [drewN_self aT];generalize hq_:World.drewN aT _=aT;have eR:qaa (aT.heap[an]? = some (.cells #[.int .i64 aH,.int .i64 aJ,.int .i64 ag,.int .i64 aG,.int .i64 aI,.slice A0_5 aA.length c0_5] 81 (0,0))):=⟨by rw [← hq_];exact (sK ab.out)⟩;have eS:qaa (aT.heap[ai]? = some (.cells #[.int .i64 0,.int .i64 0,.int .i64 0,.int .i64 0,.int .i64 0,.slice none 0 0,.slice none 0 0] 53 (0,0))):=⟨by rw [← hq_];exact (sK ah.out)⟩;have eT:qaa (aT.heap[aw]? = some (.cells #[.int .i64 4,.int .i64 5,.int .i64 6,.int .i64 8,.int .i64 10,.int .i64 12,.int .i64 20,.int .i64 24] 112 (0,0))):=⟨by rw [← hq_];exact (sK af.out)⟩;have eU:qaa (Below w.heap.size w aT):=⟨by rw [← hq_];exact sB⟩;clear ab ah af HB hq_;have ab:=eR;have ah:=eS;have af:=eT;have HB:=eU;clear eR eS eT eU));have cm:aT.cell? ⟨an,0,none⟩=some (.int .i64 aH):=(qab ab.out 0).trans rfl;have co:aT.cell? ⟨an,1,none⟩=some (.int .i64 aJ):=(qab ab.out 1).trans rfl;have cp:aT.cell? ⟨an,2,none⟩=some (.int .i64 ag):=(qab ab.out 2).trans rfl;have cq:aT.cell? ⟨an,3,none⟩=some (.int .i64 aG):=(qab ab.out 3).trans rfl;have cr:aT.cell? ⟨an,4,none⟩=some (.int .i64 aI):=(qab ab.out 4).trans rfl;have ct:aT.cell? ⟨an,5,none⟩=some (.slice A0_5 aA.length c0_5):=(qab ab.out 5).trans rfl;have cu:=qan ab.out 0;have cv:=qan ab.out 1;have cw:=qan ab.out 2;have cx:=qan ab.out 3;have cy:=qan ab.out 4;have cz:=qan ab.out 5)|((with_reducible refine qaA (f:=54) rfl ?_);refine qa7 (some 29) rfl rfl Tryd.func54 (by kernel_rfl) rfl #[.int .i64 aH,.int .i64 (aa (1+ax))] rfl (by (try simp only [List.map_toArray,List.map_cons,List.map_nil]);first|done|rfl|(simp only [List.length_drop,List.length_take];rfl)) ?_;(with_reducible refine (ostinatoref05_rest.calls aH (aa (1+ax)) al _ A7.out).mono ?_);rintro e w' ⟨rfl,⟨nd,rfl⟩⟩;refine⟨_,rfl,?_⟩;(try (rw [drewN_self aT];generalize hq_:World.drewN aT _=aT;have eR:qaa (aT.heap[an]? = some (.cells #[.int .i64 aH,.int .i64 aJ,.int .i64 ag,.int .i64 aG,.int .i64 aI,.slice A0_5 aA.length c0_5] 81 (0,0))):=⟨by rw [← hq_];exact (sK ab.out)⟩;have eS:qaa (aT.heap[ai]? = some (.cells #[.int .i64 0,.int .i64 0,.int .i64 0,.int .i64 0,.int .i64 0,.slice none 0 0,.slice none 0 0] 53 (0,0))):=⟨by rw [← hq_];exact (sK ah.out)⟩;have eT:qaa (aT.heap[aw]? = some (.cells #[.int .i64 4,.int .i64 5,.int .i64 6,.int .i64 8,.int .i64 10,.int .i64 12,.int .i64 20,.int .i64 24] 112 (0,0))):=⟨by rw [← hq_];exact (sK af.out)⟩;have eU:qaa (Below w.heap.size w aT):=⟨by rw [← hq_];exact sB⟩;clear ab ah af HB hq_;have ab:=eR;have ah:=eS;have af:=eT;have HB:=eU;clear eR eS eT eU));have cA:aT.cell? ⟨an,0,none⟩=some (.int .i64 aH):=(qab ab.out 0).trans rfl;have cB:aT.cell? ⟨an,1,none⟩=some (.int .i64 aJ):=(qab ab.out 1).trans rfl;have cC:aT.cell? ⟨an,2,none⟩=some (.int .i64 ag):=(qab ab.out 2).trans rfl;have cD:aT.cell? ⟨an,3,none⟩=some (.int .i64 aG):=(qab ab.out 3).trans rfl;have cE:aT.cell? ⟨an,4,none⟩=some (.int .i64 aI):=(qab ab.out 4).trans rfl;have cF:aT.cell? ⟨an,5,none⟩=some (.slice A0_5 aA.length c0_5):=(qab ab.out 5).trans rfl;have cG:=qan ab.out 0;have cH:=qan ab.out 1;have cI:=qan ab.out 2;have cJ:=qan ab.out 3;have cK:=qan ab.out 4;have cL:=qan ab.out 5)|((with_reducible refine qaA (f:=54) rfl ?_);refine qa7 (some 38) rfl rfl Tryd.func54 (by kernel_rfl) rfl #[.int .i64 aG,.int .i64 9] rfl (by (try simp only [List.map_toArray,List.map_cons,List.map_nil]);first|done|rfl|(simp only [List.length_drop,List.length_take];rfl)) ?_;(with_reducible refine (ostinatoref05_rest.calls aG 9 aC _ A8.out).mono ?_);rintro e w' ⟨rfl,⟨nd,rfl⟩⟩;refine⟨_,rfl,?_⟩;(try (rw [drewN_self aT];generalize hq_:World.drewN aT _=aT;have eR:qaa (aT.heap[an]? = some (.cells #[.int .i64 aH,.int .i64 aJ,.int .i64 ag,.int .i64 aG,.int .i64 aI,.slice A0_5 aA.length c0_5] 81 (0,0))):=⟨by rw [← hq_];exact (sK ab.out)⟩;have eS:qaa (aT.heap[ai]? = some (.cells #[.int .i64 0,.int .i64 0,.int .i64 0,.int .i64 0,.int .i64 0,.slice none 0 0,.slice none 0 0] 53 (0,0))):=⟨by rw [← hq_];exact (sK ah.out)⟩;have eT:qaa (aT.heap[aw]? = some (.cells #[.int .i64 4,.int .i64 5,.int .i64 6,.int .i64 8,.int .i64 10,.int .i64 12,.int .i64 20,.int .i64 24] 112 (0,0))):=⟨by rw [← hq_];exact (sK af.out)⟩;have eU:qaa (Below w.heap.size w aT):=⟨by rw [← hq_];exact sB⟩;clear ab ah af HB hq_;have ab:=eR;have ah:=eS;have af:=eT;have HB:=eU;clear eR eS eT eU)))|((with_reducible refine qap (N:=11) rfl ?_);refine qao ?hg (N:=11) ?hd (cs:=#[.int .i64 0,.int .i64 0,.int .i64 0,.int .i64 0,.int .i64 0,.slice none 0 0,.slice none 0 0]) (t:=53) ?hr ?_;(case hd=>rfl);(case hg=>rfl);(case hr=>first|(go_simp;done)|(go_simp;rfl));intro aD hg le hbox hb;have ac:=qaa.mk (hbox);have jD:=qaa.mk ((by rw [hg];exact (qac sB):w.heap.size≤aD));have bf:=qaa.mk ((by rw [hg];exact (qac sB):w.heap.size≤aD));replace HB:=qaa.mk (qai sB hb);have aj:=qaa.mk ((by rw [hg];exact Nat.ne_of_lt (sLt ab.out):an≠aD));have aM:=qaa.mk ((by rw [hg];exact Nat.ne_of_gt (sLt ab.out):aD≠an));replace ab:=qaa.mk (sKb ab.out hb);have ap:=qaa.mk ((by rw [hg];exact Nat.ne_of_lt (sLt ah.out):ai≠aD));have aX:=qaa.mk ((by rw [hg];exact Nat.ne_of_gt (sLt ah.out):aD≠ai));replace ah:=qaa.mk (sKb ah.out hb);have aq:=qaa.mk ((by rw [hg];exact Nat.ne_of_lt (sLt af.out):aw≠aD));have aY:=qaa.mk ((by rw [hg];exact Nat.ne_of_gt (sLt af.out):aD≠aw));replace af:=qaa.mk (sKb af.out hb);clear hb hbox hg;have jE:=aM.out;have jF:=aj.out;have jG:=aX.out;have jH:=ap.out;have jI:=aY.out;have jJ:=aq.out;obtain⟨cM,cN,cO,cP,cQ,cR,cS⟩:=sC7 (w:=le) ac.out;obtain⟨cT,cU,cV,cW,cX,cY,cZ⟩:=sF7 ac.out))
   go_loopg [12,13] k (fun kq lf lg w'=>∃ (aQ:Int) (aE:Int) (am:List Int) (ay:Value),lf=.int .i64 aQ∧lg=.int .i64 aE∧qaa (ostinatoref05_Num_task.l0 kq a2 (aa (1+al)) aQ aE aH aJ ag aG aI aA (aa (a1+1)) (aa (1+al)) (aa (1+ax)) (rd [4,5,6,8,10,12,20,24] (Go.bits .and .i64 ag 7)) (aa ((aa (10 * (aa (1+aC))))+a1)) am=some (r1,r2,r3,r4,r5,r6,r7))∧qaa (kq≤k)∧qaa (Kd.R (Kd.int .i64) 2 w' w.heap.size (fun _=>True) ay am)∧qaa (w'.heap[an]? = some (.cells #[.int .i64 aH,.int .i64 aJ,.int .i64 ag,.int .i64 aG,.int .i64 aI,(.slice A0_5 aA.length c0_5)] 81 (0,0)))∧qaa (w'.heap[ai]? = some (.cells #[.int .i64 0,.int .i64 0,.int .i64 0,.int .i64 0,.int .i64 0,(.slice none 0 0),(.slice none 0 0)] 53 (0,0)))∧qaa (w'.heap[aw]? = some (.cells #[.int .i64 4,.int .i64 5,.int .i64 6,.int .i64 8,.int .i64 10,.int .i64 12,.int .i64 20,.int .i64 24] 112 (0,0)))∧qaa (w'.heap[aD]? = some (.cells #[.int .i64 (aa (a1+1)),.int .i64 (aa (1+al)),.int .i64 (aa (1+ax)),.int .i64 (rd [4,5,6,8,10,12,20,24] (Go.bits .and .i64 ag 7)),.int .i64 (aa ((aa (10 * (aa (1+aC))))+a1)),ay,(.slice none 0 0)] 53 (0,0)))∧qaa (Below w.heap.size w w'))
   case atStart=>exact⟨(0),(1),(([]:List Int)),(.slice none 0 0),(by first|rfl|(simp;done)|(simp [*];done)),(by first|rfl|(simp;done)|(simp [*];done)),H',⟨Nat.le_refl _⟩,⟨by first|exact Kd.R_nil _ _ _ _ _|exact Kd.N_nil _ _ _ _ _|exact Kd.V_nil _ _ _ _ _|exact Kd.Q_nil _ _ _ _ _|exact Kd.S_nil _ _ _ _ _⟩,⟨by refine sM ?_;refine qaf ?_ aj.out _;refine sM ?_;refine qaf ?_ aj.out _;refine sM ?_;refine qaf ?_ aj.out _;refine sM ?_;refine qaf ?_ aj.out _;refine sM ?_;refine qaf ?_ aj.out _;refine sM ?_;refine qaf ?_ aj.out _;refine sM ?_;refine qaf ?_ aj.out _;refine sM ?_;exact ab.out⟩,⟨by refine sM ?_;refine qaf ?_ ap.out _;refine sM ?_;refine qaf ?_ ap.out _;refine sM ?_;refine qaf ?_ ap.out _;refine sM ?_;refine qaf ?_ ap.out _;refine sM ?_;refine qaf ?_ ap.out _;refine sM ?_;refine qaf ?_ ap.out _;refine sM ?_;refine qaf ?_ ap.out _;refine sM ?_;exact ah.out⟩,⟨by refine sM ?_;refine qaf ?_ aq.out _;refine sM ?_;refine qaf ?_ aq.out _;refine sM ?_;refine qaf ?_ aq.out _;refine sM ?_;refine qaf ?_ aq.out _;refine sM ?_;refine qaf ?_ aq.out _;refine sM ?_;refine qaf ?_ aq.out _;refine sM ?_;refine qaf ?_ aq.out _;refine sM ?_;exact af.out⟩,⟨by refine sM ?_;refine qak (cs:=#[.int .i64 (aa (a1+1)),.int .i64 (aa (1+al)),.int .i64 (aa (1+ax)),.int .i64 (rd [4,5,6,8,10,12,20,24] (Go.bits .and .i64 ag 7)),.int .i64 (aa ((aa (10 * (aa (1+aC))))+a1)),.slice none 0 0,.slice none 0 0]) ?_ 6 _ rfl;refine sM ?_;refine qak (cs:=#[.int .i64 (aa (a1+1)),.int .i64 (aa (1+al)),.int .i64 (aa (1+ax)),.int .i64 (rd [4,5,6,8,10,12,20,24] (Go.bits .and .i64 ag 7)),.int .i64 (aa ((aa (10 * (aa (1+aC))))+a1)),.slice none 0 0,.slice none 0 0]) ?_ 5 _ rfl;refine sM ?_;refine qak (cs:=#[.int .i64 (aa (a1+1)),.int .i64 (aa (1+al)),.int .i64 (aa (1+ax)),.int .i64 (rd [4,5,6,8,10,12,20,24] (Go.bits .and .i64 ag 7)),.int .i64 0,.slice none 0 0,.slice none 0 0]) ?_ 4 _ rfl;refine sM ?_;refine qak (cs:=#[.int .i64 (aa (a1+1)),.int .i64 (aa (1+al)),.int .i64 (aa (1+ax)),.int .i64 0,.int .i64 0,.slice none 0 0,.slice none 0 0]) ?_ 3 _ rfl;refine sM ?_;refine qak (cs:=#[.int .i64 (aa (a1+1)),.int .i64 (aa (1+al)),.int .i64 0,.int .i64 0,.int .i64 0,.slice none 0 0,.slice none 0 0]) ?_ 2 _ rfl;refine sM ?_;refine qak (cs:=#[.int .i64 (aa (a1+1)),.int .i64 0,.int .i64 0,.int .i64 0,.int .i64 0,.slice none 0 0,.slice none 0 0]) ?_ 1 _ rfl;refine sM ?_;refine qak (cs:=#[.int .i64 0,.int .i64 0,.int .i64 0,.int .i64 0,.int .i64 0,.slice none 0 0,.slice none 0 0]) ?_ 0 _ rfl;refine sM ?_;exact ac.out⟩,⟨by repeat (first|(with_reducible first|exact HB.out|apply qah|apply qae|apply qag|refine qad ?_ a8.out|refine qad ?_ ba.out|refine qad ?_ be.out|refine qad ?_ bf.out)|exact HB.out)⟩⟩
   case round=>
    clear H'
    try clear c1
    try clear c2
    try clear p2
    try clear q2
    try clear jK
    try clear c4
    try clear fv
    try clear c5
    try clear fw
    try clear p6
    try clear jL
    try clear jM
    try clear jN
    try clear ge
    try clear gf
    try clear fM
    try clear jO
    try clear jP
    try clear jQ
    try clear bj bm bn bp bq bt bv bw
    try clear bH bI bJ bK bL bM
    try clear bT bU bV bW bX bY bZ b8
    try clear cm co cp cq cr ct
    try clear cA cB cC cD cE cF
    try clear cM cN cO cP cQ cR cS
    try clear bx bz bB bC bD bE bF bG
    try clear bN bO bP bQ bR bS
    try clear b9 ca cb ce cf cg cj ck
    try clear cu cv cw cx cy cz
    try clear cG cH cI cJ cK cL
    try clear cT cU cV cW cX cY cZ
    try clear eP
    try clear eQ
    obtain⟨aQ,aE,am,ay,rfl,rfl,HA,fi,ae,ab,ah,af,ac,HB⟩:=hrel
    cases gk with
    |zero=>exact absurd HA.out (by simp [ostinatoref05_Num_task.l0])
    |succ k1=>
     have H:=HA.out
     clear HA
     simp only [ostinatoref05_Num_task.l0] at H
     by_cases fj:aE<(aa (1+al))
     ·rw [if_pos fj] at H
      have eV:decide (aE<(aa (1+al)))=true:=decide_eq_true fj
      clear fj
      obtain⟨da,fk⟩:∃ j_:Int,(IntKind.u64.wrap (aE))=j_:=⟨_,rfl⟩
      replace H:(if 0≤(da) then (if (Go.bits .and .i64 (shr .i64 aI (da)) 1)=1 then (if am.length<17592186044416 then (ostinatoref05_Num_task.l0 k1 a2 (aa (1+al)) aE (aa (aE+1)) aH aJ ag aG aI aA (aa (a1+1)) (aa (1+al)) (aa (1+ax)) (rd [4,5,6,8,10,12,20,24] (Go.bits .and .i64 ag 7)) (aa ((aa (10 * (aa (1+aC))))+a1)) (am++[aa (aE - aQ)])) else (none)) else (ostinatoref05_Num_task.l0 k1 a2 (aa (1+al)) aQ (aa (aE+1)) aH aJ ag aG aI aA (aa (a1+1)) (aa (1+al)) (aa (1+ax)) (rd [4,5,6,8,10,12,20,24] (Go.bits .and .i64 ag 7)) (aa ((aa (10 * (aa (1+aC))))+a1)) am)) else (none))=some (r1,r2,r3,r4,r5,r6,r7):=by first|(rw [fk] at H;exact H)|(simp only [fk] at H ⊢;exact H)
      by_cases fx:0≤(da)
      ·rw [if_pos fx] at H
       have fl:=eq_true fx
       have fm:decide (0≤(da))=true:=decide_eq_true fx
       clear fx
       obtain⟨db,df⟩:∃ j_:Int,(shr .i64 aI (da))=j_:=⟨_,rfl⟩
       replace H:(if (Go.bits .and .i64 (db) 1)=1 then (if am.length<17592186044416 then (ostinatoref05_Num_task.l0 k1 a2 (aa (1+al)) aE (aa (aE+1)) aH aJ ag aG aI aA (aa (a1+1)) (aa (1+al)) (aa (1+ax)) (rd [4,5,6,8,10,12,20,24] (Go.bits .and .i64 ag 7)) (aa ((aa (10 * (aa (1+aC))))+a1)) (am++[aa (aE - aQ)])) else (none)) else (ostinatoref05_Num_task.l0 k1 a2 (aa (1+al)) aQ (aa (aE+1)) aH aJ ag aG aI aA (aa (a1+1)) (aa (1+al)) (aa (1+ax)) (rd [4,5,6,8,10,12,20,24] (Go.bits .and .i64 ag 7)) (aa ((aa (10 * (aa (1+aC))))+a1)) am))=some (r1,r2,r3,r4,r5,r6,r7):=by first|(rw [df] at H;exact H)|(simp only [df] at H ⊢;exact H)
       have jd:(aI / 2 ^ min (da).toNat 64)=db:=df
       have hji29z:(da)≤64→(aI / 2 ^ (da).toNat)=db:=shr_small df
       by_cases fa:(Go.bits .and .i64 (db) 1)=1
       ·rw [if_pos fa] at H
        have eW:((Go.bits .and .i64 (db) 1) == 1)=true:=beq_iff_eq.mpr fa
        have eX:((Go.bits .and .i64 (db) 1) != 1)=false:=bne_eq_false_iff_eq.mpr fa
        clear fa
        by_cases fH:am.length<17592186044416
        ·rw [if_pos fH] at H
         have fN:=qaa.mk fH
         clear fH
         obtain⟨fb,dc⟩:∃ y_:List Int,y_=(am++[aa (aE - aQ)]):=⟨_,rfl⟩
         replace H:(ostinatoref05_Num_task.l0 k1 a2 (aa (1+al)) aE (aa (aE+1)) aH aJ ag aG aI aA (aa (a1+1)) (aa (1+al)) (aa (1+ax)) (rd [4,5,6,8,10,12,20,24] (Go.bits .and .i64 ag 7)) (aa ((aa (10 * (aa (1+aC))))+a1)) fb)=some (r1,r2,r3,r4,r5,r6,r7):=by first|(rw [dc];with_reducible exact H)|(have eY:=(Option.bind_some _ _).symm.trans H;rw [dc];with_reducible exact eY)|(have eY:=(Option.bind_some _ _).symm.trans H;with_reducible exact eY)|with_reducible exact H|(rw [dc];exact H)|exact H
         have fO:=qaa.mk dc
         clear dc
         have H':=qaa.mk H
         clear H
         have jR:=aU.out
         have jS:=aV.out
         have jT:=ar.out
         have jU:=aW.out
         have jV:=aj.out
         have jW:=aM.out
         obtain⟨dg,dh,di,dj,dk,dl⟩:=sC6 (w:=wr) ab.out
         obtain⟨dm,dn,dp,dq,dr,du⟩:=sF6 ab.out
         have jX:=aX.out
         have jY:=ap.out
         have jZ:=aY.out
         have j9:=aq.out
         obtain⟨dv,dw,dx,dy,dz,dA,dB⟩:=sC7 (w:=wr) ac.out
         obtain⟨dC,dD,dE,dF,dG,dH,dI⟩:=sF7 ac.out
         go_wp2_with (first|((with_reducible refine qaB (b:=.append) (xs:=#[.tmp 57,.tmp 61]) rfl ?_);at_builtin;refine Kd.R_append (Kd.int .i64) (w0:=w) w.heap.size rfl (.tmp 57) (.tmp 61) 34 2 (.int .i64 0) 8 rfl Tryd.underlying34 info2 rfl (by decide) (by omega) ay am (aa (aE - aQ)) [.int .i64 (aa (aE - aQ))] (fun _=>True) (fun _=>False) rfl rfl ?aP (fun _ hk=>hk.elim) ?aF ?aO ?aB ?aS ?aL ?_;(case aP=>exact rfl);(case aB=>exact sB);(case aF=>exact (fun _ _=>trivial));(case aO=>exact (sR ae.out));(case aS=>exact (qac sB));(case aL=>have:=fN.out;omega);intro lh ll ho hb hg hat;rw [← fO.out] at ho;replace ab:=qaa.mk (sKg ab.out hg (Kd.R_ne ae.out ab.out (by decide)));replace ah:=qaa.mk (sKg ah.out hg (Kd.R_ne ae.out ah.out (by decide)));replace af:=qaa.mk (sKg af.out hg (Kd.R_ne ae.out af.out (by decide)));replace ac:=qaa.mk (sKg ac.out hg (Kd.R_ne ae.out ac.out (by decide)));replace HB:=qaa.mk (hb);have fo:=qaa.mk (ho);clear ae ho hb hg hat;obtain⟨fP,fQ,je⟩:=Kd.R_slice fo.out;subst je;obtain⟨dJ,dK,dL,dM,dN,dO,dP⟩:=sC7 (w:=ll) ac.out;obtain⟨dQ,dT,dU,dV,dW,dX,dY⟩:=sF7 ac.out))
         go_roundg k1
         case measure=>have:=fi.out;omega
         case rel=>exact⟨(aE),(aa (aE+1)),(fb),(.slice fP fb.length fQ),(by first|rfl|(simp;done)|(simp [*];done)),(by first|rfl|(simp;done)|(simp [*];done)),H',⟨by have:=fi.out;omega⟩,⟨by refine sRm ?_;exact Kd.R_mono (Kd.R_far (p:=⟨aD,5,none⟩) (Kd.R_types fo.out ac.out (by decide)) (fun _ hk=>hk.2) (.slice fP fb.length fQ)) (fun _ hk=>trivial)⟩,⟨by refine sM ?_;refine qaf ?_ aj.out _;refine sM ?_;exact ab.out⟩,⟨by refine sM ?_;refine qaf ?_ ap.out _;refine sM ?_;exact ah.out⟩,⟨by refine sM ?_;refine qaf ?_ aq.out _;refine sM ?_;exact af.out⟩,⟨by refine sM ?_;refine qak (cs:=#[.int .i64 (aa (a1+1)),.int .i64 (aa (1+al)),.int .i64 (aa (1+ax)),.int .i64 (rd [4,5,6,8,10,12,20,24] (Go.bits .and .i64 ag 7)),.int .i64 (aa ((aa (10 * (aa (1+aC))))+a1)),ay,.slice none 0 0]) ?_ 5 _ rfl;refine sM ?_;exact ac.out⟩,⟨by repeat (first|(with_reducible first|exact HB.out|apply qah|apply qae|apply qag|refine qad ?_ a8.out|refine qad ?_ ba.out|refine qad ?_ be.out|refine qad ?_ bf.out)|exact HB.out)⟩⟩
        ·rw [if_neg fH] at H
         exact absurd H (by simp)
       ·rw [if_neg fa] at H
        have eW:((Go.bits .and .i64 (db) 1) == 1)=false:=beq_eq_false_iff_ne.mpr fa
        have eX:((Go.bits .and .i64 (db) 1) != 1)=true:=bne_iff_ne.mpr fa
        have H':=qaa.mk H
        clear H
        have ka:=aU.out
        have kb:=aV.out
        have kc:=ar.out
        have kd:=aW.out
        have ke:=aj.out
        have kf:=aM.out
        obtain⟨dZ,d7,d8,d9,ea,eb⟩:=sC6 (w:=wr) ab.out
        obtain⟨ec,ed,ef,eg,eh,ek⟩:=sF6 ab.out
        go_wp2
        go_roundg k1
        case measure=>have:=fi.out;omega
        case rel=>exact⟨(aQ),(aa (aE+1)),(am),(ay),(by first|rfl|(simp;done)|(simp [*];done)),(by first|rfl|(simp;done)|(simp [*];done)),H',⟨by have:=fi.out;omega⟩,⟨by refine sRm ?_;exact ae.out⟩,⟨by refine sM ?_;exact ab.out⟩,⟨by refine sM ?_;exact ah.out⟩,⟨by refine sM ?_;exact af.out⟩,⟨by refine sM ?_;exact ac.out⟩,⟨by repeat (first|(with_reducible first|exact HB.out|apply qah|apply qae|apply qag|refine qad ?_ a8.out|refine qad ?_ ba.out|refine qad ?_ be.out|refine qad ?_ bf.out)|exact HB.out)⟩⟩
      ·rw [if_neg fx] at H
       exact absurd H (by simp)
     ·rw [if_neg fj] at H
      have eV:decide (aE<(aa (1+al)))=false:=decide_eq_false fj
      clear fj
      have fy:=qaa.mk H
      clear H
      go_upto_if 66 with (fail)
      go_cut [] (fun wc=>∃ (kq:Nat) (ak:List Int) (ay:Value),qaa (ostinatoref05_Num_task.j1 kq a2 aH aJ ag aG aI aA (aa (a1+1)) (aa (1+al)) (aa (1+ax)) (rd [4,5,6,8,10,12,20,24] (Go.bits .and .i64 ag 7)) (aa ((aa (10 * (aa (1+aC))))+a1)) ak=some (r1,r2,r3,r4,r5,r6,r7))∧qaa (kq≤k1)∧qaa (Kd.R (Kd.int .i64) 2 wc w.heap.size (fun _=>True) ay ak)∧qaa (wc.heap[an]? = some (.cells #[.int .i64 aH,.int .i64 aJ,.int .i64 ag,.int .i64 aG,.int .i64 aI,(.slice A0_5 aA.length c0_5)] 81 (0,0)))∧qaa (wc.heap[ai]? = some (.cells #[.int .i64 0,.int .i64 0,.int .i64 0,.int .i64 0,.int .i64 0,(.slice none 0 0),(.slice none 0 0)] 53 (0,0)))∧qaa (wc.heap[aw]? = some (.cells #[.int .i64 4,.int .i64 5,.int .i64 6,.int .i64 8,.int .i64 10,.int .i64 12,.int .i64 20,.int .i64 24] 112 (0,0)))∧qaa (wc.heap[aD]? = some (.cells #[.int .i64 (aa (a1+1)),.int .i64 (aa (1+al)),.int .i64 (aa (1+ax)),.int .i64 (rd [4,5,6,8,10,12,20,24] (Go.bits .and .i64 ag 7)),.int .i64 (aa ((aa (10 * (aa (1+aC))))+a1)),ay,(.slice none 0 0)] 53 (0,0)))∧qaa (Below w.heap.size w wc))
      case first=>
       have H:=fy.out
       clear fy
       by_cases fp:aQ > 0
       ·rw [if_pos fp] at H
        have bi:decide (0<aQ)=true:=decide_eq_true fp
        clear fp
        (first|rw [bi]|(simp only [qaC,qaE];rw [bi])|skip)
        by_cases fI:am.length<17592186044416
        ·rw [if_pos fI] at H
         have fR:=qaa.mk fI
         clear fI
         obtain⟨fc,dd⟩:∃ y_:List Int,y_=(am++[aa ((aa (1+al)) - aQ)]):=⟨_,rfl⟩
         replace H:(ostinatoref05_Num_task.j1 k1 a2 aH aJ ag aG aI aA (aa (a1+1)) (aa (1+al)) (aa (1+ax)) (rd [4,5,6,8,10,12,20,24] (Go.bits .and .i64 ag 7)) (aa ((aa (10 * (aa (1+aC))))+a1)) fc)=some (r1,r2,r3,r4,r5,r6,r7):=by first|(rw [dd];with_reducible exact H)|(have eY:=(Option.bind_some _ _).symm.trans H;rw [dd];with_reducible exact eY)|(have eY:=(Option.bind_some _ _).symm.trans H;with_reducible exact eY)|with_reducible exact H|(rw [dd];exact H)|exact H
         have fS:=qaa.mk dd
         clear dd
         have H':=qaa.mk H
         clear H
         have kg:=aM.out
         have ki:=aj.out
         have kj:=aX.out
         have km:=ap.out
         have kn:=aY.out
         have ko:=aq.out
         obtain⟨el,en,ep,eq,er,es,et⟩:=sC7 (w:=wr) ac.out
         obtain⟨eu,ev,ew,ex,ey,ez,eA⟩:=sF7 ac.out
         go_wp2_with (first|((with_reducible refine qaB (b:=.append) (xs:=#[.tmp 68,.tmp 72]) rfl ?_);at_builtin;refine Kd.R_append (Kd.int .i64) (w0:=w) w.heap.size rfl (.tmp 68) (.tmp 72) 34 2 (.int .i64 0) 8 rfl Tryd.underlying34 info2 rfl (by decide) (by omega) ay am (aa ((aa (1+al)) - aQ)) [.int .i64 (aa ((aa (1+al)) - aQ))] (fun _=>True) (fun _=>False) rfl rfl ?aP (fun _ hk=>hk.elim) ?aF ?aO ?aB ?aS ?aL ?_;(case aP=>exact rfl);(case aB=>exact sB);(case aF=>exact (fun _ _=>trivial));(case aO=>exact (sR ae.out));(case aS=>exact (qac sB));(case aL=>have:=fR.out;omega);intro lm ln ho hb hg hat;rw [← fS.out] at ho;replace ab:=qaa.mk (sKg ab.out hg (Kd.R_ne ae.out ab.out (by decide)));replace ah:=qaa.mk (sKg ah.out hg (Kd.R_ne ae.out ah.out (by decide)));replace af:=qaa.mk (sKg af.out hg (Kd.R_ne ae.out af.out (by decide)));replace ac:=qaa.mk (sKg ac.out hg (Kd.R_ne ae.out ac.out (by decide)));replace HB:=qaa.mk (hb);have fq:=qaa.mk (ho);clear ae ho hb hg hat;obtain⟨fT,fU,jf⟩:=Kd.R_slice fq.out;subst jf;obtain⟨eB,eC,eD,eE,eF,eG,eH⟩:=sC7 (w:=ln) ac.out;obtain⟨eI,eJ,eK,eL,eM,eN,eO⟩:=sF7 ac.out))
         go_meet
         case rel=>exact⟨_,(fc),(.slice fT fc.length fU),H',⟨by have:=fi.out;first|omega|exact Nat.le_refl _⟩,⟨by refine sRm ?_;exact Kd.R_mono (Kd.R_far (p:=⟨aD,5,none⟩) (Kd.R_types fq.out ac.out (by decide)) (fun _ hk=>hk.2) (.slice fT fc.length fU)) (fun _ hk=>trivial)⟩,⟨by refine sM ?_;refine qaf ?_ aj.out _;refine sM ?_;exact ab.out⟩,⟨by refine sM ?_;refine qaf ?_ ap.out _;refine sM ?_;exact ah.out⟩,⟨by refine sM ?_;refine qaf ?_ aq.out _;refine sM ?_;exact af.out⟩,⟨by refine sM ?_;refine qak (cs:=#[.int .i64 (aa (a1+1)),.int .i64 (aa (1+al)),.int .i64 (aa (1+ax)),.int .i64 (rd [4,5,6,8,10,12,20,24] (Go.bits .and .i64 ag 7)),.int .i64 (aa ((aa (10 * (aa (1+aC))))+a1)),ay,.slice none 0 0]) ?_ 5 _ rfl;refine sM ?_;exact ac.out⟩,⟨by repeat (first|(with_reducible first|exact HB.out|apply qah|apply qae|apply qag|refine qad ?_ a8.out|refine qad ?_ ba.out|refine qad ?_ be.out|refine qad ?_ bf.out)|exact HB.out)⟩⟩
        ·rw [if_neg fI] at H
         exact absurd H (by simp)
       ·rw [if_neg fp] at H
        have bi:decide (0<aQ)=false:=decide_eq_false fp
        clear fp
        (first|rw [bi]|(simp only [qaC,qaE];rw [bi])|skip)
        have H':=qaa.mk H
        clear H
        go_wp2
        go_meet
        case rel=>exact⟨_,(am),(ay),H',⟨by have:=fi.out;first|omega|exact Nat.le_refl _⟩,⟨by refine sRm ?_;exact ae.out⟩,⟨by refine sM ?_;exact ab.out⟩,⟨by refine sM ?_;exact ah.out⟩,⟨by refine sM ?_;exact af.out⟩,⟨by refine sM ?_;exact ac.out⟩,⟨by repeat (first|(with_reducible first|exact HB.out|apply qah|apply qae|apply qag|refine qad ?_ a8.out|refine qad ?_ ba.out|refine qad ?_ be.out|refine qad ?_ bf.out)|exact HB.out)⟩⟩
      case rest=>
       clear fy
       try clear c1
       try clear c2
       try clear p2
       try clear q2
       try clear jK
       try clear c3
       try clear c4
       try clear fv
       try clear c5
       try clear fw
       try clear p6
       try clear jL
       try clear jM
       try clear jN
       try clear ge
       try clear gf
       try clear fM
       try clear jO
       try clear jP
       try clear jQ
       try clear fj
       try clear eV
       try clear fx
       try clear fl
       try clear fm
       try clear fa
       try clear eW
       try clear eX
       try clear fH
       try clear lp
       try clear lq
       try clear lr
       try clear ls
       try clear lv
       try clear lw
       try clear lx
       try clear ly
       try clear fp
       try clear bi
       try clear fI
       try clear lz
       try clear lA
       try clear lB
       try clear lC
       try clear lD
       try clear bj bm bn bp bq bt bv bw
       try clear bH bI bJ bK bL bM
       try clear bT bU bV bW bX bY bZ b8
       try clear cm co cp cq cr ct
       try clear cA cB cC cD cE cF
       try clear cM cN cO cP cQ cR cS
       try clear dg dh di dj dk dl
       try clear dv dw dx dy dz dA dB
       try clear dJ dK dL dM dN dO dP
       try clear dZ d7 d8 d9 ea eb
       try clear el en ep eq er es et
       try clear eB eC eD eE eF eG eH
       try clear bx bz bB bC bD bE bF bG
       try clear bN bO bP bQ bR bS
       try clear b9 ca cb ce cf cg cj ck
       try clear cu cv cw cx cy cz
       try clear cG cH cI cJ cK cL
       try clear cT cU cV cW cX cY cZ
       try clear dm dn dp dq dr du
       try clear dC dD dE dF dG dH dI
       try clear dQ dT dU dV dW dX dY
       try clear ec ed ef eg eh ek
       try clear eu ev ew ex ey ez eA
       try clear eI eJ eK eL eM eN eO
       try clear p2
       try clear ge
       try clear eP
       try clear p6
       try clear q2
       try clear gf
       try clear eQ
       obtain⟨kq,ak,ay,HA,fV,ae,ab,ah,af,ac,HB⟩:=hcut
       cases kq with
       |zero=>exact absurd HA.out (by simp [ostinatoref05_Num_task.j1])
       |succ fW=>
        have H:=HA.out
        clear HA
        simp only [ostinatoref05_Num_task.j1] at H
        have H':=qaa.mk H
        clear H
        go_wp2
        go_loopg [14] fW (fun kq lE w'=>∃ (aK:Int) (au:List Int) (aZ:Value),lE=.int .i64 aK∧qaa (ostinatoref05_Num_task.l1 kq a2 aK aH aJ ag aG aI aA (aa (a1+1)) (aa (1+al)) (aa (1+ax)) (rd [4,5,6,8,10,12,20,24] (Go.bits .and .i64 ag 7)) (aa ((aa (10 * (aa (1+aC))))+a1)) ak au=some (r1,r2,r3,r4,r5,r6,r7))∧qaa (kq≤fW)∧qaa (Kd.R (Kd.int .i64) 2 w' w.heap.size (fun _=>True) ay ak)∧qaa (Kd.R (Kd.int .i64) 3 w' w.heap.size (fun _=>True) aZ au)∧qaa (w'.heap[an]? = some (.cells #[.int .i64 aH,.int .i64 aJ,.int .i64 ag,.int .i64 aG,.int .i64 aI,(.slice A0_5 aA.length c0_5)] 81 (0,0)))∧qaa (w'.heap[ai]? = some (.cells #[.int .i64 0,.int .i64 0,.int .i64 0,.int .i64 0,.int .i64 0,(.slice none 0 0),(.slice none 0 0)] 53 (0,0)))∧qaa (w'.heap[aw]? = some (.cells #[.int .i64 4,.int .i64 5,.int .i64 6,.int .i64 8,.int .i64 10,.int .i64 12,.int .i64 20,.int .i64 24] 112 (0,0)))∧qaa (w'.heap[aD]? = some (.cells #[.int .i64 (aa (a1+1)),.int .i64 (aa (1+al)),.int .i64 (aa (1+ax)),.int .i64 (rd [4,5,6,8,10,12,20,24] (Go.bits .and .i64 ag 7)),.int .i64 (aa ((aa (10 * (aa (1+aC))))+a1)),ay,aZ] 53 (0,0)))∧qaa (Below w.heap.size w w'))
        case atStart=>exact⟨(0),(([]:List Int)),(.slice none 0 0),(by first|rfl|(simp;done)|(simp [*];done)),H',⟨Nat.le_refl _⟩,⟨by refine sRm ?_;exact ae.out⟩,⟨by first|exact Kd.R_nil _ _ _ _ _|exact Kd.N_nil _ _ _ _ _|exact Kd.V_nil _ _ _ _ _|exact Kd.Q_nil _ _ _ _ _|exact Kd.S_nil _ _ _ _ _⟩,⟨by refine sM ?_;exact ab.out⟩,⟨by refine sM ?_;exact ah.out⟩,⟨by refine sM ?_;exact af.out⟩,⟨by refine sM ?_;exact ac.out⟩,⟨by repeat (first|(with_reducible first|exact HB.out|apply qah|apply qae|apply qag|refine qad ?_ a8.out|refine qad ?_ ba.out|refine qad ?_ be.out|refine qad ?_ bf.out)|exact HB.out)⟩⟩
        case round=>
         clear H'
         try clear c1
         try clear c2
         try clear p2
         try clear q2
         try clear jK
         try clear c3
         try clear c4
         try clear fv
         try clear c5
         try clear fw
         try clear p6
         try clear jL
         try clear jM
         try clear jN
         try clear ge
         try clear gf
         try clear fM
         try clear jO
         try clear jP
         try clear jQ
         try clear fj
         try clear eV
         try clear fx
         try clear fl
         try clear fm
         try clear fa
         try clear eW
         try clear eX
         try clear fH
         try clear lp
         try clear lq
         try clear lr
         try clear ls
         try clear lv
         try clear lw
         try clear lx
         try clear ly
         try clear fp
         try clear bi
         try clear fI
         try clear lz
         try clear lA
         try clear lB
         try clear lC
         try clear lD
         try clear bj bm bn bp bq bt bv bw
         try clear bH bI bJ bK bL bM
         try clear bT bU bV bW bX bY bZ b8
         try clear cm co cp cq cr ct
         try clear cA cB cC cD cE cF
         try clear cM cN cO cP cQ cR cS
         try clear dg dh di dj dk dl
         try clear dv dw dx dy dz dA dB
         try clear dJ dK dL dM dN dO dP
         try clear dZ d7 d8 d9 ea eb
         try clear el en ep eq er es et
         try clear eB eC eD eE eF eG eH
         try clear bx bz bB bC bD bE bF bG
         try clear bN bO bP bQ bR bS
         try clear b9 ca cb ce cf cg cj ck
         try clear cu cv cw cx cy cz
         try clear cG cH cI cJ cK cL
         try clear cT cU cV cW cX cY cZ
         try clear dm dn dp dq dr du
         try clear dC dD dE dF dG dH dI
         try clear dQ dT dU dV dW dX dY
         try clear ec ed ef eg eh ek
         try clear eu ev ew ex ey ez eA
         try clear eI eJ eK eL eM eN eO
         try clear p2
         try clear ge
         try clear eP
         try clear p6
         try clear q2
         try clear gf
         try clear eQ
         obtain⟨aK,au,aZ,rfl,HA,kp,ae,av,ab,ah,af,ac,HB⟩:=hrel
         cases gk with
         |zero=>exact absurd HA.out (by simp [ostinatoref05_Num_task.l1])
         |succ k3=>
          have H:=HA.out
          clear HA
          simp only [ostinatoref05_Num_task.l1] at H
          by_cases fJ:aK<(aA.length:Int)
          ·rw [if_pos fJ] at H
           have fX:decide (aK<(aA.length:Int))=true:=decide_eq_true fJ
           clear fJ
           by_cases fK:aK<5
           ·rw [if_pos fK] at H
            have fY:decide (aK<5)=true:=decide_eq_true fK
            clear fK
            by_cases gg:0≤aK
            ·rw [if_pos gg] at H
             have kr:decide (0≤aK)=true:=decide_eq_true gg
             clear gg
             replace H:=Option.bind_eq_some_iff.mp H
             obtain⟨t212,fZ,H⟩:=H
             replace H:(if au.length<17592186044416 then (ostinatoref05_Num_task.l1 k3 a2 (aa (aK+1)) aH aJ ag aG aI aA (aa (a1+1)) (aa (1+al)) (aa (1+ax)) (rd [4,5,6,8,10,12,20,24] (Go.bits .and .i64 ag 7)) (aa ((aa (10 * (aa (1+aC))))+a1)) ak (au++[t212])) else (none))=some (r1,r2,r3,r4,r5,r6,r7):=H
             have lF:=qaa.mk fZ
             clear fZ
             by_cases gh:au.length<17592186044416
             ·rw [if_pos gh] at H
              have ga:=qaa.mk gh
              clear gh
              obtain⟨eZ,de⟩:∃ y_:List Int,y_=(au++[t212]):=⟨_,rfl⟩
              replace H:(ostinatoref05_Num_task.l1 k3 a2 (aa (aK+1)) aH aJ ag aG aI aA (aa (a1+1)) (aa (1+al)) (aa (1+ax)) (rd [4,5,6,8,10,12,20,24] (Go.bits .and .i64 ag 7)) (aa ((aa (10 * (aa (1+aC))))+a1)) ak eZ)=some (r1,r2,r3,r4,r5,r6,r7):=by first|(rw [de];with_reducible exact H)|(have eY:=(Option.bind_some _ _).symm.trans H;rw [de];with_reducible exact eY)|(have eY:=(Option.bind_some _ _).symm.trans H;with_reducible exact eY)|with_reducible exact H|(rw [de];exact H)|exact H
              have gb:=qaa.mk de
              clear de
              have H':=qaa.mk H
              clear H
              have ks:=aU.out
              have kt:=aV.out
              have ku:=ar.out
              have kv:=aW.out
              have kx:=aj.out
              have ky:=aM.out
              obtain⟨gi,gj,gl,gm,gn,go⟩:=sC6 (w:=wr) ab.out
              obtain⟨gp,gq,gr,gt,gu,gv⟩:=sF6 ab.out
              try go_wp2
              replace ae:=qaa.mk (Kd.R_drew ae.out)
              replace av:=qaa.mk (Kd.R_drew av.out)
              replace ab:=qaa.mk (qax ab.out)
              replace ah:=qaa.mk (qax ah.out)
              replace af:=qaa.mk (qax af.out)
              replace ac:=qaa.mk (qax ac.out)
              replace HB:=qaa.mk (qag HB.out)
              have fz:0≤(aK:Int):=of_decide_eq_true sA
              have fA:aK<(aA.length:Int):=of_decide_eq_true sA
              obtain⟨ft,jg,bg⟩:=Kd.at_int fL.out aK fz fA
              have aN:=bg
              cases jg
              replace bg:=(HB.out.cell (bLt w _ bg)).trans bg
              replace fz:=eq_true fz
              replace fA:=eq_true fA
              refine start_ (n:=13) (S:=fun w'=>w'.cell? ⟨aD,0,none⟩=some (.int .i64 (aa (a1+1)))∧w'.cell? ⟨aD,1,none⟩=some (.int .i64 (aa (1+al)))∧w'.cell? ⟨aD,2,none⟩=some (.int .i64 (aa (1+ax)))∧w'.cell? ⟨aD,3,none⟩=some (.int .i64 (rd [4,5,6,8,10,12,20,24] (Go.bits .and .i64 ag 7)))∧w'.cell? ⟨aD,4,none⟩=some (.int .i64 (aa ((aa (10 * (aa (1+aC))))+a1)))∧w'.cell? ⟨aD,5,none⟩=some (ay)∧w'.cell? ⟨aD,6,none⟩=some (aZ)∧w'.cell? ⟨an,0,none⟩=some (.int .i64 aH)∧w'.cell? ⟨an,1,none⟩=some (.int .i64 aJ)∧w'.cell? ⟨an,2,none⟩=some (.int .i64 ag)∧w'.cell? ⟨an,3,none⟩=some (.int .i64 aG)∧w'.cell? ⟨an,4,none⟩=some (.int .i64 aI)∧w'.cell? ⟨an,5,none⟩=some (.slice (some ft) aA.length c0_5)∧w'.cell? (ft.add (aK).toNat)=some (.int .i64 (rd aA aK))) (ds:=[12]) #[false,false,false,false,false,false,false,false,false,false,false,false,false] (by kernel_rfl) rfl rfl ⟨(qab ac.out 0).trans rfl,(qab ac.out 1).trans rfl,(qab ac.out 2).trans rfl,(qab ac.out 3).trans rfl,(qab ac.out 4).trans rfl,(qab ac.out 5).trans rfl,(qab ac.out 6).trans rfl,(qab ab.out 0).trans rfl,(qab ab.out 1).trans rfl,(qab ab.out 2).trans rfl,(qab ab.out 3).trans rfl,(qab ab.out 4).trans rfl,(qab ab.out 5).trans rfl,((HB.out.cell (bLt w _ aN)).trans aN)⟩ (fun hHeld=>?_);refine qaX ostinatoref05_Num_task.tab18 ostinatoref05_Num_task.bits18 (fun HT_ HW_=>?_)
              generalize wr.drew=lN at ae av ab ah af ac HB bg hHeld ⊢
              refine sP 0 (some 86) rfl rfl ?_
              refine sP 2 (some 88) rfl rfl ?_
              refine sP 4 (some 90) rfl rfl ?_
              refine sP 7 (some 93) rfl rfl ?_
              refine qaZ (i:=1) (N:=some 87) (v:=?_) (a':=?_) #[true,true,true,false,true,false,false,true,false,false,false,false,false] rfl rfl (qay HT_.out HW_.out (by kernel_rfl)) (fun _ _ _ h=>h) (Or.inl ⟨by rfl,?_⟩) hHeld ?_ ?_
              rotate_left
              ·rintro w' ⟨s0,s1,s2,s3,s4,s5,s6,s7,s8,s9,kz,kA,kB,kC⟩
               go_simp
               with_reducible rfl
              rotate_left
              ·simp only [Act.put,List.setIfInBounds_toArray,List.set_cons_zero,List.set_cons_succ,qaC,qaE]
               rfl
              refine qaZ (i:=3) (N:=some 89) (v:=?_) (a':=?_) #[true,true,true,true,true,false,false,true,false,false,false,false,false] rfl rfl (qay HT_.out HW_.out (by kernel_rfl)) (fun _ _ _ h=>h) (Or.inl ⟨by rfl,?_⟩) hHeld ?_ ?_
              rotate_left
              ·rintro w' ⟨s0,s1,s2,s3,s4,s5,s6,s7,s8,s9,kz,kA,kB,kC⟩
               go_simp
               with_reducible rfl
              rotate_left
              ·simp only [Act.put,List.setIfInBounds_toArray,List.set_cons_zero,List.set_cons_succ,qaC,qaE]
               rfl
              refine sP 5 (some 91) rfl rfl ?_
              refine qaZ (i:=6) (N:=some 92) (v:=?_) (a':=?_) #[true,true,true,true,true,true,true,true,false,false,false,false,false] rfl rfl (qay HT_.out HW_.out (by kernel_rfl)) (fun _ _ _ h=>h) (Or.inl ⟨by rfl,?_⟩) hHeld ?_ ?_
              rotate_left
              ·rintro w' ⟨s0,s1,s2,s3,s4,s5,s6,s7,s8,s9,kz,kA,kB,kC⟩
               go_simp
               with_reducible rfl
              rotate_left
              ·simp only [Act.put,List.setIfInBounds_toArray,List.set_cons_zero,List.set_cons_succ,qaC,qaE]
               rfl
              refine one_ (i:=8) (N:=some 94) #[true,true,true,true,true,true,true,true,true,false,false,false,false] rfl rfl (qaO HT_.out (by kernel_rfl)) (by decide) (fun K hK=>?_)
              refine goes_ Tryd.func54 (by kernel_rfl) rfl #[.int .i64 (rd aA aK),.int .i64 a2] (by rfl) rfl rfl (by (try simp only [List.map_toArray,List.map_cons,List.map_nil]);first|done|rfl|(simp only [List.length_drop,List.length_take];rfl)) ?_
              with_reducible refine (ostinatoref05_rest.calls (rd aA aK) a2 t212 _ lF.out).mono ?_
              rintro e w' ⟨rfl,⟨nd,rfl⟩⟩
              refine⟨_,rfl,?_⟩
              refine hK.out _ _ ⟨(qab ac.out 0).trans rfl,(qab ac.out 1).trans rfl,(qab ac.out 2).trans rfl,(qab ac.out 3).trans rfl,(qab ac.out 4).trans rfl,(qab ac.out 5).trans rfl,(qab ac.out 6).trans rfl,(qab ab.out 0).trans rfl,(qab ab.out 1).trans rfl,(qab ab.out 2).trans rfl,(qab ab.out 3).trans rfl,(qab ab.out 4).trans rfl,(qab ab.out 5).trans rfl,((HB.out.cell (bLt w _ aN)).trans aN)⟩ (fun hHeld=>?_)
              clear hK K
              refine qa0 (a':=?_) ?_ ?_
              rotate_left
              ·show Act.put _ (some 94) _=_
               simp only [Act.put,List.setIfInBounds_toArray,List.set_cons_zero,List.set_cons_succ,qaC,qaE]
               rfl
              refine one_ (i:=9) (N:=some 95) #[true,true,true,true,true,true,true,true,true,true,false,false,false] rfl rfl (qaO HT_.out (by kernel_rfl)) (by decide) (fun K hK=>?_)
              refine value_ (w1:=?_) (v:=?_) (by rfl) rfl ?_ ?_
              rotate_left 2
              ·go_simp
               constructor
               ·rfl
               ·rfl
              refine hK.out _ _ ⟨(qab (qas ac.out _) 0).trans rfl,(qab (qas ac.out _) 1).trans rfl,(qab (qas ac.out _) 2).trans rfl,(qab (qas ac.out _) 3).trans rfl,(qab (qas ac.out _) 4).trans rfl,(qab (qas ac.out _) 5).trans rfl,(qab (qas ac.out _) 6).trans rfl,(qab (qas ab.out _) 0).trans rfl,(qab (qas ab.out _) 1).trans rfl,(qab (qas ab.out _) 2).trans rfl,(qab (qas ab.out _) 3).trans rfl,(qab (qas ab.out _) 4).trans rfl,(qab (qas ab.out _) 5).trans rfl,(World.cell?_alloc_lt _ _ _ (bLt _ _ (((HB.out.cell (bLt w _ aN)).trans aN)))).trans (((HB.out.cell (bLt w _ aN)).trans aN))⟩ (fun hHeld=>?_)
              clear hK K
              refine qa0 (a':=?_) ?_ ?_
              rotate_left
              ·show Act.put _ (some 95) _=_
               simp only [Act.put,List.setIfInBounds_toArray,List.set_cons_zero,List.set_cons_succ,qaC,qaE]
               rfl
              refine one_ (i:=10) (N:=some 96) #[true,true,true,true,true,true,true,true,true,true,true,false,false] rfl rfl (qaO HT_.out (by kernel_rfl)) (by decide) (fun K hK=>?_)
              refine Kd.R_append_step (Kd.int .i64) (w0:=w) w.heap.size (by rfl) (.tmp 87) (.tmp 95) 25 3 (.int .i64 0) 8 rfl Tryd.underlying25 info3 rfl (by decide) (by omega) aZ au t212 [.int .i64 t212] (fun _=>True) (fun _=>False) rfl rfl ?aP (fun _ hk=>hk.elim) ?aF ?aO ?aB ?aS ?aL ?_
              (case aP=>exact rfl)
              (case aB=>exact sB)
              (case aF=>exact (fun _ _=>trivial))
              (case aO=>exact (sR av.out))
              (case aS=>exact (qac sB))
              (case aL=>have:=ga.out;omega)
              intro lG lH ho hb hg hat
              rw [← gb.out] at ho
              replace ae:=qaa.mk (Kd.R_over' (sR ae.out) (Kd.R_typed (sR av.out)) (by decide) hg)
              replace ab:=qaa.mk (sKg ab.out hg (Kd.R_ne av.out ab.out (by decide)))
              replace ah:=qaa.mk (sKg ah.out hg (Kd.R_ne av.out ah.out (by decide)))
              replace af:=qaa.mk (sKg af.out hg (Kd.R_ne av.out af.out (by decide)))
              replace ac:=qaa.mk (sKg ac.out hg (Kd.R_ne av.out ac.out (by decide)))
              replace HB:=qaa.mk (hb)
              have fu:=qaa.mk (ho)
              clear av ho hb hg hat
              obtain⟨fB,fC,gc⟩:=Kd.R_slice fu.out
              (first|subst gc|(injection gc with kD lI kE;have lJ:=kD.symm;have lK:=kE.symm;clear kD lI kE;subst lJ;subst lK))
              refine hK.out _ _ ⟨(qab ac.out 0).trans rfl,(qab ac.out 1).trans rfl,(qab ac.out 2).trans rfl,(qab ac.out 3).trans rfl,(qab ac.out 4).trans rfl,(qab ac.out 5).trans rfl,(qab ac.out 6).trans rfl,(qab ab.out 0).trans rfl,(qab ab.out 1).trans rfl,(qab ab.out 2).trans rfl,(qab ab.out 3).trans rfl,(qab ab.out 4).trans rfl,(qab ab.out 5).trans rfl,((HB.out.cell (bLt w _ aN)).trans aN)⟩ (fun hHeld=>?_)
              clear hK K
              refine qa0 (a':=?_) ?_ ?_
              rotate_left
              ·show Act.put _ (some 96) _=_
               simp only [Act.put,List.setIfInBounds_toArray,List.set_cons_zero,List.set_cons_succ,qaC,qaE]
               rfl
              refine sP 11 (some 97) rfl rfl ?_
              refine last_ (i:=12) (N:=none) #[true,true,true,true,true,true,true,true,true,true,true,true,true] rfl rfl (qaO HT_.out (by kernel_rfl)) (by decide) (fun K hK=>?_)
              have lL:lH.cell? ⟨aD,6,none⟩=some (aZ):=(qab ac.out 6).trans rfl
              have kF:=qan ac.out 6
              have gw:=aj.out
              have gx:=ap.out
              have gy:=aq.out
              have gz:=aM.out
              have gA:=aX.out
              have gB:=aY.out
              refine skip_ (w1:=?_) (by rfl) rfl ?_ ?_
              rotate_left
              ·go_simp
               rfl
              refine hK.out _ _ ?_
              clear hK K
              refine done_ (done_of HT_.out (by kernel_rfl)) ?_
              try go_wp2
              go_roundg k3
              case measure=>have:=fi.out;have:=fV.out;have:=kp.out;omega
              case rel=>exact⟨(aa (aK+1)),(eZ),(.slice fB eZ.length fC),(by first|rfl|(simp;done)|(simp [*];done)),H',⟨by have:=fi.out;have:=fV.out;have:=kp.out;omega⟩,⟨by refine sRm ?_;exact Kd.R_mono (Kd.R_far (p:=⟨aD,6,none⟩) (Kd.R_types ae.out ac.out (by decide)) (fun _ hk=>hk.2) (.slice fB eZ.length fC)) (fun _ hk=>trivial)⟩,⟨by refine sRm ?_;exact Kd.R_mono (Kd.R_far (p:=⟨aD,6,none⟩) (Kd.R_types fu.out ac.out (by decide)) (fun _ hk=>hk.2) (.slice fB eZ.length fC)) (fun _ hk=>trivial)⟩,⟨by refine sM ?_;refine qaf ?_ aj.out _;refine sM ?_;exact ab.out⟩,⟨by refine sM ?_;refine qaf ?_ ap.out _;refine sM ?_;exact ah.out⟩,⟨by refine sM ?_;refine qaf ?_ aq.out _;refine sM ?_;exact af.out⟩,⟨by refine sM ?_;refine qak (cs:=#[.int .i64 (aa (a1+1)),.int .i64 (aa (1+al)),.int .i64 (aa (1+ax)),.int .i64 (rd [4,5,6,8,10,12,20,24] (Go.bits .and .i64 ag 7)),.int .i64 (aa ((aa (10 * (aa (1+aC))))+a1)),ay,aZ]) ?_ 6 _ rfl;refine sM ?_;exact ac.out⟩,⟨by repeat (first|(with_reducible first|exact HB.out|apply qah|apply qae|apply qag|refine qad ?_ a8.out|refine qad ?_ ba.out|refine qad ?_ be.out|refine qad ?_ bf.out)|exact HB.out)⟩⟩
             ·rw [if_neg gh] at H
              exact absurd H (by simp)
            ·rw [if_neg gg] at H
             exact absurd H (by simp)
           ·rw [if_neg fK] at H
            have fY:decide (aK<5)=false:=decide_eq_false fK
            clear fK
            simp only [Option.some.injEq,Prod.mk.injEq] at H
            obtain⟨rfl,rfl,rfl,rfl,rfl,rfl,rfl⟩:=H
            have kG:=aU.out
            have kH:=aV.out
            have kI:=ar.out
            have kJ:=aW.out
            have kK:=aj.out
            have kL:=aM.out
            obtain⟨gC,gD,gE,gF,gG,gH⟩:=sC6 (w:=wr) ab.out
            obtain⟨gI,gJ,gK,gL,gM,gN⟩:=sF6 ab.out
            have kM:=aX.out
            have kN:=ap.out
            have kO:=aY.out
            have kP:=aq.out
            obtain⟨gO,gP,gQ,gR,gS,gT,gU⟩:=sC7 (w:=wr) ac.out
            obtain⟨gV,gW,gX,gY,gZ,hH,hJ⟩:=sF7 ac.out
            have kQ:=az.out
            have kR:=bh.out
            obtain⟨hO,hX,hY,ia,ib,ic,ie⟩:=sC7 (w:=wr) ah.out
            obtain⟨ig,ii,ij,ik,il,im,io⟩:=sF7 ah.out
            obtain⟨fe,ff,jh⟩:=Kd.R_slice ae.out
            subst jh
            obtain⟨fD,fE,ji⟩:=Kd.R_slice av.out
            subst ji
            go_wp2
            refine bodyPost_ret (results_cell_row rfl _ _ ai 53 #[.int .i64 (aa (a1+1)),.int .i64 (aa (1+al)),.int .i64 (aa (1+ax)),.int .i64 (rd [4,5,6,8,10,12,20,24] (Go.bits .and .i64 ag 7)),.int .i64 (aa ((aa (10 * (aa (1+aC))))+a1)),.slice fe ak.length ff,.slice fD au.length fE] (0,0) _ rfl (by refine sM ?_;refine qak (cs:=#[.int .i64 (aa (a1+1)),.int .i64 (aa (1+al)),.int .i64 (aa (1+ax)),.int .i64 (rd [4,5,6,8,10,12,20,24] (Go.bits .and .i64 ag 7)),.int .i64 (aa ((aa (10 * (aa (1+aC))))+a1)),.slice fe ak.length ff,.slice none 0 0]) ?_ 6 _ rfl;refine sM ?_;refine qak (cs:=#[.int .i64 (aa (a1+1)),.int .i64 (aa (1+al)),.int .i64 (aa (1+ax)),.int .i64 (rd [4,5,6,8,10,12,20,24] (Go.bits .and .i64 ag 7)),.int .i64 (aa ((aa (10 * (aa (1+aC))))+a1)),.slice none 0 0,.slice none 0 0]) ?_ 5 _ rfl;refine sM ?_;refine qak (cs:=#[.int .i64 (aa (a1+1)),.int .i64 (aa (1+al)),.int .i64 (aa (1+ax)),.int .i64 (rd [4,5,6,8,10,12,20,24] (Go.bits .and .i64 ag 7)),.int .i64 0,.slice none 0 0,.slice none 0 0]) ?_ 4 _ rfl;refine sM ?_;refine qak (cs:=#[.int .i64 (aa (a1+1)),.int .i64 (aa (1+al)),.int .i64 (aa (1+ax)),.int .i64 0,.int .i64 0,.slice none 0 0,.slice none 0 0]) ?_ 3 _ rfl;refine sM ?_;refine qak (cs:=#[.int .i64 (aa (a1+1)),.int .i64 (aa (1+al)),.int .i64 0,.int .i64 0,.int .i64 0,.slice none 0 0,.slice none 0 0]) ?_ 2 _ rfl;refine sM ?_;refine qak (cs:=#[.int .i64 (aa (a1+1)),.int .i64 0,.int .i64 0,.int .i64 0,.int .i64 0,.slice none 0 0,.slice none 0 0]) ?_ 1 _ rfl;refine sM ?_;refine qak (cs:=#[.int .i64 0,.int .i64 0,.int .i64 0,.int .i64 0,.int .i64 0,.slice none 0 0,.slice none 0 0]) ?_ 0 _ rfl;refine sM ?_;exact ah.out) Tryd.underlying53 rfl (by kernel_rfl)) rfl ?_
            exact⟨_,_,by first|rfl|(simp [qam,qal]<;>rfl)|(simp [bneNil,bneNilU]<;>rfl)|(simp [*,qam,qal]<;>rfl),by refine sRm ?_;exact Kd.R_mono (Kd.R_far (p:=⟨ai,6,none⟩) (Kd.R_far (p:=⟨ai,5,none⟩) (Kd.R_far (p:=⟨ai,4,none⟩) (Kd.R_far (p:=⟨ai,3,none⟩) (Kd.R_far (p:=⟨ai,2,none⟩) (Kd.R_far (p:=⟨ai,1,none⟩) (Kd.R_far (p:=⟨ai,0,none⟩) (Kd.R_types ae.out ah.out (by decide)) (fun _ hk=>hk.2) (.int .i64 (aa (a1+1)))) (fun _ hk=>hk.2) (.int .i64 (aa (1+al)))) (fun _ hk=>hk.2) (.int .i64 (aa (1+ax)))) (fun _ hk=>hk.2) (.int .i64 (rd [4,5,6,8,10,12,20,24] (Go.bits .and .i64 ag 7)))) (fun _ hk=>hk.2) (.int .i64 (aa ((aa (10 * (aa (1+aC))))+a1)))) (fun _ hk=>hk.2) (.slice fe ak.length ff)) (fun _ hk=>hk.2) (.slice fD au.length fE)) (fun _ hk=>trivial),by refine sRm ?_;exact Kd.R_mono (Kd.R_far (p:=⟨ai,6,none⟩) (Kd.R_far (p:=⟨ai,5,none⟩) (Kd.R_far (p:=⟨ai,4,none⟩) (Kd.R_far (p:=⟨ai,3,none⟩) (Kd.R_far (p:=⟨ai,2,none⟩) (Kd.R_far (p:=⟨ai,1,none⟩) (Kd.R_far (p:=⟨ai,0,none⟩) (Kd.R_types av.out ah.out (by decide)) (fun _ hk=>hk.2) (.int .i64 (aa (a1+1)))) (fun _ hk=>hk.2) (.int .i64 (aa (1+al)))) (fun _ hk=>hk.2) (.int .i64 (aa (1+ax)))) (fun _ hk=>hk.2) (.int .i64 (rd [4,5,6,8,10,12,20,24] (Go.bits .and .i64 ag 7)))) (fun _ hk=>hk.2) (.int .i64 (aa ((aa (10 * (aa (1+aC))))+a1)))) (fun _ hk=>hk.2) (.slice fe ak.length ff)) (fun _ hk=>hk.2) (.slice fD au.length fE)) (fun _ hk=>trivial),by repeat (first|(with_reducible first|exact HB.out|apply qah|apply qae|apply qag|refine qad ?_ a8.out|refine qad ?_ ba.out|refine qad ?_ be.out|refine qad ?_ bf.out)|exact HB.out)⟩
          ·rw [if_neg fJ] at H
           have fX:decide (aK<(aA.length:Int))=false:=decide_eq_false fJ
           clear fJ
           simp only [Option.some.injEq,Prod.mk.injEq] at H
           obtain⟨rfl,rfl,rfl,rfl,rfl,rfl,rfl⟩:=H
           have kS:=aU.out
           have kT:=aV.out
           have kU:=ar.out
           have kV:=aW.out
           have kW:=aj.out
           have kX:=aM.out
           obtain⟨ip,iq,ir,iu,iv,iw⟩:=sC6 (w:=wr) ab.out
           obtain⟨ix,iy,iz,iA,iB,iC⟩:=sF6 ab.out
           have kY:=aX.out
           have kZ:=ap.out
           have k7:=aY.out
           have k8:=aq.out
           obtain⟨iD,iE,iF,iG,iH,iI,iJ⟩:=sC7 (w:=wr) ac.out
           obtain⟨iK,iL,iM,iN,iO,iP,iQ⟩:=sF7 ac.out
           have k9:=az.out
           have la:=bh.out
           obtain⟨iR,iS,iT,iU,iV,iW,iX⟩:=sC7 (w:=wr) ah.out
           obtain⟨iY,iZ,i7,i8,ja,jb,jc⟩:=sF7 ah.out
           obtain⟨fg,fh,jj⟩:=Kd.R_slice ae.out
           subst jj
           obtain⟨fF,fG,jk⟩:=Kd.R_slice av.out
           subst jk
           go_wp2
           refine bodyPost_ret (results_cell_row rfl _ _ ai 53 #[.int .i64 (aa (a1+1)),.int .i64 (aa (1+al)),.int .i64 (aa (1+ax)),.int .i64 (rd [4,5,6,8,10,12,20,24] (Go.bits .and .i64 ag 7)),.int .i64 (aa ((aa (10 * (aa (1+aC))))+a1)),.slice fg ak.length fh,.slice fF au.length fG] (0,0) _ rfl (by refine sM ?_;refine qak (cs:=#[.int .i64 (aa (a1+1)),.int .i64 (aa (1+al)),.int .i64 (aa (1+ax)),.int .i64 (rd [4,5,6,8,10,12,20,24] (Go.bits .and .i64 ag 7)),.int .i64 (aa ((aa (10 * (aa (1+aC))))+a1)),.slice fg ak.length fh,.slice none 0 0]) ?_ 6 _ rfl;refine sM ?_;refine qak (cs:=#[.int .i64 (aa (a1+1)),.int .i64 (aa (1+al)),.int .i64 (aa (1+ax)),.int .i64 (rd [4,5,6,8,10,12,20,24] (Go.bits .and .i64 ag 7)),.int .i64 (aa ((aa (10 * (aa (1+aC))))+a1)),.slice none 0 0,.slice none 0 0]) ?_ 5 _ rfl;refine sM ?_;refine qak (cs:=#[.int .i64 (aa (a1+1)),.int .i64 (aa (1+al)),.int .i64 (aa (1+ax)),.int .i64 (rd [4,5,6,8,10,12,20,24] (Go.bits .and .i64 ag 7)),.int .i64 0,.slice none 0 0,.slice none 0 0]) ?_ 4 _ rfl;refine sM ?_;refine qak (cs:=#[.int .i64 (aa (a1+1)),.int .i64 (aa (1+al)),.int .i64 (aa (1+ax)),.int .i64 0,.int .i64 0,.slice none 0 0,.slice none 0 0]) ?_ 3 _ rfl;refine sM ?_;refine qak (cs:=#[.int .i64 (aa (a1+1)),.int .i64 (aa (1+al)),.int .i64 0,.int .i64 0,.int .i64 0,.slice none 0 0,.slice none 0 0]) ?_ 2 _ rfl;refine sM ?_;refine qak (cs:=#[.int .i64 (aa (a1+1)),.int .i64 0,.int .i64 0,.int .i64 0,.int .i64 0,.slice none 0 0,.slice none 0 0]) ?_ 1 _ rfl;refine sM ?_;refine qak (cs:=#[.int .i64 0,.int .i64 0,.int .i64 0,.int .i64 0,.int .i64 0,.slice none 0 0,.slice none 0 0]) ?_ 0 _ rfl;refine sM ?_;exact ah.out) Tryd.underlying53 rfl (by kernel_rfl)) rfl ?_
           exact⟨_,_,by first|rfl|(simp [qam,qal]<;>rfl)|(simp [bneNil,bneNilU]<;>rfl)|(simp [*,qam,qal]<;>rfl),by refine sRm ?_;exact Kd.R_mono (Kd.R_far (p:=⟨ai,6,none⟩) (Kd.R_far (p:=⟨ai,5,none⟩) (Kd.R_far (p:=⟨ai,4,none⟩) (Kd.R_far (p:=⟨ai,3,none⟩) (Kd.R_far (p:=⟨ai,2,none⟩) (Kd.R_far (p:=⟨ai,1,none⟩) (Kd.R_far (p:=⟨ai,0,none⟩) (Kd.R_types ae.out ah.out (by decide)) (fun _ hk=>hk.2) (.int .i64 (aa (a1+1)))) (fun _ hk=>hk.2) (.int .i64 (aa (1+al)))) (fun _ hk=>hk.2) (.int .i64 (aa (1+ax)))) (fun _ hk=>hk.2) (.int .i64 (rd [4,5,6,8,10,12,20,24] (Go.bits .and .i64 ag 7)))) (fun _ hk=>hk.2) (.int .i64 (aa ((aa (10 * (aa (1+aC))))+a1)))) (fun _ hk=>hk.2) (.slice fg ak.length fh)) (fun _ hk=>hk.2) (.slice fF au.length fG)) (fun _ hk=>trivial),by refine sRm ?_;exact Kd.R_mono (Kd.R_far (p:=⟨ai,6,none⟩) (Kd.R_far (p:=⟨ai,5,none⟩) (Kd.R_far (p:=⟨ai,4,none⟩) (Kd.R_far (p:=⟨ai,3,none⟩) (Kd.R_far (p:=⟨ai,2,none⟩) (Kd.R_far (p:=⟨ai,1,none⟩) (Kd.R_far (p:=⟨ai,0,none⟩) (Kd.R_types av.out ah.out (by decide)) (fun _ hk=>hk.2) (.int .i64 (aa (a1+1)))) (fun _ hk=>hk.2) (.int .i64 (aa (1+al)))) (fun _ hk=>hk.2) (.int .i64 (aa (1+ax)))) (fun _ hk=>hk.2) (.int .i64 (rd [4,5,6,8,10,12,20,24] (Go.bits .and .i64 ag 7)))) (fun _ hk=>hk.2) (.int .i64 (aa ((aa (10 * (aa (1+aC))))+a1)))) (fun _ hk=>hk.2) (.slice fg ak.length fh)) (fun _ hk=>hk.2) (.slice fF au.length fG)) (fun _ hk=>trivial),by repeat (first|(with_reducible first|exact HB.out|apply qah|apply qae|apply qag|refine qad ?_ a8.out|refine qad ?_ ba.out|refine qad ?_ be.out|refine qad ?_ bf.out)|exact HB.out)⟩
  ·rw [if_neg c5] at H
   exact absurd H (by simp)
 ·rw [if_neg c4] at H
  exact absurd H (by simp)
end
end Go.Proofs.YtgnaaokhfpfglaaDoor.PCertTold
end
section
namespace Go.Proofs.YtgnaaokhfpfglaaDoor.PCertTold
open Go.RowKit Go.Proofs.YtgnaaokhfpfglaaDoorW.PrintWords Go.Proofs.YtgnaaokhfpfglaaDoorW.PrintLast Go.Proofs.YtgnaaokhfpfglaaDoorW.PrintMore
attribute [local go_sem] qaW qaU qa3 qa2 qaN qaM qaV qaT
set_option linter.unusedVariables false
set_option linter.unusedSimpArgs false
noncomputable section
def ostinatoref05_System_Made.l0:Nat→Int→Int→Int→List (S81)→Int→Int→List (S53)→Option (Int × Int × (List (S53)))
 |0,_,_,_,_,_,_,_=>none
 |k+1,x4,ag,ah,aa,ab,ae,ac=>if x4<(aa.length:Int) then (if x4<6 then (if 0≤x4 then ((ostinatoref05_Num_task.f k ((qaJ aa x4).f0) ((qaJ aa x4).f1) ((qaJ aa x4).f2) ((qaJ aa x4).f3) ((qaJ aa x4).f4) ((qaJ aa x4).f5) x4 ab).bind fun af=>(if ac.length<1599289640401 then (ostinatoref05_System_Made.l0 k (ai (x4+1)) ag ah aa ab ae (ac++[(⟨af.1,af.2.1,af.2.2.1,af.2.2.2.1,af.2.2.2.2.1,af.2.2.2.2.2.1,af.2.2.2.2.2.2⟩:S53)])) else (none))) else (none)) else (if (ac.length:Int)=0 then (some (ab,ae,(([(⟨1,1,4,4,10,([]:List Int),([]:List Int)⟩:S53)]:List (S53))))) else (some (ab,ae,ac)))) else (if (ac.length:Int)=0 then (some (ab,ae,(([(⟨1,1,4,4,10,([]:List Int),([]:List Int)⟩:S53)]:List (S53))))) else (some (ab,ae,ac)))
def ostinatoref05_System_Made.f (k:Nat) (aa:Int) (ab:Int) (ac:List (S81)):Option (Int × Int × (List (S53))):=(ostinatoref05_rest.f aa 8).bind fun ae=>(ostinatoref05_System_Made.l0 k 0 aa ab ac (af (1+ae)) (Go.bits .and .i64 ab 3) ([]:List (S53)))
def ostinatoref05_System_Made.T1:Bool × List (List Nat × List Nat):=(true,[([],[]),([0],[0]),([1],[1]),([2],[2]),([],[]),([4],[4]),([5],[5]),([3,6],[3,6]),([],[]),([8,7,2,0,1,2,3,4,5,6,7,8],[7,8])])
def ostinatoref05_System_Made.B1:List Nat:=[0,1,3,7,0,16,48,127,0,511]
theorem ostinatoref05_System_Made.tab1:rtab .any (opsOf Tryd.f35 1)=ostinatoref05_System_Made.T1:=by kernel_rfl
theorem ostinatoref05_System_Made.bits1:waitsOk ostinatoref05_System_Made.T1.2 ostinatoref05_System_Made.B1=true:=by kernel_rfl
def ostinatoref05_System_Made.T5:Bool × List (List Nat × List Nat):=(true,[([],[]),([0],[0]),([],[]),([2],[2]),([],[]),([3,4],[3,4]),([5],[5]),([],[]),([],[]),([8],[8]),([6,7,9],[6,7,9]),([10],[10]),([1,11,10],[1,11]),([0,1,2,3,4,5,6,7,8,9,10,11,12],[]),([13,12,12,0,1,2,3,4,5,6,7,8,9,10,11,12],[12,13])])
def ostinatoref05_System_Made.B5:List Nat:=[0,1,0,4,0,28,60,0,0,256,1020,2044,4095,8191,16383]
theorem ostinatoref05_System_Made.tab5:rtab .any (opsOf Tryd.f35 5)=ostinatoref05_System_Made.T5:=by kernel_rfl
theorem ostinatoref05_System_Made.bits5:waitsOk ostinatoref05_System_Made.T5.2 ostinatoref05_System_Made.B5=true:=by kernel_rfl
theorem ostinatoref05_System_Made.calls (k:Nat) (aD:Int) (ar:Int) (A0_2:Option Addr) (c0_2:Nat) (aq:List (S81)) (r1:Int) (r2:Int) (r3:List (S53)) (w:World) (hr0_2:Kd.C k81 w A0_2 aq.length aq) (hc0_2:aq.length≤c0_2) (h:ostinatoref05_System_Made.f k aD ar aq=some (r1,r2,r3)) :
  Calls Tryd.prog 35 #[.agg #[.int .i64 aD,.int .i64 ar,.slice A0_2 aq.length c0_2]] w fun e w'=>∃ eZ:Value,e=.returned (.agg #[.int .i64 r1,.int .i64 r2,eZ])∧Kd.S k53 53 w' w.heap.size (fun _=>True) eZ r3∧Below w.heap.size w w':=by
 have go:=Tryd.underlying79
 have gp:=Tryd.underlying33
 have gq:=Tryd.underlying81
 have gr:=Tryd.underlying53
 have bW:=qaa.mk hr0_2
 have fa:=qaa.mk hc0_2
 clear hr0_2 hc0_2
 have HB:=qaa.mk (Below.refl w.heap.size w)
 have H:((ostinatoref05_rest.f aD 8).bind fun au=>(ostinatoref05_System_Made.l0 k 0 aD ar aq (ah (1+au)) (Go.bits .and .i64 ar 3) ([]:List (S53))))=some (r1,r2,r3):=h
 clear h
 replace H:=Option.bind_eq_some_iff.mp H
 obtain⟨au,fb,H⟩:=H
 replace H:(ostinatoref05_System_Made.l0 k 0 aD ar aq (ah (1+au)) (Go.bits .and .i64 ar 3) ([]:List (S53)))=some (r1,r2,r3):=H
 have A2:=qaa.mk fb
 clear fb
 have H':=qaa.mk H
 clear H
 go_enter Tryd.func35,Tryd.ntmps35
 try go_wp2_with (first|((with_reducible refine qap (N:=1) rfl ?_);refine qao ?hg (N:=1) ?hd (cs:=#[.int .i64 aD,.int .i64 ar,.slice A0_2 aq.length c0_2]) (t:=79) ?hr ?_;(case hd=>rfl);(case hg=>rfl);(case hr=>first|(go_simp;done)|(go_simp;rfl));intro ap hg w3 hbox hb;have aa:=qaa.mk (hbox);have fc:=qaa.mk ((by rw [hg];exact (qac sB):w.heap.size≤ap));have aU:=qaa.mk ((by rw [hg];exact (qac sB):w.heap.size≤ap));replace HB:=qaa.mk (qai sB hb);clear hb hbox hg)|((with_reducible refine qap (N:=2) rfl ?_);refine qao ?hg (N:=2) ?hd (cs:=#[.int .i64 0,.int .i64 0,.slice none 0 0]) (t:=33) ?hr ?_;(case hd=>rfl);(case hg=>rfl);(case hr=>first|(go_simp;done)|(go_simp;rfl));intro am hg w4 hbox hb;have ag:=qaa.mk (hbox);have fe:=qaa.mk ((by rw [hg];exact (qac sB):w.heap.size≤am));have aV:=qaa.mk ((by rw [hg];exact (qac sB):w.heap.size≤am));replace HB:=qaa.mk (qai sB hb);have aE:=qaa.mk ((by rw [hg];exact Nat.ne_of_lt (sLt aa.out):ap≠am));have aG:=qaa.mk ((by rw [hg];exact Nat.ne_of_gt (sLt aa.out):am≠ap));replace aa:=qaa.mk (sKb aa.out hb);clear hb hbox hg))
 replace aa:=qaa.mk (qax aa.out)
 replace ag:=qaa.mk (qax ag.out)
 replace HB:=qaa.mk (qag HB.out)
 refine start_ (n:=10) (S:=fun w'=>w'.cell? ⟨ap,0,none⟩=some (.int .i64 aD)∧w'.cell? ⟨ap,1,none⟩=some (.int .i64 ar)∧w'.cell? ⟨ap,2,none⟩=some (.slice A0_2 aq.length c0_2)) (ds:=[]) #[false,false,false,false,false,false,false,false,false,false] (by kernel_rfl) rfl rfl ⟨(qab aa.out 0).trans rfl,(qab aa.out 1).trans rfl,(qab aa.out 2).trans rfl⟩ (fun hHeld=>?_);refine qaX ostinatoref05_System_Made.tab1 ostinatoref05_System_Made.bits1 (fun HT_ HW_=>?_)
 generalize w4.drew=w5 at aa ag HB hHeld ⊢
 refine sP 0 (some 5) rfl rfl ?_
 refine sP 4 (some 9) rfl rfl ?_
 refine qaZ (i:=1) (N:=some 6) (v:=?_) (a':=?_) #[true,true,false,false,true,false,false,false,false,false] rfl rfl (qay HT_.out HW_.out (by kernel_rfl)) (fun _ _ _ h=>h) (Or.inl ⟨by rfl,?_⟩) hHeld ?_ ?_
 rotate_left
 ·rintro w' ⟨s0,s1,s2⟩
  go_simp
  with_reducible rfl
 rotate_left
 ·simp only [Act.put,List.setIfInBounds_toArray,List.set_cons_zero,List.set_cons_succ,qaC,qaE]
  rfl
 refine qaZ (i:=5) (N:=some 10) (v:=?_) (a':=?_) #[true,true,false,false,true,true,false,false,false,false] rfl rfl (qay HT_.out HW_.out (by kernel_rfl)) (fun _ _ _ h=>h) (Or.inl ⟨by rfl,?_⟩) hHeld ?_ ?_
 rotate_left
 ·rintro w' ⟨s0,s1,s2⟩
  go_simp
  with_reducible rfl
 rotate_left
 ·simp only [Act.put,List.setIfInBounds_toArray,List.set_cons_zero,List.set_cons_succ,qaC,qaE]
  rfl
 refine sP 6 (some 11) rfl rfl ?_
 refine join_ (σ:=Nat) 1 #[true,true,true,true,true,true,true,true,true,false] (fun s_=>[(7,.int .i64 au),(3,.pointer (some ⟨s_,0,none⟩)),(8,.int .i64 (ah (1+au))),(12,.agg #[.int .i64 (ah (1+au)),.int .i64 (Go.bits .and .i64 ar 3),.slice none 0 0])]) (fun s_ w'=>(w'.cell? ⟨ap,0,none⟩=some (.int .i64 aD)∧w'.cell? ⟨ap,1,none⟩=some (.int .i64 ar)∧w'.cell? ⟨ap,2,none⟩=some (.slice A0_2 aq.length c0_2))∧(w'.heap[ap]? = some (.cells #[.int .i64 aD,.int .i64 ar,.slice A0_2 aq.length c0_2] 79 (0,0)))∧(w'.heap[am]? = some (.cells #[.int .i64 0,.int .i64 0,.slice none 0 0] 33 (0,0)))∧(w'.heap[s_]? = some (.cells #[.int .i64 0,.int .i64 0,.slice none 0 0] 33 (0,0)))∧(w.heap.size≤s_)∧(w.heap.size≤s_)∧(ap≠s_)∧(s_≠ap)∧(am≠s_)∧(s_≠am)∧(Below w.heap.size w w')) ?_ ?_
 rotate_left
 ·intro hCont
  refine two_ (i:=2) (j:=8) (Ni:=some 7) (Nj:=some 3) #[true,true,true,false,true,true,true,false,false,false] #[true,true,false,false,true,true,true,false,true,false] rfl rfl rfl rfl (two_of HT_.out (by kernel_rfl)) (by decide) (by decide) (fun K hK=>?_) (fun K hK=>?_)
  ·skip
   refine goes_ Tryd.func54 (by kernel_rfl) rfl #[.int .i64 aD,.int .i64 8] (by rfl) rfl rfl (by (try simp only [List.map_toArray,List.map_cons,List.map_nil]);first|done|rfl|(simp only [List.length_drop,List.length_take];rfl)) ?_
   with_reducible refine (ostinatoref05_rest.calls aD 8 au _ A2.out).mono ?_
   rintro e w' ⟨rfl,⟨nd,rfl⟩⟩
   refine⟨_,rfl,?_⟩
   refine hK.out _ _ ⟨(qab aa.out 0).trans rfl,(qab aa.out 1).trans rfl,(qab aa.out 2).trans rfl⟩ (fun hHeld=>?_)
   clear hK K
   refine qa0 (a':=?_) ?_ ?_
   rotate_left
   ·show Act.put _ (some 7) _=_
    simp only [Act.put,List.setIfInBounds_toArray,List.set_cons_zero,List.set_cons_succ,qaC,qaE]
    rfl
   refine sP 3 (some 8) rfl rfl ?_
   refine sP 7 (some 12) rfl rfl ?_
   refine one_ (i:=8) (N:=some 3) #[true,true,true,true,true,true,true,true,true,false] rfl rfl (qaO HT_.out (by kernel_rfl)) (by decide) (fun K hK=>?_)
   refine box_step ?hg (N:=3) ?hd (cs:=#[.int .i64 0,.int .i64 0,.slice none 0 0]) (t:=33) ?hr ?_;(case hd=>rfl);(case hg=>rfl);(case hr=>first|(go_simp;done)|(go_simp;rfl))
   intro aj hg w6 hbox hb
   have af:=qaa.mk (hbox)
   have ba:=qaa.mk ((by rw [hg];exact (qac sB):w.heap.size≤aj))
   have aI:=qaa.mk ((by rw [hg];exact (qac sB):w.heap.size≤aj))
   replace HB:=qaa.mk (qai sB hb)
   have ab:=qaa.mk ((by rw [hg];exact Nat.ne_of_lt (sLt aa.out):ap≠aj))
   have ak:=qaa.mk ((by rw [hg];exact Nat.ne_of_gt (sLt aa.out):aj≠ap))
   replace aa:=qaa.mk (sKb aa.out hb)
   have ai:=qaa.mk ((by rw [hg];exact Nat.ne_of_lt (sLt ag.out):am≠aj))
   have an:=qaa.mk ((by rw [hg];exact Nat.ne_of_gt (sLt ag.out):aj≠am))
   replace ag:=qaa.mk (sKb ag.out hb)
   clear hb hbox hg
   refine hK.out _ _ ⟨(qab aa.out 0).trans rfl,(qab aa.out 1).trans rfl,(qab aa.out 2).trans rfl⟩ (fun hHeld=>?_)
   clear hK K
   refine qa0 (a':=?_) ?_ ?_
   rotate_left
   ·show Act.put _ (some 3) _=_
    simp only [Act.put,List.setIfInBounds_toArray,List.set_cons_zero,List.set_cons_succ,qaC,qaE]
    rfl
   exact qa0 (by simp only [putAll,Act.put,List.setIfInBounds_toArray,List.set_cons_zero,List.set_cons_succ]) (hCont (aj) _ ⟨hHeld,(sK aa.out),(sK ag.out),(sK af.out),ba.out,aI.out,ab.out,ak.out,ai.out,an.out,sB⟩)
  ·skip
   refine box_step ?hg (N:=3) ?hd (cs:=#[.int .i64 0,.int .i64 0,.slice none 0 0]) (t:=33) ?hr ?_;(case hd=>rfl);(case hg=>rfl);(case hr=>first|(go_simp;done)|(go_simp;rfl))
   intro aj hg w6 hbox hb
   have af:=qaa.mk (hbox)
   have ba:=qaa.mk ((by rw [hg];exact (qac sB):w.heap.size≤aj))
   have aI:=qaa.mk ((by rw [hg];exact (qac sB):w.heap.size≤aj))
   replace HB:=qaa.mk (qai sB hb)
   have ab:=qaa.mk ((by rw [hg];exact Nat.ne_of_lt (sLt aa.out):ap≠aj))
   have ak:=qaa.mk ((by rw [hg];exact Nat.ne_of_gt (sLt aa.out):aj≠ap))
   replace aa:=qaa.mk (sKb aa.out hb)
   have ai:=qaa.mk ((by rw [hg];exact Nat.ne_of_lt (sLt ag.out):am≠aj))
   have an:=qaa.mk ((by rw [hg];exact Nat.ne_of_gt (sLt ag.out):aj≠am))
   replace ag:=qaa.mk (sKb ag.out hb)
   clear hb hbox hg
   refine hK.out _ _ ⟨(qab aa.out 0).trans rfl,(qab aa.out 1).trans rfl,(qab aa.out 2).trans rfl⟩ (fun hHeld=>?_)
   clear hK K
   refine qa0 (a':=?_) ?_ ?_
   rotate_left
   ·show Act.put _ (some 3) _=_
    simp only [Act.put,List.setIfInBounds_toArray,List.set_cons_zero,List.set_cons_succ,qaC,qaE]
    rfl
   refine one_ (i:=2) (N:=some 7) #[true,true,true,false,true,true,true,false,true,false] rfl rfl (qaO HT_.out (by kernel_rfl)) (by decide) (fun K hK=>?_)
   refine goes_ Tryd.func54 (by kernel_rfl) rfl #[.int .i64 aD,.int .i64 8] (by rfl) rfl rfl (by (try simp only [List.map_toArray,List.map_cons,List.map_nil]);first|done|rfl|(simp only [List.length_drop,List.length_take];rfl)) ?_
   with_reducible refine (ostinatoref05_rest.calls aD 8 au _ A2.out).mono ?_
   rintro e w' ⟨rfl,⟨nd,rfl⟩⟩
   refine⟨_,rfl,?_⟩
   refine hK.out _ _ ⟨(qab aa.out 0).trans rfl,(qab aa.out 1).trans rfl,(qab aa.out 2).trans rfl⟩ (fun hHeld=>?_)
   clear hK K
   refine qa0 (a':=?_) ?_ ?_
   rotate_left
   ·show Act.put _ (some 7) _=_
    simp only [Act.put,List.setIfInBounds_toArray,List.set_cons_zero,List.set_cons_succ,qaC,qaE]
    rfl
   refine sP 3 (some 8) rfl rfl ?_
   refine sP 7 (some 12) rfl rfl ?_
   exact qa0 (by simp only [putAll,Act.put,List.setIfInBounds_toArray,List.set_cons_zero,List.set_cons_succ]) (hCont (aj) _ ⟨hHeld,(sK aa.out),(sK ag.out),(sK af.out),ba.out,aI.out,ab.out,ak.out,ai.out,an.out,sB⟩)
 rintro aj w7 ⟨hS_,ff,fg,fh,fi,fj,fk,fl,fm,fo,fp⟩
 have fq:qaa (w7.heap[ap]? = some (.cells #[.int .i64 aD,.int .i64 ar,.slice A0_2 aq.length c0_2] 79 (0,0))):=⟨ff⟩
 have ft:qaa (w7.heap[am]? = some (.cells #[.int .i64 0,.int .i64 0,.slice none 0 0] 33 (0,0))):=⟨fg⟩
 have fu:qaa (w7.heap[aj]? = some (.cells #[.int .i64 0,.int .i64 0,.slice none 0 0] 33 (0,0))):=⟨fh⟩
 have fv:qaa (w.heap.size≤aj):=⟨fi⟩
 have fw:qaa (w.heap.size≤aj):=⟨fj⟩
 have fx:qaa (ap≠aj):=⟨fk⟩
 have fy:qaa (aj≠ap):=⟨fl⟩
 have fz:qaa (am≠aj):=⟨fm⟩
 have fA:qaa (aj≠am):=⟨fo⟩
 have fB:qaa (Below w.heap.size w w7):=⟨fp⟩
 clear aa ag HB ff fg fh fi fj fk fl fm fo fp
 have aa:=fq
 have ag:=ft
 have af:=fu
 have ba:=fv
 have aI:=fw
 have ab:=fx
 have ak:=fy
 have ai:=fz
 have an:=fA
 have HB:=fB
 clear fq ft fu fv fw fx fy fz fA fB
 have hHeld:w7.cell? ⟨ap,0,none⟩=some (.int .i64 aD)∧w7.cell? ⟨ap,1,none⟩=some (.int .i64 ar)∧w7.cell? ⟨ap,2,none⟩=some (.slice A0_2 aq.length c0_2):=hS_
 refine qa0 (a':=?_) ?_ ?_
 rotate_left
 ·simp only [putAll,Act.put,List.setIfInBounds_toArray,List.set_cons_zero,List.set_cons_succ]
  rfl
 refine one_ (i:=9) (N:=none) #[true,true,true,true,true,true,true,true,true,true] rfl rfl (qaO HT_.out (by kernel_rfl)) (by decide) (fun K hK=>?_)
 have gH:w7.cell? ⟨aj,0,none⟩=some (.int .i64 0):=(qab af.out 0).trans rfl
 have gt:=qan af.out 0
 have eG:=ab.out
 have eH:=ai.out
 have eI:=ak.out
 have eJ:=an.out
 have gI:w7.cell? ⟨aj,1,none⟩=some (.int .i64 0):=(qab af.out 1).trans rfl
 have gu:=qan af.out 1
 have eK:=ab.out
 have eL:=ai.out
 have eM:=ak.out
 have eN:=an.out
 have gv:w7.cell? ⟨aj,2,none⟩=some (.slice none 0 0):=(qab af.out 2).trans rfl
 have fC:=qan af.out 2
 have cD:=ab.out
 have cE:=ai.out
 have cF:=ak.out
 have cG:=an.out
 refine skip_ (w1:=?_) (by rfl) rfl ?_ ?_
 rotate_left
 ·go_simp
  rfl
 refine hK.out _ _ ⟨((qaq (p:=⟨aj,_,none⟩) ab.out _).trans (((qaq (p:=⟨aj,_,none⟩) ab.out _).trans (((qaq (p:=⟨aj,_,none⟩) ab.out _).trans (hHeld.1)))))),((qaq (p:=⟨aj,_,none⟩) ab.out _).trans (((qaq (p:=⟨aj,_,none⟩) ab.out _).trans (((qaq (p:=⟨aj,_,none⟩) ab.out _).trans (hHeld.2.1)))))),((qaq (p:=⟨aj,_,none⟩) ab.out _).trans (((qaq (p:=⟨aj,_,none⟩) ab.out _).trans (((qaq (p:=⟨aj,_,none⟩) ab.out _).trans (hHeld.2.2))))))⟩ (fun hHeld=>?_)
 clear hK K
 refine done_ (done_of HT_.out (by kernel_rfl)) ?_
 try go_wp2
 go_loopg [4] k (fun kq v4 w'=>∃ (al:Int) (ae:List (S53)) (av:Value),v4=.int .i64 al∧qaa (ostinatoref05_System_Made.l0 kq al aD ar aq (ah (1+au)) (Go.bits .and .i64 ar 3) ae=some (r1,r2,r3))∧qaa (kq≤k)∧qaa (Kd.S k53 53 w' w.heap.size (fun _=>True) av ae)∧qaa (w'.heap[ap]? = some (.cells #[.int .i64 aD,.int .i64 ar,(.slice A0_2 aq.length c0_2)] 79 (0,0)))∧qaa (w'.heap[am]? = some (.cells #[.int .i64 0,.int .i64 0,(.slice none 0 0)] 33 (0,0)))∧qaa (w'.heap[aj]? = some (.cells #[.int .i64 (ah (1+au)),.int .i64 (Go.bits .and .i64 ar 3),av] 33 (0,0)))∧qaa (Below w.heap.size w w'))
 case atStart=>exact⟨(0),(([]:List (S53))),(.slice none 0 0),(by first|rfl|(simp;done)|(simp [*];done)),H',⟨Nat.le_refl _⟩,⟨by first|exact Kd.S_nil _ _ _ _ _|exact Kd.N_nil _ _ _ _ _|exact Kd.V_nil _ _ _ _ _|exact Kd.Q_nil _ _ _ _ _|exact Kd.R_nil _ _ _ _ _⟩,⟨by refine sM ?_;refine qaf ?_ ab.out _;refine sM ?_;refine qaf ?_ ab.out _;refine sM ?_;refine qaf ?_ ab.out _;refine sM ?_;exact aa.out⟩,⟨by refine sM ?_;refine qaf ?_ ai.out _;refine sM ?_;refine qaf ?_ ai.out _;refine sM ?_;refine qaf ?_ ai.out _;refine sM ?_;exact ag.out⟩,⟨by refine sM ?_;refine qak (cs:=#[.int .i64 (ah (1+au)),.int .i64 (Go.bits .and .i64 ar 3),.slice none 0 0]) ?_ 2 _ rfl;refine sM ?_;refine qak (cs:=#[.int .i64 (ah (1+au)),.int .i64 0,.slice none 0 0]) ?_ 1 _ rfl;refine sM ?_;refine qak (cs:=#[.int .i64 0,.int .i64 0,.slice none 0 0]) ?_ 0 _ rfl;refine sM ?_;exact af.out⟩,⟨by repeat (first|(with_reducible first|exact HB.out|apply qah|apply qae|apply qag|refine qad ?_ aU.out|refine qad ?_ aV.out|refine qad ?_ aI.out)|exact HB.out)⟩⟩
 case round=>
  clear H'
  try clear p2
  try clear c3
  try clear c5
  try clear p6
  obtain⟨al,ae,av,rfl,HA,fD,ac,aa,ag,af,HB⟩:=hrel
  cases gk with
  |zero=>exact absurd HA.out (by simp [ostinatoref05_System_Made.l0])
  |succ k1=>
   have H:=HA.out
   clear HA
   simp only [ostinatoref05_System_Made.l0] at H
   by_cases bU:al<(aq.length:Int)
   ·rw [if_pos bU] at H
    have bX:decide (al<(aq.length:Int))=true:=decide_eq_true bU
    clear bU
    by_cases bV:al<6
    ·rw [if_pos bV] at H
     have bY:decide (al<6)=true:=decide_eq_true bV
     clear bV
     by_cases cH:0≤al
     ·rw [if_pos cH] at H
      have fE:decide (0≤al)=true:=decide_eq_true cH
      clear cH
      replace H:=Option.bind_eq_some_iff.mp H
      obtain⟨⟨bj,bm,bn,bp,bq,aZ,a8⟩,bZ,H⟩:=H
      replace H:(if ae.length<1599289640401 then (ostinatoref05_System_Made.l0 k1 (ah (al+1)) aD ar aq (ah (1+au)) (Go.bits .and .i64 ar 3) (ae++[(⟨bj,bm,bn,bp,bq,aZ,a8⟩:S53)])) else (none))=some (r1,r2,r3):=H
      have gw:=qaa.mk bZ
      clear bZ
      by_cases cI:ae.length<1599289640401
      ·rw [if_pos cI] at H
       have b8:=qaa.mk cI
       clear cI
       obtain⟨bB,aW⟩:∃ y_:List (S53),y_=(ae++[(⟨bj,bm,bn,bp,bq,aZ,a8⟩:S53)]):=⟨_,rfl⟩
       replace H:(ostinatoref05_System_Made.l0 k1 (ah (al+1)) aD ar aq (ah (1+au)) (Go.bits .and .i64 ar 3) bB)=some (r1,r2,r3):=by first|(rw [aW];with_reducible exact H)|(have bw:=(Option.bind_some _ _).symm.trans H;rw [aW];with_reducible exact bw)|(have bw:=(Option.bind_some _ _).symm.trans H;with_reducible exact bw)|with_reducible exact H|(rw [aW];exact H)|exact H
       have b9:=qaa.mk aW
       clear aW
       have H':=qaa.mk H
       clear H
       have fF:=aE.out
       have fG:=aG.out
       have fH:=ab.out
       have fI:=ak.out
       obtain⟨cJ,cK,cL⟩:=sC3 (w:=wr) aa.out
       obtain⟨cM,cN,cO⟩:=sF3 aa.out
       try go_wp2
       replace ac:=qaa.mk (Kd.S_drew ac.out)
       replace aa:=qaa.mk (qax aa.out)
       replace ag:=qaa.mk (qax ag.out)
       replace af:=qaa.mk (qax af.out)
       replace HB:=qaa.mk (qag HB.out)
       have bO:0≤(al:Int):=of_decide_eq_true sA
       have bP:al<(aq.length:Int):=of_decide_eq_true sA
       obtain⟨aH,bx,bz,eO,aJ,aK,aM,aN,aQ,aT,be,bf⟩:=at_T81 bW.out al bO bP
       have aw:=aT
       have ax:=aQ
       have ay:=aN
       have az:=aM
       have aA:=aK
       have aC:=aJ
       cases eO
       replace aJ:=(HB.out.cell (bLt w _ aJ)).trans aJ
       replace aK:=(HB.out.cell (bLt w _ aK)).trans aK
       replace aM:=(HB.out.cell (bLt w _ aM)).trans aM
       replace aN:=(HB.out.cell (bLt w _ aN)).trans aN
       replace aQ:=(HB.out.cell (bLt w _ aQ)).trans aQ
       replace aT:=(HB.out.cell (bLt w _ aT)).trans aT
       have bg:=qaa.mk bf
       have bC:=qaa.mk be
       clear bf be
       replace bO:=eq_true bO
       replace bP:=eq_true bP
       refine start_ (n:=15) (S:=fun w'=>w'.cell? ⟨aj,0,none⟩=some (.int .i64 (ah (1+au)))∧w'.cell? ⟨aj,1,none⟩=some (.int .i64 (Go.bits .and .i64 ar 3))∧w'.cell? ⟨aj,2,none⟩=some (av)∧w'.cell? ⟨ap,0,none⟩=some (.int .i64 aD)∧w'.cell? ⟨ap,1,none⟩=some (.int .i64 ar)∧w'.cell? ⟨ap,2,none⟩=some (.slice (some aH) aq.length c0_2)∧w'.cell? (aH.add ((al).toNat * 6))=some (.int .i64 ((qaJ aq al).f0))∧w'.cell? ⟨(aH.add ((al).toNat * 6)).block,(aH.add ((al).toNat * 6)).off+1,none⟩=some (.int .i64 ((qaJ aq al).f1))∧w'.cell? ⟨(aH.add ((al).toNat * 6)).block,(aH.add ((al).toNat * 6)).off+2,none⟩=some (.int .i64 ((qaJ aq al).f2))∧w'.cell? ⟨(aH.add ((al).toNat * 6)).block,(aH.add ((al).toNat * 6)).off+3,none⟩=some (.int .i64 ((qaJ aq al).f3))∧w'.cell? ⟨(aH.add ((al).toNat * 6)).block,(aH.add ((al).toNat * 6)).off+4,none⟩=some (.int .i64 ((qaJ aq al).f4))∧w'.cell? ⟨(aH.add ((al).toNat * 6)).block,(aH.add ((al).toNat * 6)).off+5,none⟩=some (.slice bx ((qaJ aq al).f5).length bz)) (ds:=[14]) #[false,false,false,false,false,false,false,false,false,false,false,false,false,false,false] (by kernel_rfl) rfl rfl ⟨(qab af.out 0).trans rfl,(qab af.out 1).trans rfl,(qab af.out 2).trans rfl,(qab aa.out 0).trans rfl,(qab aa.out 1).trans rfl,(qab aa.out 2).trans rfl,((HB.out.cell (bLt w _ aC)).trans aC),((HB.out.cell (bLt w _ aA)).trans aA),((HB.out.cell (bLt w _ az)).trans az),((HB.out.cell (bLt w _ ay)).trans ay),((HB.out.cell (bLt w _ ax)).trans ax),((HB.out.cell (bLt w _ aw)).trans aw)⟩ (fun hHeld=>?_);refine qaX ostinatoref05_System_Made.tab5 ostinatoref05_System_Made.bits5 (fun HT_ HW_=>?_)
       generalize wr.drew=gJ at ac aa ag af HB bg aJ aK aM aN aQ aT hHeld ⊢
       refine sP 0 (some 24) rfl rfl ?_
       refine sP 2 (some 26) rfl rfl ?_
       refine sP 4 (some 28) rfl rfl ?_
       refine sP 7 (some 31) rfl rfl ?_
       refine sP 8 (some 32) rfl rfl ?_
       refine qaZ (i:=1) (N:=some 25) (v:=?_) (a':=?_) #[true,true,true,false,true,false,false,true,true,false,false,false,false,false,false] rfl rfl (qay HT_.out HW_.out (by kernel_rfl)) (fun _ _ _ h=>h) (Or.inl ⟨by rfl,?_⟩) hHeld ?_ ?_
       rotate_left
       ·rintro w' ⟨s0,s1,s2,s3,s4,s5,s6,s7,s8,s9,eP,eQ⟩
        go_simp
        with_reducible rfl
       rotate_left
       ·simp only [Act.put,List.setIfInBounds_toArray,List.set_cons_zero,List.set_cons_succ,qaC,qaE]
        rfl
       refine qaZ (i:=3) (N:=some 27) (v:=?_) (a':=?_) #[true,true,true,true,true,false,false,true,true,false,false,false,false,false,false] rfl rfl (qay HT_.out HW_.out (by kernel_rfl)) (fun _ _ _ h=>h) (Or.inl ⟨by rfl,?_⟩) hHeld ?_ ?_
       rotate_left
       ·rintro w' ⟨s0,s1,s2,s3,s4,s5,s6,s7,s8,s9,eP,eQ⟩
        go_simp
        with_reducible rfl
       rotate_left
       ·simp only [Act.put,List.setIfInBounds_toArray,List.set_cons_zero,List.set_cons_succ,qaC,qaE]
        rfl
       refine sP 5 (some 29) rfl rfl ?_
       refine qaZ (i:=6) (N:=some 30) (v:=?_) (a':=?_) #[true,true,true,true,true,true,true,true,true,false,false,false,false,false,false] rfl rfl (qay HT_.out HW_.out (by kernel_rfl)) (fun _ _ _ h=>h) (Or.inl ⟨by rfl,?_⟩) hHeld ?_ ?_
       rotate_left
       ·rintro w' ⟨s0,s1,s2,s3,s4,s5,s6,s7,s8,s9,eP,eQ⟩
        go_simp
        with_reducible rfl
       rotate_left
       ·simp only [Act.put,List.setIfInBounds_toArray,List.set_cons_zero,List.set_cons_succ,qaC,qaE]
        rfl
       refine qaZ (i:=9) (N:=some 33) (v:=?_) (a':=?_) #[true,true,true,true,true,true,true,true,true,true,false,false,false,false,false] rfl rfl (qay HT_.out HW_.out (by kernel_rfl)) (fun _ _ _ h=>h) (Or.inl ⟨by rfl,?_⟩) hHeld ?_ ?_
       rotate_left
       ·rintro w' ⟨s0,s1,s2,s3,s4,s5,s6,s7,s8,s9,eP,eQ⟩
        go_simp
        with_reducible rfl
       rotate_left
       ·simp only [Act.put,List.setIfInBounds_toArray,List.set_cons_zero,List.set_cons_succ,qaC,qaE]
        rfl
       refine one_ (i:=10) (N:=some 34) #[true,true,true,true,true,true,true,true,true,true,true,false,false,false,false] rfl rfl (qaO HT_.out (by kernel_rfl)) (by decide) (fun K hK=>?_)
       refine goes_ Tryd.func55 (by kernel_rfl) rfl #[.agg #[.int .i64 ((qaJ aq al).f0),.int .i64 ((qaJ aq al).f1),.int .i64 ((qaJ aq al).f2),.int .i64 ((qaJ aq al).f3),.int .i64 ((qaJ aq al).f4),.slice bx ((qaJ aq al).f5).length bz],.int .i64 al,.int .i64 (ah (1+au))] (by rfl) rfl rfl (by (try simp only [List.map_toArray,List.map_cons,List.map_nil]);first|done|rfl|(simp only [List.length_drop,List.length_take];rfl)) ?_
       with_reducible refine (ostinatoref05_Num_task.calls k1 ((qaJ aq al).f0) ((qaJ aq al).f1) ((qaJ aq al).f2) ((qaJ aq al).f3) ((qaJ aq al).f4) _ _ ((qaJ aq al).f5) al (ah (1+au)) bj bm bn bp bq aZ a8 _ ?ca ?cb gw.out).mono ?_
       (case ca=>repeat (first|exact (Kd.C_below bg.out HB.out)|(with_reducible refine Kd.C_alloc ?_ _)|(with_reducible refine Kd.C_drewN ?_ _)|(with_reducible refine Kd.C_drew ?_)))
       (case cb=>exact bC.out)
       rintro e gK ⟨gx,gy,rfl,eR,eS,hb⟩
       refine⟨_,rfl,?_⟩
       replace ac:=qaa.mk (Kd.S_mono (Kd.S_told (Kd.S_told (Kd.S_old (by (with_reducible repeat (first|apply Kd.S_alloc|apply Kd.S_drewN|apply Kd.S_drew));exact ac.out) hb) (Kd.R_base eR)) (Kd.R_base eS)) (fun _ h_=>h_.1))
       have bh:=qaa.mk (Kd.R_lower eR (qac sB))
       have bi:=qaa.mk (Kd.R_lower eS (qac sB))
       replace aa:=qaa.mk (sKb aa.out hb)
       replace ag:=qaa.mk (sKb ag.out hb)
       replace af:=qaa.mk (sKb af.out hb)
       replace HB:=qaa.mk (qai sB hb)
       (try clear hb)
       (try clear gL)
       (try clear hk)
       (try clear hi)
       (try clear eR)
       (try clear eS)
       obtain⟨ce,cf,cg⟩:=Kd.R_slice bh.out
       (first|subst cg|(injection cg with bF cj bG;have ck:=bF.symm;have cm:=bG.symm;clear bF cj bG;subst ck;subst cm))
       obtain⟨co,cp,cq⟩:=Kd.R_slice bi.out
       (first|subst cq|(injection cq with bF cj bG;have ck:=bF.symm;have cm:=bG.symm;clear bF cj bG;subst ck;subst cm))
       refine hK.out _ _ ⟨(qab af.out 0).trans rfl,(qab af.out 1).trans rfl,(qab af.out 2).trans rfl,(qab aa.out 0).trans rfl,(qab aa.out 1).trans rfl,(qab aa.out 2).trans rfl,((HB.out.cell (bLt w _ aC)).trans aC),((HB.out.cell (bLt w _ aA)).trans aA),((HB.out.cell (bLt w _ az)).trans az),((HB.out.cell (bLt w _ ay)).trans ay),((HB.out.cell (bLt w _ ax)).trans ax),((HB.out.cell (bLt w _ aw)).trans aw)⟩ (fun hHeld=>?_)
       clear hK K
       refine qa0 (a':=?_) ?_ ?_
       rotate_left
       ·show Act.put _ (some 34) _=_
        simp only [Act.put,List.setIfInBounds_toArray,List.set_cons_zero,List.set_cons_succ,qaC,qaE]
        rfl
       refine one_ (i:=11) (N:=some 35) #[true,true,true,true,true,true,true,true,true,true,true,true,false,false,false] rfl rfl (qaO HT_.out (by kernel_rfl)) (by decide) (fun K hK=>?_)
       refine value_ (w1:=?_) (v:=?_) (by rfl) rfl ?_ ?_
       rotate_left 2
       ·go_simp
        constructor
        ·rfl
        ·rfl
       refine hK.out _ _ ⟨(qab (qas af.out _) 0).trans rfl,(qab (qas af.out _) 1).trans rfl,(qab (qas af.out _) 2).trans rfl,(qab (qas aa.out _) 0).trans rfl,(qab (qas aa.out _) 1).trans rfl,(qab (qas aa.out _) 2).trans rfl,(World.cell?_alloc_lt _ _ _ (bLt _ _ (((HB.out.cell (bLt w _ aC)).trans aC)))).trans (((HB.out.cell (bLt w _ aC)).trans aC)),(World.cell?_alloc_lt _ _ _ (bLt _ _ (((HB.out.cell (bLt w _ aA)).trans aA)))).trans (((HB.out.cell (bLt w _ aA)).trans aA)),(World.cell?_alloc_lt _ _ _ (bLt _ _ (((HB.out.cell (bLt w _ az)).trans az)))).trans (((HB.out.cell (bLt w _ az)).trans az)),(World.cell?_alloc_lt _ _ _ (bLt _ _ (((HB.out.cell (bLt w _ ay)).trans ay)))).trans (((HB.out.cell (bLt w _ ay)).trans ay)),(World.cell?_alloc_lt _ _ _ (bLt _ _ (((HB.out.cell (bLt w _ ax)).trans ax)))).trans (((HB.out.cell (bLt w _ ax)).trans ax)),(World.cell?_alloc_lt _ _ _ (bLt _ _ (((HB.out.cell (bLt w _ aw)).trans aw)))).trans (((HB.out.cell (bLt w _ aw)).trans aw))⟩ (fun hHeld=>?_)
       clear hK K
       refine qa0 (a':=?_) ?_ ?_
       rotate_left
       ·show Act.put _ (some 35) _=_
        simp only [Act.put,List.setIfInBounds_toArray,List.set_cons_zero,List.set_cons_succ,qaC,qaE]
        rfl
       refine one_ (i:=12) (N:=some 36) #[true,true,true,true,true,true,true,true,true,true,true,true,true,false,false] rfl rfl (qaO HT_.out (by kernel_rfl)) (by decide) (fun K hK=>?_)
       refine Kd.S_append_step k53 (w0:=w) w.heap.size (by rfl) (.tmp 25) (.tmp 35) 31 53 (.agg #[(.int .i64 0),(.int .i64 0),(.int .i64 0),(.int .i64 0),(.int .i64 0),(.slice none 0 0),(.slice none 0 0)]) 88 rfl Tryd.underlying31 info53 rfl (by decide) (by omega) av ae (⟨bj,bm,bn,bp,bq,aZ,a8⟩:S53) [.int .i64 bj,.int .i64 bm,.int .i64 bn,.int .i64 bp,.int .i64 bq,.slice ce aZ.length cf,.slice co a8.length cp] (fun _=>True) (fun k_=>some k_=(.slice ce aZ.length cf:Value).ownBlock∨some k_=(.slice co a8.length cp:Value).ownBlock) rfl rfl ?aP (fun k_ hk_=>hk_.elim (fun h_=>((Kd.R_mono (ok':=fun k_=>((fun _=>True)) k_∧some k_≠(av:Value).ownBlock) (Kd.R_apart' (bh.out) (Kd.S_typed ac.out) (by decide)) (fun k_ hk=>⟨trivial,hk.2⟩))).1 k_ h_.symm) (fun h_=>((Kd.R_mono (ok':=fun k_=>((fun _=>True)) k_∧some k_≠(av:Value).ownBlock) (Kd.R_apart' (bi.out) (Kd.S_typed ac.out) (by decide)) (fun k_ hk=>⟨trivial,hk.2⟩))).1 k_ h_.symm)) ?aF ?aO ?aB ?aS ?aL ?_
       (case aP=>exact k53_mkM _ _ _ (⟨bj,bm,bn,bp,bq,aZ,a8⟩:S53) (Kd.R_mono (Kd.R_tight rfl (Kd.R_mono (ok':=fun k_=>((fun _=>True)) k_∧some k_≠(av:Value).ownBlock) (Kd.R_apart' (bh.out) (Kd.S_typed ac.out) (by decide)) (fun k_ hk=>⟨trivial,hk.2⟩))) (fun _ h_=>Or.inl h_)) (Kd.R_mono (Kd.R_tight rfl (Kd.R_mono (ok':=fun k_=>((fun _=>True)) k_∧some k_≠(av:Value).ownBlock) (Kd.R_apart' (bi.out) (Kd.S_typed ac.out) (by decide)) (fun k_ hk=>⟨trivial,hk.2⟩))) (fun _ h_=>Or.inr (h_))))
       (case aB=>exact sB)
       (case aF=>exact (fun _ _=>trivial))
       (case aO=>exact (by (with_reducible repeat (first|apply Kd.S_alloc|apply Kd.S_drewN|apply Kd.S_drew));exact Kd.S_mono ac.out (fun k_ hk=>⟨trivial,fun e_=>e_.elim (fun h_=>hk.1.2 h_) (fun h_=>hk.2 h_)⟩)))
       (case aS=>exact (qac sB))
       (case aL=>have:=b8.out;omega)
       intro v233 gz ho hb hg hat
       rw [← b9.out] at ho
       replace aa:=qaa.mk (sKg aa.out hg (Kd.S_ne ac.out aa.out (by decide)))
       replace ag:=qaa.mk (sKg ag.out hg (Kd.S_ne ac.out ag.out (by decide)))
       replace af:=qaa.mk (sKg af.out hg (Kd.S_ne ac.out af.out (by decide)))
       replace HB:=qaa.mk (hb)
       have bH:=qaa.mk (ho)
       clear ac bh bi ho hb hg hat
       obtain⟨cr,ct,cu⟩:=Kd.S_slice bH.out
       (first|subst cu|(injection cu with bF cj bG;have ck:=bF.symm;have cm:=bG.symm;clear bF cj bG;subst ck;subst cm))
       refine hK.out _ _ ⟨(qab af.out 0).trans rfl,(qab af.out 1).trans rfl,(qab af.out 2).trans rfl,(qab aa.out 0).trans rfl,(qab aa.out 1).trans rfl,(qab aa.out 2).trans rfl,((HB.out.cell (bLt w _ aC)).trans aC),((HB.out.cell (bLt w _ aA)).trans aA),((HB.out.cell (bLt w _ az)).trans az),((HB.out.cell (bLt w _ ay)).trans ay),((HB.out.cell (bLt w _ ax)).trans ax),((HB.out.cell (bLt w _ aw)).trans aw)⟩ (fun hHeld=>?_)
       clear hK K
       refine qa0 (a':=?_) ?_ ?_
       rotate_left
       ·show Act.put _ (some 36) _=_
        simp only [Act.put,List.setIfInBounds_toArray,List.set_cons_zero,List.set_cons_succ,qaC,qaE]
        rfl
       refine sP 13 (some 37) rfl rfl ?_
       refine last_ (i:=14) (N:=none) #[true,true,true,true,true,true,true,true,true,true,true,true,true,true,true] rfl rfl (qaO HT_.out (by kernel_rfl)) (by decide) (fun K hK=>?_)
       have gA:gz.cell? ⟨aj,2,none⟩=some (av):=(qab af.out 2).trans rfl
       have fJ:=qan af.out 2
       have cP:=ab.out
       have cQ:=ai.out
       have cR:=ak.out
       have cS:=an.out
       refine skip_ (w1:=?_) (by rfl) rfl ?_ ?_
       rotate_left
       ·go_simp
        rfl
       refine hK.out _ _ ?_
       clear hK K
       refine done_ (done_of HT_.out (by kernel_rfl)) ?_
       try go_wp2
       go_roundg k1
       case measure=>have:=fD.out;omega
       case rel=>exact⟨(ah (al+1)),(bB),(.slice cr bB.length ct),(by first|rfl|(simp;done)|(simp [*];done)),H',⟨by have:=fD.out;omega⟩,⟨by (with_reducible repeat (first|apply Kd.S_alloc|apply Kd.S_drewN|apply Kd.S_drew));exact Kd.S_mono (Kd.S_far (p:=⟨aj,2,none⟩) (Kd.S_types bH.out af.out (by decide)) (fun _ hk=>hk.2) (.slice cr bB.length ct)) (fun _ hk=>trivial)⟩,⟨by refine sM ?_;refine qaf ?_ ab.out _;refine sM ?_;exact aa.out⟩,⟨by refine sM ?_;refine qaf ?_ ai.out _;refine sM ?_;exact ag.out⟩,⟨by refine sM ?_;refine qak (cs:=#[.int .i64 (ah (1+au)),.int .i64 (Go.bits .and .i64 ar 3),av]) ?_ 2 _ rfl;refine sM ?_;exact af.out⟩,⟨by repeat (first|(with_reducible first|exact HB.out|apply qah|apply qae|apply qag|refine qad ?_ aU.out|refine qad ?_ aV.out|refine qad ?_ aI.out)|exact HB.out)⟩⟩
      ·rw [if_neg cI] at H
       exact absurd H (by simp)
     ·rw [if_neg cH] at H
      exact absurd H (by simp)
    ·rw [if_neg bV] at H
     have bY:decide (al<6)=false:=decide_eq_false bV
     clear bV
     by_cases bI:(ae.length:Int)=0
     ·rw [if_pos bI] at H
      have cv:((ae.length:Int) == 0)=true:=beq_iff_eq.mpr bI
      have cw:((ae.length:Int) != 0)=false:=bne_eq_false_iff_eq.mpr bI
      clear bI
      obtain⟨bD,aX⟩:∃ y_:List (S53),y_=(([(⟨1,1,4,4,10,([]:List Int),([]:List Int)⟩:S53)]:List (S53))):=⟨_,rfl⟩
      replace H:(some ((ah (1+au)),(Go.bits .and .i64 ar 3),bD))=some (r1,r2,r3):=by first|(rw [aX];with_reducible exact H)|(have bw:=(Option.bind_some _ _).symm.trans H;rw [aX];with_reducible exact bw)|(have bw:=(Option.bind_some _ _).symm.trans H;with_reducible exact bw)|with_reducible exact H|(rw [aX];exact H)|exact H
      have bJ:=qaa.mk aX
      clear aX
      simp only [Option.some.injEq,Prod.mk.injEq] at H
      obtain⟨rfl,rfl,rfl⟩:=H
      have fK:=aE.out
      have fL:=aG.out
      have fM:=ab.out
      have fN:=ak.out
      obtain⟨cT,cU,cV⟩:=sC3 (w:=wr) aa.out
      obtain⟨cW,cX,cY⟩:=sF3 aa.out
      have fO:=an.out
      have fP:=ai.out
      obtain⟨cZ,da,db⟩:=sC3 (w:=wr) af.out
      obtain⟨dc,dd,de⟩:=sF3 af.out
      obtain⟨gB,gC,eT⟩:=Kd.S_slice ac.out
      subst eT
      go_wp2_with (first|((with_reducible refine qap (N:=43) rfl ?_);refine Kd.S_lit k53 _ 53 ?hg (N:=43) ?hd (xs:=([(⟨1,1,4,4,10,([]:List Int),([]:List Int)⟩:S53)]:List (S53))) (inner:=[.int .i64 1,.int .i64 1,.int .i64 4,.int .i64 4,.int .i64 10,.slice none 0 0,.slice none 0 0]) (ok:=fun _=>True) (okp:=fun _=>True) ?hr ?hp (fun _ hk=>hk) trivial (Below.refl _ _) (Nat.le_refl _) (by simp) ?_;(case hd=>rfl);(case hg=>rfl);(case hr=>first|(go_simp;done)|(go_simp;rfl));(case hp=>exact (Reps.c7 (show Kd.M k53 _ _ _ (⟨1,1,4,4,10,([]:List Int),([]:List Int)⟩:S53) [.int .i64 1,.int .i64 1,.int .i64 4,.int .i64 4,.int .i64 10,.slice none 0 0,.slice none 0 0] from (k53_mkM _ _ _ (⟨1,1,4,4,10,([]:List Int),([]:List Int)⟩:S53) (Kd.R_nil _ _ _ _ _) (Kd.R_nil _ _ _ _ _))) (Reps.none _ _)));intro gD fQ bt hb hg_ hnew_;clear hg_ hnew_;(first|rw [← bJ.out] at bt|(simp only [Int.reduceToNat] at bt;rw [← bJ.out] at bt));have bK:=qaa.mk (Kd.S_lower (Kd.S_new' bt (Kd.S_lt (by (with_reducible repeat (first|apply Kd.S_alloc|apply Kd.S_drewN|apply Kd.S_drew));exact ac.out))) (qac sB));replace ac:=qaa.mk (Kd.S_elder' (by (with_reducible repeat (first|apply Kd.S_alloc|apply Kd.S_drewN|apply Kd.S_drew));exact ac.out) (Kd.S_base bt) hb);replace aa:=qaa.mk (sKb aa.out hb);replace ag:=qaa.mk (sKb ag.out hb);replace af:=qaa.mk (sKb af.out hb);replace HB:=qaa.mk (qai sB hb);clear hb bt;obtain⟨bQ,bR,eU⟩:=Kd.S_slice bK.out;subst eU;obtain⟨df,dg,dh⟩:=sC3 (w:=fQ) af.out;obtain⟨di,dj,dk⟩:=sF3 af.out;obtain⟨dl,dm,dn⟩:=sC3 (w:=fQ) ag.out;obtain⟨dp,dq,dr⟩:=sF3 ag.out))
      refine bodyPost_ret (results_cell_row rfl _ _ am 33 #[.int .i64 (ah (1+au)),.int .i64 (Go.bits .and .i64 ar 3),.slice bQ bD.length bR] (0,0) _ rfl (by refine sM ?_;refine qak (cs:=#[.int .i64 (ah (1+au)),.int .i64 (Go.bits .and .i64 ar 3),.slice none 0 0]) ?_ 2 _ rfl;refine sM ?_;refine qak (cs:=#[.int .i64 (ah (1+au)),.int .i64 0,.slice none 0 0]) ?_ 1 _ rfl;refine sM ?_;refine qak (cs:=#[.int .i64 0,.int .i64 0,.slice none 0 0]) ?_ 0 _ rfl;refine sM ?_;refine qaf ?_ ai.out _;refine sM ?_;exact ag.out) Tryd.underlying33 rfl (by kernel_rfl)) rfl ?_
      exact⟨_,by first|rfl|(simp [qam,qal]<;>rfl)|(simp [bneNil,bneNilU]<;>rfl)|(simp [*,qam,qal]<;>rfl),by (with_reducible repeat (first|apply Kd.S_alloc|apply Kd.S_drewN|apply Kd.S_drew));exact Kd.S_mono (Kd.S_far (p:=⟨am,2,none⟩) (Kd.S_far (p:=⟨am,1,none⟩) (Kd.S_far (p:=⟨am,0,none⟩) (Kd.S_far (p:=⟨aj,2,none⟩) (Kd.S_types (Kd.S_types bK.out af.out (by decide)) ag.out (by decide)) (fun _ hk=>hk.1.2) (.slice bQ bD.length bR)) (fun _ hk=>hk.2) (.int .i64 (ah (1+au)))) (fun _ hk=>hk.2) (.int .i64 (Go.bits .and .i64 ar 3))) (fun _ hk=>hk.2) (.slice bQ bD.length bR)) (fun _ hk=>trivial),by repeat (first|(with_reducible first|exact HB.out|apply qah|apply qae|apply qag|refine qad ?_ aU.out|refine qad ?_ aV.out|refine qad ?_ aI.out)|exact HB.out)⟩
     ·rw [if_neg bI] at H
      have cv:((ae.length:Int) == 0)=false:=beq_eq_false_iff_ne.mpr bI
      have cw:((ae.length:Int) != 0)=true:=bne_iff_ne.mpr bI
      have fR:¬ (ae=[]):=fun h_=>bI (by rw [h_];rfl)
      simp only [Option.some.injEq,Prod.mk.injEq] at H
      obtain⟨rfl,rfl,rfl⟩:=H
      have fS:=aE.out
      have fT:=aG.out
      have fU:=ab.out
      have fV:=ak.out
      obtain⟨du,dv,dw⟩:=sC3 (w:=wr) aa.out
      obtain⟨dx,dy,dz⟩:=sF3 aa.out
      have fW:=an.out
      have fX:=ai.out
      obtain⟨dA,dB,dC⟩:=sC3 (w:=wr) af.out
      obtain⟨dD,dE,dF⟩:=sF3 af.out
      obtain⟨cx,cy,eV⟩:=Kd.S_slice ac.out
      subst eV
      obtain⟨dG,dH,dI⟩:=sC3 (w:=wr) ag.out
      obtain⟨dJ,dK,dL⟩:=sF3 ag.out
      go_wp2
      refine bodyPost_ret (results_cell_row rfl _ _ am 33 #[.int .i64 (ah (1+au)),.int .i64 (Go.bits .and .i64 ar 3),.slice cx ae.length cy] (0,0) _ rfl (by refine sM ?_;refine qak (cs:=#[.int .i64 (ah (1+au)),.int .i64 (Go.bits .and .i64 ar 3),.slice none 0 0]) ?_ 2 _ rfl;refine sM ?_;refine qak (cs:=#[.int .i64 (ah (1+au)),.int .i64 0,.slice none 0 0]) ?_ 1 _ rfl;refine sM ?_;refine qak (cs:=#[.int .i64 0,.int .i64 0,.slice none 0 0]) ?_ 0 _ rfl;refine sM ?_;exact ag.out) Tryd.underlying33 rfl (by kernel_rfl)) rfl ?_
      exact⟨_,by first|rfl|(simp [qam,qal]<;>rfl)|(simp [bneNil,bneNilU]<;>rfl)|(simp [*,qam,qal]<;>rfl),by (with_reducible repeat (first|apply Kd.S_alloc|apply Kd.S_drewN|apply Kd.S_drew));exact Kd.S_mono (Kd.S_far (p:=⟨am,2,none⟩) (Kd.S_far (p:=⟨am,1,none⟩) (Kd.S_far (p:=⟨am,0,none⟩) (Kd.S_types ac.out ag.out (by decide)) (fun _ hk=>hk.2) (.int .i64 (ah (1+au)))) (fun _ hk=>hk.2) (.int .i64 (Go.bits .and .i64 ar 3))) (fun _ hk=>hk.2) (.slice cx ae.length cy)) (fun _ hk=>trivial),by repeat (first|(with_reducible first|exact HB.out|apply qah|apply qae|apply qag|refine qad ?_ aU.out|refine qad ?_ aV.out|refine qad ?_ aI.out)|exact HB.out)⟩
   ·rw [if_neg bU] at H
    have bX:decide (al<(aq.length:Int))=false:=decide_eq_false bU
    clear bU
    by_cases bL:(ae.length:Int)=0
    ·rw [if_pos bL] at H
     have cz:((ae.length:Int) == 0)=true:=beq_iff_eq.mpr bL
     have cA:((ae.length:Int) != 0)=false:=bne_eq_false_iff_eq.mpr bL
     clear bL
     obtain⟨bE,aY⟩:∃ y_:List (S53),y_=(([(⟨1,1,4,4,10,([]:List Int),([]:List Int)⟩:S53)]:List (S53))):=⟨_,rfl⟩
     replace H:(some ((ah (1+au)),(Go.bits .and .i64 ar 3),bE))=some (r1,r2,r3):=by first|(rw [aY];with_reducible exact H)|(have bw:=(Option.bind_some _ _).symm.trans H;rw [aY];with_reducible exact bw)|(have bw:=(Option.bind_some _ _).symm.trans H;with_reducible exact bw)|with_reducible exact H|(rw [aY];exact H)|exact H
     have bM:=qaa.mk aY
     clear aY
     simp only [Option.some.injEq,Prod.mk.injEq] at H
     obtain⟨rfl,rfl,rfl⟩:=H
     have fY:=aE.out
     have fZ:=aG.out
     have ga:=ab.out
     have gb:=ak.out
     obtain⟨dM,dN,dO⟩:=sC3 (w:=wr) aa.out
     obtain⟨dP,dQ,dT⟩:=sF3 aa.out
     have gc:=an.out
     have ge:=ai.out
     obtain⟨dU,dV,dW⟩:=sC3 (w:=wr) af.out
     obtain⟨dX,dY,dZ⟩:=sF3 af.out
     obtain⟨gE,gF,eW⟩:=Kd.S_slice ac.out
     subst eW
     go_wp2_with (first|((with_reducible refine qap (N:=43) rfl ?_);refine Kd.S_lit k53 _ 53 ?hg (N:=43) ?hd (xs:=([(⟨1,1,4,4,10,([]:List Int),([]:List Int)⟩:S53)]:List (S53))) (inner:=[.int .i64 1,.int .i64 1,.int .i64 4,.int .i64 4,.int .i64 10,.slice none 0 0,.slice none 0 0]) (ok:=fun _=>True) (okp:=fun _=>True) ?hr ?hp (fun _ hk=>hk) trivial (Below.refl _ _) (Nat.le_refl _) (by simp) ?_;(case hd=>rfl);(case hg=>rfl);(case hr=>first|(go_simp;done)|(go_simp;rfl));(case hp=>exact (Reps.c7 (show Kd.M k53 _ _ _ (⟨1,1,4,4,10,([]:List Int),([]:List Int)⟩:S53) [.int .i64 1,.int .i64 1,.int .i64 4,.int .i64 4,.int .i64 10,.slice none 0 0,.slice none 0 0] from (k53_mkM _ _ _ (⟨1,1,4,4,10,([]:List Int),([]:List Int)⟩:S53) (Kd.R_nil _ _ _ _ _) (Kd.R_nil _ _ _ _ _))) (Reps.none _ _)));intro gG gf bv hb hg_ hnew_;clear hg_ hnew_;(first|rw [← bM.out] at bv|(simp only [Int.reduceToNat] at bv;rw [← bM.out] at bv));have bN:=qaa.mk (Kd.S_lower (Kd.S_new' bv (Kd.S_lt (by (with_reducible repeat (first|apply Kd.S_alloc|apply Kd.S_drewN|apply Kd.S_drew));exact ac.out))) (qac sB));replace ac:=qaa.mk (Kd.S_elder' (by (with_reducible repeat (first|apply Kd.S_alloc|apply Kd.S_drewN|apply Kd.S_drew));exact ac.out) (Kd.S_base bv) hb);replace aa:=qaa.mk (sKb aa.out hb);replace ag:=qaa.mk (sKb ag.out hb);replace af:=qaa.mk (sKb af.out hb);replace HB:=qaa.mk (qai sB hb);clear hb bv;obtain⟨bS,bT,eX⟩:=Kd.S_slice bN.out;subst eX;obtain⟨d7,d8,d9⟩:=sC3 (w:=gf) af.out;obtain⟨ea,eb,ec⟩:=sF3 af.out;obtain⟨ed,ef,eg⟩:=sC3 (w:=gf) ag.out;obtain⟨eh,ek,el⟩:=sF3 ag.out))
     refine bodyPost_ret (results_cell_row rfl _ _ am 33 #[.int .i64 (ah (1+au)),.int .i64 (Go.bits .and .i64 ar 3),.slice bS bE.length bT] (0,0) _ rfl (by refine sM ?_;refine qak (cs:=#[.int .i64 (ah (1+au)),.int .i64 (Go.bits .and .i64 ar 3),.slice none 0 0]) ?_ 2 _ rfl;refine sM ?_;refine qak (cs:=#[.int .i64 (ah (1+au)),.int .i64 0,.slice none 0 0]) ?_ 1 _ rfl;refine sM ?_;refine qak (cs:=#[.int .i64 0,.int .i64 0,.slice none 0 0]) ?_ 0 _ rfl;refine sM ?_;refine qaf ?_ ai.out _;refine sM ?_;exact ag.out) Tryd.underlying33 rfl (by kernel_rfl)) rfl ?_
     exact⟨_,by first|rfl|(simp [qam,qal]<;>rfl)|(simp [bneNil,bneNilU]<;>rfl)|(simp [*,qam,qal]<;>rfl),by (with_reducible repeat (first|apply Kd.S_alloc|apply Kd.S_drewN|apply Kd.S_drew));exact Kd.S_mono (Kd.S_far (p:=⟨am,2,none⟩) (Kd.S_far (p:=⟨am,1,none⟩) (Kd.S_far (p:=⟨am,0,none⟩) (Kd.S_far (p:=⟨aj,2,none⟩) (Kd.S_types (Kd.S_types bN.out af.out (by decide)) ag.out (by decide)) (fun _ hk=>hk.1.2) (.slice bS bE.length bT)) (fun _ hk=>hk.2) (.int .i64 (ah (1+au)))) (fun _ hk=>hk.2) (.int .i64 (Go.bits .and .i64 ar 3))) (fun _ hk=>hk.2) (.slice bS bE.length bT)) (fun _ hk=>trivial),by repeat (first|(with_reducible first|exact HB.out|apply qah|apply qae|apply qag|refine qad ?_ aU.out|refine qad ?_ aV.out|refine qad ?_ aI.out)|exact HB.out)⟩
    ·rw [if_neg bL] at H
     have cz:((ae.length:Int) == 0)=false:=beq_eq_false_iff_ne.mpr bL
     have cA:((ae.length:Int) != 0)=true:=bne_iff_ne.mpr bL
     have gg:¬ (ae=[]):=fun h_=>bL (by rw [h_];rfl)
     simp only [Option.some.injEq,Prod.mk.injEq] at H
     obtain⟨rfl,rfl,rfl⟩:=H
     have gh:=aE.out
     have gi:=aG.out
     have gj:=ab.out
     have gl:=ak.out
     obtain⟨en,ep,eq⟩:=sC3 (w:=wr) aa.out
     obtain⟨er,es,et⟩:=sF3 aa.out
     have gm:=an.out
     have gn:=ai.out
     obtain⟨eu,ev,ew⟩:=sC3 (w:=wr) af.out
     obtain⟨ex,ey,ez⟩:=sF3 af.out
     obtain⟨cB,cC,eY⟩:=Kd.S_slice ac.out
     subst eY
     obtain⟨eA,eB,eC⟩:=sC3 (w:=wr) ag.out
     obtain⟨eD,eE,eF⟩:=sF3 ag.out
     go_wp2
     refine bodyPost_ret (results_cell_row rfl _ _ am 33 #[.int .i64 (ah (1+au)),.int .i64 (Go.bits .and .i64 ar 3),.slice cB ae.length cC] (0,0) _ rfl (by refine sM ?_;refine qak (cs:=#[.int .i64 (ah (1+au)),.int .i64 (Go.bits .and .i64 ar 3),.slice none 0 0]) ?_ 2 _ rfl;refine sM ?_;refine qak (cs:=#[.int .i64 (ah (1+au)),.int .i64 0,.slice none 0 0]) ?_ 1 _ rfl;refine sM ?_;refine qak (cs:=#[.int .i64 0,.int .i64 0,.slice none 0 0]) ?_ 0 _ rfl;refine sM ?_;exact ag.out) Tryd.underlying33 rfl (by kernel_rfl)) rfl ?_
     exact⟨_,by first|rfl|(simp [qam,qal]<;>rfl)|(simp [bneNil,bneNilU]<;>rfl)|(simp [*,qam,qal]<;>rfl),by (with_reducible repeat (first|apply Kd.S_alloc|apply Kd.S_drewN|apply Kd.S_drew));exact Kd.S_mono (Kd.S_far (p:=⟨am,2,none⟩) (Kd.S_far (p:=⟨am,1,none⟩) (Kd.S_far (p:=⟨am,0,none⟩) (Kd.S_types ac.out ag.out (by decide)) (fun _ hk=>hk.2) (.int .i64 (ah (1+au)))) (fun _ hk=>hk.2) (.int .i64 (Go.bits .and .i64 ar 3))) (fun _ hk=>hk.2) (.slice cB ae.length cC)) (fun _ hk=>trivial),by repeat (first|(with_reducible first|exact HB.out|apply qah|apply qae|apply qag|refine qad ?_ aU.out|refine qad ?_ aV.out|refine qad ?_ aI.out)|exact HB.out)⟩
end
end Go.Proofs.YtgnaaokhfpfglaaDoor.PCertTold
end
section
namespace Go.Proofs.YtgnaaokhfpfglaaDoor.PCertTold
open Go.RowKit Go.Proofs.YtgnaaokhfpfglaaDoorW.PrintWords Go.Proofs.YtgnaaokhfpfglaaDoorW.PrintLast Go.Proofs.YtgnaaokhfpfglaaDoorW.PrintMore
attribute [local go_sem] qaW qaU qa3 qa2 qaN qaM qaV qaT
set_option linter.unusedVariables false
set_option linter.unusedSimpArgs false
noncomputable section
def ostinatolaw21_Sys_made.l0:Nat→Int→Int→Int→List (S82)→Int→Int→List (S81)→Option (Int × Int × (List (S53)))
 |0,_,_,_,_,_,_,_=>none
 |k+1,x4,ah,ai,aa,ac,ae,ab=>if x4<(aa.length:Int) then (if x4<6 then (if 0≤x4 then (if ab.length<2199023255552 then (ostinatolaw21_Sys_made.l0 k (aj (x4+1)) ah ai aa ac ae (ab++[(⟨(qaF aa x4).f0,(qaF aa x4).f1,(qaF aa x4).f2,(qaF aa x4).f3,(qaF aa x4).f4,(qaF aa x4).f5⟩:S81)])) else (none)) else (none)) else ((ostinatoref05_System_Made.f k ac ae ab).bind fun af=>(some (af.1,af.2.1,af.2.2)))) else ((ostinatoref05_System_Made.f k ac ae ab).bind fun ag=>(some (ag.1,ag.2.1,ag.2.2)))
def ostinatolaw21_Sys_made.f (k:Nat) (aa:Int) (ab:Int) (ac:List (S82)):Option (Int × Int × (List (S53))):=ostinatolaw21_Sys_made.l0 k 0 aa ab ac aa ab ([]:List (S81))
def ostinatolaw21_Sys_made.T5:Bool × List (List Nat × List Nat):=(true,[([],[]),([0],[0]),([],[]),([2],[2]),([],[]),([3,4],[3,4]),([5],[5]),([6],[6]),([1,7],[1,7]),([0,1,2,3,4,5,6,7,8],[]),([9,8,8,0,1,2,3,4,5,6,7,8],[8,9])])
def ostinatolaw21_Sys_made.B5:List Nat:=[0,1,0,4,0,28,60,124,255,511,1023]
theorem ostinatolaw21_Sys_made.tab5:rtab .any (opsOf Tryd.f17 5)=ostinatolaw21_Sys_made.T5:=by kernel_rfl
theorem ostinatolaw21_Sys_made.bits5:waitsOk ostinatolaw21_Sys_made.T5.2 ostinatolaw21_Sys_made.B5=true:=by kernel_rfl
theorem ostinatolaw21_Sys_made.calls (k:Nat) (aq:Int) (ar:Int) (au:Nat→Prop) (A0_2:Option Addr) (c0_2:Nat) (ae:List (S82)) (r1:Int) (r2:Int) (r3:List (S53)) (w:World) (bY:Kd.V k82 82 w w.heap.size (fun k_=>au k_) (.slice A0_2 ae.length c0_2) ae) (h:ostinatolaw21_Sys_made.f k aq ar ae=some (r1,r2,r3)) :
  Calls Tryd.prog 17 #[.agg #[.int .i64 aq,.int .i64 ar,.slice A0_2 ae.length c0_2]] w fun e w'=>∃ dx:Value,e=.returned (.agg #[.int .i64 r1,.int .i64 r2,dx])∧Kd.N k53 53 w' w.heap.size (fun k_=>(au k_∨w.heap.size≤k_)) dx r3∧Below w.heap.size w w':=by
 have d8:=Tryd.underlying24
 have d9:=Tryd.underlying33
 have ea:=Tryd.underlying79
 have eb:=Tryd.underlying82
 have aD:=qaa.mk (show Kd.V k82 82 w w.heap.size (fun k_=>(au k_∨w.heap.size≤k_)) (.slice A0_2 ae.length c0_2) ae from Kd.V_mono bY (fun k_ hk=>.inl hk))
 have HB:=qaa.mk (Below.refl w.heap.size w)
 have H:(ostinatolaw21_Sys_made.l0 k 0 aq ar ae aq ar ([]:List (S81)))=some (r1,r2,r3):=h
 clear h
 have H':=qaa.mk H
 clear H
 go_enter Tryd.func17,Tryd.ntmps17
 go_wp2_with (first|((with_reducible refine qap (N:=1) rfl ?_);refine qao ?hg (N:=1) ?hd (cs:=#[.int .i64 aq,.int .i64 ar,.slice A0_2 ae.length c0_2]) (t:=24) ?hr ?_;(case hd=>rfl);(case hg=>rfl);(case hr=>first|(go_simp;done)|(go_simp;rfl));intro al hg w2 hbox hb;replace aD:=qaa.mk (Kd.V_below (Kd.V_elderB (sV aD.out) al (Nat.le_of_eq hg.symm)) hb);have ac:=qaa.mk (hbox);have dy:=qaa.mk ((by rw [hg];exact (qac sB):w.heap.size≤al));have aJ:=qaa.mk ((by rw [hg];exact (qac sB):w.heap.size≤al));replace HB:=qaa.mk (qai sB hb);clear hb hbox hg)|((with_reducible refine qap (N:=2) rfl ?_);refine qao ?hg (N:=2) ?hd (cs:=#[.int .i64 0,.int .i64 0,.slice none 0 0]) (t:=33) ?hr ?_;(case hd=>rfl);(case hg=>rfl);(case hr=>first|(go_simp;done)|(go_simp;rfl));intro ai hg w3 hbox hb;replace aD:=qaa.mk (Kd.V_below (Kd.V_elderB (sV aD.out) ai (Nat.le_of_eq hg.symm)) hb);have ak:=qaa.mk (hbox);have dz:=qaa.mk ((by rw [hg];exact (qac sB):w.heap.size≤ai));have aK:=qaa.mk ((by rw [hg];exact (qac sB):w.heap.size≤ai));replace HB:=qaa.mk (qai sB hb);have ax:=qaa.mk ((by rw [hg];exact Nat.ne_of_lt (sLt ac.out):al≠ai));have ay:=qaa.mk ((by rw [hg];exact Nat.ne_of_gt (sLt ac.out):ai≠al));replace ac:=qaa.mk (sKb ac.out hb);clear hb hbox hg;have ec:=ax.out;have ed:=ay.out;obtain⟨bB,bC,bD⟩:=sC3 (w:=w3) ac.out;obtain⟨bE,bF,bG⟩:=sF3 ac.out)|((with_reducible refine qap (N:=3) rfl ?_);refine qao ?hg (N:=3) ?hd (cs:=#[.int .i64 0,.int .i64 0,.slice none 0 0]) (t:=79) ?hr ?_;(case hd=>rfl);(case hg=>rfl);(case hr=>first|(go_simp;done)|(go_simp;rfl));intro ag hg w6 hbox hb;replace aD:=qaa.mk (Kd.V_below (Kd.V_elderB (sV aD.out) ag (Nat.le_of_eq hg.symm)) hb);have aj:=qaa.mk (hbox);have dA:=qaa.mk ((by rw [hg];exact (qac sB):w.heap.size≤ag));have aM:=qaa.mk ((by rw [hg];exact (qac sB):w.heap.size≤ag));replace HB:=qaa.mk (qai sB hb);have am:=qaa.mk ((by rw [hg];exact Nat.ne_of_lt (sLt ac.out):al≠ag));have av:=qaa.mk ((by rw [hg];exact Nat.ne_of_gt (sLt ac.out):ag≠al));replace ac:=qaa.mk (sKb ac.out hb);have ap:=qaa.mk ((by rw [hg];exact Nat.ne_of_lt (sLt ak.out):ai≠ag));have az:=qaa.mk ((by rw [hg];exact Nat.ne_of_gt (sLt ak.out):ag≠ai));replace ak:=qaa.mk (sKb ak.out hb);clear hb hbox hg;have ef:=av.out;have eg:=am.out;have eh:=az.out;have ek:=ap.out;obtain⟨bH,bI,bJ⟩:=sC3 (w:=w6) aj.out;obtain⟨bK,bL,bM⟩:=sF3 aj.out))
 go_loopg [4] k (fun kq v4 w'=>∃ (ab:Int) (af:List (S81)) (an:Value),v4=.int .i64 ab∧qaa (ostinatolaw21_Sys_made.l0 kq ab aq ar ae aq ar af=some (r1,r2,r3))∧qaa (kq≤k)∧qaa (Kd.V k82 82 w' w.heap.size (fun k_=>(au k_∨w.heap.size≤k_)∧some k_≠(an:Value).ownBlock∧k_≠al∧k_≠ai∧k_≠ag) (.slice A0_2 ae.length c0_2) ae)∧qaa (Kd.N k81 81 w' w.heap.size (fun k_=>(au k_∨w.heap.size≤k_)∧k_≠al∧k_≠ai∧k_≠ag) an af)∧qaa (w'.heap[al]? = some (.cells #[.int .i64 aq,.int .i64 ar,(.slice A0_2 ae.length c0_2)] 24 (0,0)))∧qaa (w'.heap[ai]? = some (.cells #[.int .i64 0,.int .i64 0,(.slice none 0 0)] 33 (0,0)))∧qaa (w'.heap[ag]? = some (.cells #[.int .i64 aq,.int .i64 ar,an] 79 (0,0)))∧qaa (Below w.heap.size w w'))
 case atStart=>exact⟨(0),(([]:List (S81))),(.slice none 0 0),(by first|rfl|(simp;done)|(simp [*];done)),H',⟨Nat.le_refl _⟩,⟨by refine sVm ?_;exact Kd.V_mono (Kd.V_far (p:=⟨ag,2,none⟩) (Kd.V_far (p:=⟨ag,1,none⟩) (Kd.V_far (p:=⟨ag,0,none⟩) (Kd.V_mono aD.out (fun k_ hk=>(⟨hk,hk.2⟩:_∧k_≠ag))) (fun _ hk=>hk.2) (.int .i64 aq)) (fun _ hk=>hk.2) (.int .i64 ar)) (fun _ hk=>hk.2) (.slice none 0 0)) (fun _ hk=>⟨hk.1.1.1.1,⟨(by simp [Value.ownBlock]),⟨hk.1.1.1.2,⟨hk.1.1.2,hk.1.2⟩⟩⟩⟩)⟩,⟨by first|exact Kd.S_nil _ _ _ _ _|exact Kd.N_nil _ _ _ _ _|exact Kd.V_nil _ _ _ _ _|exact Kd.Q_nil _ _ _ _ _|exact Kd.R_nil _ _ _ _ _⟩,⟨by refine sM ?_;refine qaf ?_ am.out _;refine sM ?_;refine qaf ?_ am.out _;refine sM ?_;refine qaf ?_ am.out _;refine sM ?_;exact ac.out⟩,⟨by refine sM ?_;refine qaf ?_ ap.out _;refine sM ?_;refine qaf ?_ ap.out _;refine sM ?_;refine qaf ?_ ap.out _;refine sM ?_;exact ak.out⟩,⟨by refine sM ?_;refine qak (cs:=#[.int .i64 aq,.int .i64 ar,.slice none 0 0]) ?_ 2 _ rfl;refine sM ?_;refine qak (cs:=#[.int .i64 aq,.int .i64 0,.slice none 0 0]) ?_ 1 _ rfl;refine sM ?_;refine qak (cs:=#[.int .i64 0,.int .i64 0,.slice none 0 0]) ?_ 0 _ rfl;refine sM ?_;exact aj.out⟩,⟨by repeat (first|(with_reducible first|exact HB.out|apply qah|apply qae|apply qag|refine qad ?_ aJ.out|refine qad ?_ aK.out|refine qad ?_ aM.out)|exact HB.out)⟩⟩
 case round=>
  clear H'
  try clear c1
  try clear p2
  try clear c4
  try clear c7
  try clear c8
  try clear bB bC bD
  try clear bH bI bJ
  try clear bE bF bG
  try clear bK bL bM
  obtain⟨ab,af,an,rfl,HA,dB,ah,aa,ac,ak,aj,HB⟩:=hrel
  cases gk with
  |zero=>exact absurd HA.out (by simp [ostinatolaw21_Sys_made.l0])
  |succ k1=>
   have H:=HA.out
   clear HA
   simp only [ostinatolaw21_Sys_made.l0] at H
   by_cases bW:ab<(ae.length:Int)
   ·rw [if_pos bW] at H
    have bZ:decide (ab<(ae.length:Int))=true:=decide_eq_true bW
    clear bW
    by_cases bX:ab<6
    ·rw [if_pos bX] at H
     have b8:decide (ab<6)=true:=decide_eq_true bX
     clear bX
     by_cases co:0≤ab
     ·rw [if_pos co] at H
      have dC:decide (0≤ab)=true:=decide_eq_true co
      clear co
      by_cases cp:af.length<2199023255552
      ·rw [if_pos cp] at H
       have b9:=qaa.mk cp
       clear cp
       obtain⟨a8,aI⟩:∃ y_:List (S81),y_=(af++[(⟨(qaF ae ab).f0,(qaF ae ab).f1,(qaF ae ab).f2,(qaF ae ab).f3,(qaF ae ab).f4,(qaF ae ab).f5⟩:S81)]):=⟨_,rfl⟩
       replace H:(ostinatolaw21_Sys_made.l0 k1 (bN (ab+1)) aq ar ae aq ar a8)=some (r1,r2,r3):=by first|(rw [aI];with_reducible exact H)|(have dp:=(Option.bind_some _ _).symm.trans H;rw [aI];with_reducible exact dp)|(have dp:=(Option.bind_some _ _).symm.trans H;with_reducible exact dp)|with_reducible exact H|(rw [aI];exact H)|exact H
       have ca:=qaa.mk aI
       clear aI
       have H':=qaa.mk H
       clear H
       have dD:=ax.out
       have dE:=ay.out
       have dF:=am.out
       have dG:=av.out
       obtain⟨cq,cr,ct⟩:=sC3 (w:=wr) ac.out
       obtain⟨cu,cv,cw⟩:=sF3 ac.out
       try go_wp2
       replace ah:=qaa.mk (Kd.V_drew ah.out)
       replace aa:=qaa.mk (Kd.N_drew aa.out)
       replace ac:=qaa.mk (qax ac.out)
       replace ak:=qaa.mk (qax ak.out)
       replace aj:=qaa.mk (qax aj.out)
       replace HB:=qaa.mk (qag HB.out)
       have bm:0≤(ab:Int):=of_decide_eq_true sA
       have bn:ab<(ae.length:Int):=of_decide_eq_true sA
       obtain⟨aw,ba,be,dq,aN,aQ,aT,aU,aV,aE,aW,aX⟩:=at_T82 (Kd.V_reads' ah.out).2.2 ab bm bn
       cases dq
       obtain⟨dH,bO,bP,bf⟩:=Kd.V_get ah.out z82 ab bm (by first|exact bn|exact of_decide_eq_true sA|(have e_:=(Kd.V_reads' ah.out).1;omega))
       obtain⟨cx,cy,rfl,aG,aH⟩:=k82_openF bP
       have aC:=bf 5 _ rfl
       rw [qat _ _ 5 (by omega)] at aC
       replace aC:=Option.some.inj (aC.symm.trans aE)
       injection aC with hva_ hvn_ hvc_
       rw [hva_] at aH
       rw [hvc_] at aG
       have aA:=qaa.mk (show Kd.V (Kd.int .i64) 3 _ w.heap.size _ _ ((qaF ae ab).f5) from Kd.V_mk aG aH)
       clear hva_ hvn_ hvc_ aH aG bf bO
       have bp:=qaa.mk aX
       have cz:=qaa.mk aW
       clear aX aW
       replace bm:=eq_true bm
       replace bn:=eq_true bn
       refine start_ (n:=11) (S:=fun w'=>w'.cell? ⟨ag,0,none⟩=some (.int .i64 aq)∧w'.cell? ⟨ag,1,none⟩=some (.int .i64 ar)∧w'.cell? ⟨ag,2,none⟩=some (an)∧w'.cell? ⟨al,0,none⟩=some (.int .i64 aq)∧w'.cell? ⟨al,1,none⟩=some (.int .i64 ar)∧w'.cell? ⟨al,2,none⟩=some (.slice (some aw) ae.length c0_2)∧w'.cell? (aw.add ((ab).toNat * 6))=some (.int .i64 ((qaF ae ab).f0))∧w'.cell? ⟨(aw.add ((ab).toNat * 6)).block,(aw.add ((ab).toNat * 6)).off+1,none⟩=some (.int .i64 ((qaF ae ab).f1))∧w'.cell? ⟨(aw.add ((ab).toNat * 6)).block,(aw.add ((ab).toNat * 6)).off+2,none⟩=some (.int .i64 ((qaF ae ab).f2))∧w'.cell? ⟨(aw.add ((ab).toNat * 6)).block,(aw.add ((ab).toNat * 6)).off+3,none⟩=some (.int .i64 ((qaF ae ab).f3))∧w'.cell? ⟨(aw.add ((ab).toNat * 6)).block,(aw.add ((ab).toNat * 6)).off+4,none⟩=some (.int .i64 ((qaF ae ab).f4))∧w'.cell? ⟨(aw.add ((ab).toNat * 6)).block,(aw.add ((ab).toNat * 6)).off+5,none⟩=some (.slice ba ((qaF ae ab).f5).length be)) (ds:=[8,10]) #[false,false,false,false,false,false,false,false,false,false,false] (by kernel_rfl) rfl rfl ⟨(qab aj.out 0).trans rfl,(qab aj.out 1).trans rfl,(qab aj.out 2).trans rfl,(qab ac.out 0).trans rfl,(qab ac.out 1).trans rfl,(qab ac.out 2).trans rfl,aN,aQ,aT,aU,aV,aE⟩ (fun hHeld=>?_);refine qaX ostinatolaw21_Sys_made.tab5 ostinatolaw21_Sys_made.bits5 (fun HT_ HW_=>?_)
       generalize wr.drew=eA at ah aa ac ak aj HB aA bp aN aQ aT aU aV aE hHeld ⊢
       refine sP 0 (some 21) rfl rfl ?_
       refine sP 2 (some 23) rfl rfl ?_
       refine sP 4 (some 25) rfl rfl ?_
       refine qaZ (i:=1) (N:=some 22) (v:=?_) (a':=?_) #[true,true,true,false,true,false,false,false,false,false,false] rfl rfl (qay HT_.out HW_.out (by kernel_rfl)) (fun _ _ _ h=>h) (Or.inl ⟨by rfl,?_⟩) hHeld ?_ ?_
       rotate_left
       ·rintro w' ⟨s0,s1,s2,s3,s4,s5,s6,s7,s8,s9,dI,dJ⟩
        go_simp
        with_reducible rfl
       rotate_left
       ·simp only [Act.put,List.setIfInBounds_toArray,List.set_cons_zero,List.set_cons_succ,qaC,qaE]
        rfl
       refine qaZ (i:=3) (N:=some 24) (v:=?_) (a':=?_) #[true,true,true,true,true,false,false,false,false,false,false] rfl rfl (qay HT_.out HW_.out (by kernel_rfl)) (fun _ _ _ h=>h) (Or.inl ⟨by rfl,?_⟩) hHeld ?_ ?_
       rotate_left
       ·rintro w' ⟨s0,s1,s2,s3,s4,s5,s6,s7,s8,s9,dI,dJ⟩
        go_simp
        with_reducible rfl
       rotate_left
       ·simp only [Act.put,List.setIfInBounds_toArray,List.set_cons_zero,List.set_cons_succ,qaC,qaE]
        rfl
       refine sP 5 (some 26) rfl rfl ?_
       refine qaZ (i:=6) (N:=some 27) (v:=?_) (a':=?_) #[true,true,true,true,true,true,true,false,false,false,false] rfl rfl (qay HT_.out HW_.out (by kernel_rfl)) (fun _ _ _ h=>h) (Or.inl ⟨by rfl,?_⟩) hHeld ?_ ?_
       rotate_left
       ·rintro w' ⟨s0,s1,s2,s3,s4,s5,s6,s7,s8,s9,dI,dJ⟩
        go_simp
        with_reducible rfl
       rotate_left
       ·simp only [Act.put,List.setIfInBounds_toArray,List.set_cons_zero,List.set_cons_succ,qaC,qaE]
        rfl
       refine one_ (i:=7) (N:=some 28) #[true,true,true,true,true,true,true,true,false,false,false] rfl rfl (qaO HT_.out (by kernel_rfl)) (by decide) (fun K hK=>?_)
       refine value_ (w1:=?_) (v:=?_) (by rfl) rfl ?_ ?_
       rotate_left 2
       ·go_simp
        constructor
        ·rfl
        ·rfl
       refine hK.out _ _ ⟨(qab (qas aj.out _) 0).trans rfl,(qab (qas aj.out _) 1).trans rfl,(qab (qas aj.out _) 2).trans rfl,(qab (qas ac.out _) 0).trans rfl,(qab (qas ac.out _) 1).trans rfl,(qab (qas ac.out _) 2).trans rfl,(World.cell?_alloc_lt _ _ _ (bLt _ _ (hHeld.2.2.2.2.2.2.1))).trans (hHeld.2.2.2.2.2.2.1),(World.cell?_alloc_lt _ _ _ (bLt _ _ (hHeld.2.2.2.2.2.2.2.1))).trans (hHeld.2.2.2.2.2.2.2.1),(World.cell?_alloc_lt _ _ _ (bLt _ _ (hHeld.2.2.2.2.2.2.2.2.1))).trans (hHeld.2.2.2.2.2.2.2.2.1),(World.cell?_alloc_lt _ _ _ (bLt _ _ (hHeld.2.2.2.2.2.2.2.2.2.1))).trans (hHeld.2.2.2.2.2.2.2.2.2.1),(World.cell?_alloc_lt _ _ _ (bLt _ _ (hHeld.2.2.2.2.2.2.2.2.2.2.1))).trans (hHeld.2.2.2.2.2.2.2.2.2.2.1),(World.cell?_alloc_lt _ _ _ (bLt _ _ (hHeld.2.2.2.2.2.2.2.2.2.2.2))).trans (hHeld.2.2.2.2.2.2.2.2.2.2.2)⟩ (fun hHeld=>?_)
       clear hK K
       refine qa0 (a':=?_) ?_ ?_
       rotate_left
       ·show Act.put _ (some 28) _=_
        simp only [Act.put,List.setIfInBounds_toArray,List.set_cons_zero,List.set_cons_succ,qaC,qaE]
        rfl
       refine last_ (i:=8) (N:=some 29) #[true,true,true,true,true,true,true,true,true,false,false] rfl rfl (qaO HT_.out (by kernel_rfl)) (by decide) (fun K hK=>?_)
       refine Kd.N_append_step k81 (w0:=w) w.heap.size (by rfl) (.tmp 22) (.tmp 28) 77 81 (.agg #[(.int .i64 0),(.int .i64 0),(.int .i64 0),(.int .i64 0),(.int .i64 0),(.slice none 0 0)]) 64 rfl Tryd.underlying77 info81 rfl (by decide) (by omega) an af (⟨(qaF ae ab).f0,(qaF ae ab).f1,(qaF ae ab).f2,(qaF ae ab).f3,(qaF ae ab).f4,(qaF ae ab).f5⟩:S81) [.int .i64 ((qaF ae ab).f0),.int .i64 ((qaF ae ab).f1),.int .i64 ((qaF ae ab).f2),.int .i64 ((qaF ae ab).f3),.int .i64 ((qaF ae ab).f4),.slice ba ((qaF ae ab).f5).length be] (fun k_=>(au k_∨w.heap.size≤k_)∧k_≠al∧k_≠ai∧k_≠ag) (fun k_=>((fun k_=>(au k_∨w.heap.size≤k_)∧k_≠al∧k_≠ai∧k_≠ag)) k_∧some k_≠(an:Value).ownBlock) rfl rfl ?aP (fun _ hk=>hk) ?aF ?aO ?aB ?aS ?aL ?_
       (case aP=>exact (k81_mkF _ _ (⟨(qaF ae ab).f0,(qaF ae ab).f1,(qaF ae ab).f2,(qaF ae ab).f3,(qaF ae ab).f4,(qaF ae ab).f5⟩:S81) (Kd.V_reads' (Kd.V_mono (ok':=(fun k_=>((fun k_=>(au k_∨w.heap.size≤k_)∧k_≠al∧k_≠ai∧k_≠ag)) k_∧some k_≠(an:Value).ownBlock)) (aA.out) (fun k_ hk=>⟨⟨hk.1,⟨hk.2.2.1,⟨hk.2.2.2.1,hk.2.2.2.2⟩⟩⟩,hk.2.1⟩))).2.1 (Kd.V_F (Kd.V_mono (ok':=(fun k_=>((fun k_=>(au k_∨w.heap.size≤k_)∧k_≠al∧k_≠ai∧k_≠ag)) k_∧some k_≠(an:Value).ownBlock)) (aA.out) (fun k_ hk=>⟨⟨hk.1,⟨hk.2.2.1,⟨hk.2.2.2.1,hk.2.2.2.2⟩⟩⟩,hk.2.1⟩)))))
       (case aB=>exact sB)
       (case aF=>exact (fun k_ hk=>⟨(.inr (Nat.le_trans (qac sB) hk)),Kd.freshB (g:=al) (o:=.cells #[.int .i64 aq,.int .i64 ar,.slice (some aw) ae.length c0_2] 24 (0,0)) (sK ac.out) k_ hk,Kd.freshB (g:=ai) (o:=.cells #[.int .i64 0,.int .i64 0,.slice none 0 0] 33 (0,0)) (sK ak.out) k_ hk,Kd.freshB (g:=ag) (o:=.cells #[.int .i64 aq,.int .i64 ar,an] 79 (0,0)) (sK aj.out) k_ hk⟩))
       (case aO=>exact (sN aa.out))
       (case aS=>exact (qac sB))
       (case aL=>have:=b9.out;omega)
       intro el en ho hb hg hat
       rw [← ca.out] at ho
       replace ah:=qaa.mk (Kd.V_afterv (ok:=(fun k_=>(au k_∨w.heap.size≤k_)∧k_≠al∧k_≠ai∧k_≠ag)) (by refine sVm ?_;exact Kd.V_mono ah.out (fun _ hk=>⟨⟨hk.1,⟨hk.2.2.1,⟨hk.2.2.2.1,hk.2.2.2.2⟩⟩⟩,hk.2.1⟩)) hg hat)
       replace ac:=qaa.mk (sKg ac.out hg (Kd.N_ne aa.out ac.out (by decide)))
       replace ak:=qaa.mk (sKg ak.out hg (Kd.N_ne aa.out ak.out (by decide)))
       replace aj:=qaa.mk (sKg aj.out hg (Kd.N_ne aa.out aj.out (by decide)))
       replace aA:=qaa.mk (Kd.V_afterv (ok:=(fun k_=>(au k_∨w.heap.size≤k_)∧k_≠al∧k_≠ai∧k_≠ag)) (by refine sVm ?_;exact Kd.V_mono aA.out (fun _ hk=>⟨⟨hk.1,⟨hk.2.2.1,⟨hk.2.2.2.1,hk.2.2.2.2⟩⟩⟩,hk.2.1⟩)) hg hat)
       replace HB:=qaa.mk (hb)
       have bw:=qaa.mk (ho)
       clear aa ho hb hg hat
       obtain⟨bQ,bR,cb⟩:=Kd.N_slice bw.out
       (first|subst cb|(injection cb with dK ep dL;have eq:=dK.symm;have er:=dL.symm;clear dK ep dL;subst eq;subst er))
       refine hK.out _ _ ?_
       clear hK K
       refine qa0 (a':=?_) ?_ ?_
       rotate_left
       ·show Act.put _ (some 29) _=_
        simp only [Act.put,List.setIfInBounds_toArray,List.set_cons_zero,List.set_cons_succ,qaC,qaE]
        rfl
       refine sP 9 (some 30) rfl rfl ?_
       refine last_ (i:=10) (N:=none) #[true,true,true,true,true,true,true,true,true,true,true] rfl rfl (qaO HT_.out (by kernel_rfl)) (by decide) (fun K hK=>?_)
       have es:en.cell? ⟨ag,2,none⟩=some (an):=(qab aj.out 2).trans rfl
       have dM:=qan aj.out 2
       have cA:=am.out
       have cB:=ap.out
       have cC:=av.out
       have cD:=az.out
       refine skip_ (w1:=?_) (by rfl) rfl ?_ ?_
       rotate_left
       ·go_simp
        rfl
       refine hK.out _ _ ?_
       clear hK K
       refine done_ (done_of HT_.out (by kernel_rfl)) ?_
       try go_wp2
       go_roundg k1
       case measure=>have:=dB.out;omega
       case rel=>exact⟨(bN (ab+1)),(a8),(.slice bQ a8.length bR),(by first|rfl|(simp;done)|(simp [*];done)),H',⟨by have:=dB.out;omega⟩,⟨by refine sVm ?_;exact Kd.V_mono (Kd.V_far (p:=⟨ag,2,none⟩) (Kd.V_mono ah.out (fun k_ hk=>(⟨hk,hk.1.2.2.2⟩:_∧k_≠ag))) (fun _ hk=>hk.2) (.slice bQ a8.length bR)) (fun _ hk=>⟨hk.1.1.1,⟨hk.1.2,⟨hk.1.1.2.1,⟨hk.1.1.2.2.1,hk.1.1.2.2.2⟩⟩⟩⟩)⟩,⟨by refine sNm ?_;exact Kd.N_mono (Kd.N_far (p:=⟨ag,2,none⟩) (Kd.N_mono bw.out (fun k_ hk=>(⟨hk,hk.2.2.2⟩:_∧k_≠ag))) (fun _ hk=>hk.2) (.slice bQ a8.length bR)) (fun _ hk=>⟨hk.1.1,⟨hk.1.2.1,⟨hk.1.2.2.1,hk.1.2.2.2⟩⟩⟩)⟩,⟨by refine sM ?_;refine qaf ?_ am.out _;refine sM ?_;exact ac.out⟩,⟨by refine sM ?_;refine qaf ?_ ap.out _;refine sM ?_;exact ak.out⟩,⟨by refine sM ?_;refine qak (cs:=#[.int .i64 aq,.int .i64 ar,an]) ?_ 2 _ rfl;refine sM ?_;exact aj.out⟩,⟨by repeat (first|(with_reducible first|exact HB.out|apply qah|apply qae|apply qag|refine qad ?_ aJ.out|refine qad ?_ aK.out|refine qad ?_ aM.out)|exact HB.out)⟩⟩
      ·rw [if_neg cp] at H
       exact absurd H (by simp)
     ·rw [if_neg co] at H
      exact absurd H (by simp)
    ·rw [if_neg bX] at H
     have b8:decide (ab<6)=false:=decide_eq_false bX
     clear bX
     replace H:=Option.bind_eq_some_iff.mp H
     obtain⟨⟨aY,bg,bq⟩,ce,H⟩:=H
     replace H:(some (aY,bg,bq))=some (r1,r2,r3):=H
     have et:=qaa.mk ce
     clear ce
     simp only [Option.some.injEq,Prod.mk.injEq] at H
     obtain⟨rfl,rfl,rfl⟩:=H
     have dN:=ax.out
     have dO:=ay.out
     have dP:=am.out
     have dQ:=av.out
     obtain⟨cE,cF,cG⟩:=sC3 (w:=wr) ac.out
     obtain⟨cH,cI,cJ⟩:=sF3 ac.out
     have dT:=az.out
     have dU:=ap.out
     obtain⟨cK,cL,cM⟩:=sC3 (w:=wr) aj.out
     obtain⟨cN,cO,cP⟩:=sF3 aj.out
     obtain⟨bS,bT,dr⟩:=Kd.N_slice aa.out
     subst dr
     go_wp2_with (first|((with_reducible refine qaA (f:=35) rfl ?_);refine qa7 (some 32) rfl rfl Tryd.func35 (by kernel_rfl) rfl #[.agg #[.int .i64 aq,.int .i64 ar,.slice bS af.length bT]] rfl (by (try simp only [List.map_toArray,List.map_cons,List.map_nil]);first|done|rfl|(simp only [List.length_drop,List.length_take];rfl)) ?_;(with_reducible refine (ostinatoref05_System_Made.calls k1 aq ar _ _ af aY bg bq _ ?bh ?bi et.out).mono ?_);(case bh=>repeat (first|exact (Kd.N_reads' aa.out).2.2|(with_reducible refine Kd.C_alloc ?_ _)|(with_reducible refine Kd.C_drewN ?_ _)|(with_reducible refine Kd.C_drew ?_)));(case bi=>exact (Kd.N_reads' aa.out).2.1);rintro e eu ⟨ev,rfl,bt,hb⟩;refine⟨_,rfl,?_⟩;replace ah:=qaa.mk (Kd.V_elder' (sV ah.out) (Kd.S_base bt) hb);have bx:=qaa.mk (Kd.N_lower (Kd.N_mono (ok':=fun k_=>(au k_∨w.heap.size≤k_)∧some k_≠(.slice bS af.length bT:Value).ownBlock∧k_≠al∧k_≠ai∧k_≠ag) (Kd.S_N (Kd.S_bound bt)) (fun k_ hk_=>⟨(.inr (Nat.le_trans (qac sB) hk_.2.1)),(Kd.fresh' (Kd.N_lt (sN aa.out)) k_ hk_.2.1),(Kd.freshB (g:=al) (o:=.cells #[.int .i64 aq,.int .i64 ar,.slice A0_2 ae.length c0_2] 24 (0,0)) (sK ac.out) k_ hk_.2.1),(Kd.freshB (g:=ai) (o:=.cells #[.int .i64 0,.int .i64 0,.slice none 0 0] 33 (0,0)) (sK ak.out) k_ hk_.2.1),(Kd.freshB (g:=ag) (o:=.cells #[.int .i64 aq,.int .i64 ar,.slice bS af.length bT] 79 (0,0)) (sK aj.out) k_ hk_.2.1)⟩)) (qac sB));replace aa:=qaa.mk (Kd.N_elder' (sN aa.out) (Kd.S_base bt) hb);replace ac:=qaa.mk (sKb ac.out hb);replace ak:=qaa.mk (sKb ak.out hb);replace aj:=qaa.mk (sKb aj.out hb);replace HB:=qaa.mk (qai sB hb);(try clear hb);(try clear ew);(try clear hk);(try clear hi);(try clear bt);obtain⟨cQ,cR,cS⟩:=sC3 (w:=eu) ak.out;obtain⟨cT,cU,cV⟩:=sF3 ak.out;obtain⟨cf,cg,du⟩:=Kd.N_slice bx.out;subst du))
     refine bodyPost_ret (results_cell_row rfl _ _ ai 33 #[.int .i64 aY,.int .i64 bg,.slice cf bq.length cg] (0,0) _ rfl (by refine sM ?_;refine qak (cs:=#[.int .i64 aY,.int .i64 bg,.slice none 0 0]) ?_ 2 _ rfl;refine sM ?_;refine qak (cs:=#[.int .i64 aY,.int .i64 0,.slice none 0 0]) ?_ 1 _ rfl;refine sM ?_;refine qak (cs:=#[.int .i64 0,.int .i64 0,.slice none 0 0]) ?_ 0 _ rfl;refine sM ?_;exact ak.out) Tryd.underlying33 rfl (by kernel_rfl)) rfl ?_
     exact⟨_,by first|rfl|(simp [qam,qal]<;>rfl)|(simp [bneNil,bneNilU]<;>rfl)|(simp [*,qam,qal]<;>rfl),by refine sNm ?_;exact Kd.N_mono (Kd.N_far (p:=⟨ai,2,none⟩) (Kd.N_far (p:=⟨ai,1,none⟩) (Kd.N_far (p:=⟨ai,0,none⟩) (Kd.N_mono bx.out (fun k_ hk=>(⟨hk,hk.2.2.2.1⟩:_∧k_≠ai))) (fun _ hk=>hk.2) (.int .i64 aY)) (fun _ hk=>hk.2) (.int .i64 bg)) (fun _ hk=>hk.2) (.slice cf bq.length cg)) (fun _ hk=>hk.1.1),by repeat (first|(with_reducible first|exact HB.out|apply qah|apply qae|apply qag|refine qad ?_ aJ.out|refine qad ?_ aK.out|refine qad ?_ aM.out)|exact HB.out)⟩
   ·rw [if_neg bW] at H
    have bZ:decide (ab<(ae.length:Int))=false:=decide_eq_false bW
    clear bW
    replace H:=Option.bind_eq_some_iff.mp H
    obtain⟨⟨aZ,bj,bv⟩,cj,H⟩:=H
    replace H:(some (aZ,bj,bv))=some (r1,r2,r3):=H
    have ex:=qaa.mk cj
    clear cj
    simp only [Option.some.injEq,Prod.mk.injEq] at H
    obtain⟨rfl,rfl,rfl⟩:=H
    have dV:=ax.out
    have dW:=ay.out
    have dX:=am.out
    have dY:=av.out
    obtain⟨cW,cX,cY⟩:=sC3 (w:=wr) ac.out
    obtain⟨cZ,da,db⟩:=sF3 ac.out
    have dZ:=az.out
    have d7:=ap.out
    obtain⟨dc,dd,de⟩:=sC3 (w:=wr) aj.out
    obtain⟨df,dg,dh⟩:=sF3 aj.out
    obtain⟨bU,bV,dv⟩:=Kd.N_slice aa.out
    subst dv
    go_wp2_with (first|((with_reducible refine qaA (f:=35) rfl ?_);refine qa7 (some 32) rfl rfl Tryd.func35 (by kernel_rfl) rfl #[.agg #[.int .i64 aq,.int .i64 ar,.slice bU af.length bV]] rfl (by (try simp only [List.map_toArray,List.map_cons,List.map_nil]);first|done|rfl|(simp only [List.length_drop,List.length_take];rfl)) ?_;(with_reducible refine (ostinatoref05_System_Made.calls k1 aq ar _ _ af aZ bj bv _ ?bh ?bi ex.out).mono ?_);(case bh=>repeat (first|exact (Kd.N_reads' aa.out).2.2|(with_reducible refine Kd.C_alloc ?_ _)|(with_reducible refine Kd.C_drewN ?_ _)|(with_reducible refine Kd.C_drew ?_)));(case bi=>exact (Kd.N_reads' aa.out).2.1);rintro e ey ⟨ez,rfl,bt,hb⟩;refine⟨_,rfl,?_⟩;replace ah:=qaa.mk (Kd.V_elder' (sV ah.out) (Kd.S_base bt) hb);have bz:=qaa.mk (Kd.N_lower (Kd.N_mono (ok':=fun k_=>(au k_∨w.heap.size≤k_)∧some k_≠(.slice bU af.length bV:Value).ownBlock∧k_≠al∧k_≠ai∧k_≠ag) (Kd.S_N (Kd.S_bound bt)) (fun k_ hk_=>⟨(.inr (Nat.le_trans (qac sB) hk_.2.1)),(Kd.fresh' (Kd.N_lt (sN aa.out)) k_ hk_.2.1),(Kd.freshB (g:=al) (o:=.cells #[.int .i64 aq,.int .i64 ar,.slice A0_2 ae.length c0_2] 24 (0,0)) (sK ac.out) k_ hk_.2.1),(Kd.freshB (g:=ai) (o:=.cells #[.int .i64 0,.int .i64 0,.slice none 0 0] 33 (0,0)) (sK ak.out) k_ hk_.2.1),(Kd.freshB (g:=ag) (o:=.cells #[.int .i64 aq,.int .i64 ar,.slice bU af.length bV] 79 (0,0)) (sK aj.out) k_ hk_.2.1)⟩)) (qac sB));replace aa:=qaa.mk (Kd.N_elder' (sN aa.out) (Kd.S_base bt) hb);replace ac:=qaa.mk (sKb ac.out hb);replace ak:=qaa.mk (sKb ak.out hb);replace aj:=qaa.mk (sKb aj.out hb);replace HB:=qaa.mk (qai sB hb);(try clear hb);(try clear ew);(try clear hk);(try clear hi);(try clear bt);obtain⟨di,dj,dk⟩:=sC3 (w:=ey) ak.out;obtain⟨dl,dm,dn⟩:=sF3 ak.out;obtain⟨ck,cm,dw⟩:=Kd.N_slice bz.out;subst dw))
    refine bodyPost_ret (results_cell_row rfl _ _ ai 33 #[.int .i64 aZ,.int .i64 bj,.slice ck bv.length cm] (0,0) _ rfl (by refine sM ?_;refine qak (cs:=#[.int .i64 aZ,.int .i64 bj,.slice none 0 0]) ?_ 2 _ rfl;refine sM ?_;refine qak (cs:=#[.int .i64 aZ,.int .i64 0,.slice none 0 0]) ?_ 1 _ rfl;refine sM ?_;refine qak (cs:=#[.int .i64 0,.int .i64 0,.slice none 0 0]) ?_ 0 _ rfl;refine sM ?_;exact ak.out) Tryd.underlying33 rfl (by kernel_rfl)) rfl ?_
    exact⟨_,by first|rfl|(simp [qam,qal]<;>rfl)|(simp [bneNil,bneNilU]<;>rfl)|(simp [*,qam,qal]<;>rfl),by refine sNm ?_;exact Kd.N_mono (Kd.N_far (p:=⟨ai,2,none⟩) (Kd.N_far (p:=⟨ai,1,none⟩) (Kd.N_far (p:=⟨ai,0,none⟩) (Kd.N_mono bz.out (fun k_ hk=>(⟨hk,hk.2.2.2.1⟩:_∧k_≠ai))) (fun _ hk=>hk.2) (.int .i64 aZ)) (fun _ hk=>hk.2) (.int .i64 bj)) (fun _ hk=>hk.2) (.slice ck bv.length cm)) (fun _ hk=>hk.1.1),by repeat (first|(with_reducible first|exact HB.out|apply qah|apply qae|apply qag|refine qad ?_ aJ.out|refine qad ?_ aK.out|refine qad ?_ aM.out)|exact HB.out)⟩
end
end Go.Proofs.YtgnaaokhfpfglaaDoor.PCertTold
end
section
namespace Go.Proofs.YtgnaaokhfpfglaaDoor.PCertTold
open Go.RowKit Go.Proofs.YtgnaaokhfpfglaaDoorW.PrintWords Go.Proofs.YtgnaaokhfpfglaaDoorW.PrintLast Go.Proofs.YtgnaaokhfpfglaaDoorW.PrintMore
attribute [local go_sem] qaW qaU qa3 qa2 qaN qaM qaV qaT
set_option linter.unusedVariables false
set_option linter.unusedSimpArgs false
noncomputable section
def ostinatolaw21_Spec_cert.l0:Nat→Int→Int→Int→List (S82)→Int→Int→List Int→List Int→List (S56)→Int→Int→List (S53)→Int→Int→List Int→List Int→List (S49)→Option (Int × Int × (List (S53)) × Int × Int × List Int × List Int × (List (S49)))
 |0,_,_,_,_,_,_,_,_,_,_,_,_,_,_,_,_,_=>none
 |k+1,x4,ak,al,am,an,ap,aq,ar,aa,ac,ae,af,ag,ah,ai,aj,ab=>if x4<(aa.length:Int) then (if x4<6 then (if 0≤x4 then (if ab.length<4398046511104 then (ostinatolaw21_Spec_cert.l0 k (au (x4+1)) ak al am an ap aq ar aa ac ae af ag ah ai aj (ab++[(⟨Go.bits .and .i64 ((qaz aa x4).f0) 63,Go.bits .and .i64 ((qaz aa x4).f1) 1099511627775,Go.bits .and .i64 ((qaz aa x4).f2) 1099511627775,Go.bits .and .i64 ((qaz aa x4).f3) 1099511627775⟩:S49)])) else (none)) else (none)) else (some (ac,ae,af,ag,ah,ai,aj,ab))) else (some (ac,ae,af,ag,ah,ai,aj,ab))
def ostinatolaw21_Spec_cert.f (k:Nat) (ac:Int) (ae:Int) (af:List (S82)) (ag:Int) (ah:Int) (ai:List Int) (aj:List Int) (ak:List (S56)):Option (Int × Int × (List (S53)) × Int × Int × List Int × List Int × (List (S49))):=(ostinatolaw21_Sys_made.f k ac ae af).bind fun ab=>((ostinatolaw21_Pick_setup.f k ag ah ai aj ab.1 ab.2.1 ab.2.2).bind fun aa=>(ostinatolaw21_Spec_cert.l0 k 0 ac ae af ag ah ai aj ak aa.1 aa.2.1 aa.2.2.1 aa.2.2.2.1 aa.2.2.2.2.1 aa.2.2.2.2.2.1 aa.2.2.2.2.2.2 ([]:List (S49))))
def ostinatolaw21_Spec_cert.T1:Bool × List (List Nat × List Nat):=(true,[([],[]),([0],[0]),([],[]),([2],[2]),([3],[3]),([1,4,4],[1,4]),([5],[5]),([],[]),([7,6,5,0,1,2,3,4,5,6,7],[6,7])])
def ostinatolaw21_Spec_cert.B1:List Nat:=[0,1,0,4,12,31,63,0,255]
theorem ostinatolaw21_Spec_cert.tab1:rtab .any (opsOf Tryd.f6 1)=ostinatolaw21_Spec_cert.T1:=by kernel_rfl
theorem ostinatolaw21_Spec_cert.bits1:waitsOk ostinatolaw21_Spec_cert.T1.2 ostinatolaw21_Spec_cert.B1=true:=by kernel_rfl
theorem ostinatolaw21_Spec_cert.calls (k:Nat) (aW:Int) (aX:Int) (aA:Nat→Prop) (A0_2:Option Addr) (c0_2:Nat) (aC:List (S82)) (aK:Int) (aM:Int) (A0_5:Option Addr) (c0_5:Nat) (aI:List Int) (A0_6:Option Addr) (c0_6:Nat) (aJ:List Int) (A0_7:Option Addr) (c0_7:Nat) (aj:List (S56)) (r1:Int) (r2:Int) (r3:List (S53)) (r4:Int) (r5:Int) (r6:List Int) (r7:List Int) (r8:List (S49)) (w:World) (cJ:Kd.V k82 82 w w.heap.size (fun k_=>aA k_) (.slice A0_2 aC.length c0_2) aC) (hr0_5:Kd.C (Kd.int .i64) w A0_5 aI.length aI) (hc0_5:aI.length≤c0_5) (hr0_6:Kd.C (Kd.int .i64) w A0_6 aJ.length aJ) (hc0_6:aJ.length≤c0_6) (hr0_7:Kd.C k56 w A0_7 aj.length aj) (hc0_7:aj.length≤c0_7) (h:ostinatolaw21_Spec_cert.f k aW aX aC aK aM aI aJ aj=some (r1,r2,r3,r4,r5,r6,r7,r8)) :
  Calls Tryd.prog 6 #[.agg #[.int .i64 aW,.int .i64 aX,.slice A0_2 aC.length c0_2,.int .i64 aK,.int .i64 aM,.slice A0_5 aI.length c0_5,.slice A0_6 aJ.length c0_6,.slice A0_7 aj.length c0_7]] w fun e w'=>∃ ij hJ hO hX:Value,e=.returned (.agg #[.int .i64 r1,.int .i64 r2,ij,.int .i64 r4,.int .i64 r5,hJ,hO,hX])∧Kd.V k53 53 w' w.heap.size (fun k_=>(aA k_∨w.heap.size≤k_)∧some k_≠(hJ:Value).ownBlock∧some k_≠(hO:Value).ownBlock∧some k_≠(hX:Value).ownBlock) ij r3∧Kd.R (Kd.int .i64) 3 w' w.heap.size (fun k_=>(w.heap.size≤k_)) hJ r6∧Kd.R (Kd.int .i64) 2 w' w.heap.size (fun k_=>(w.heap.size≤k_)) hO r7∧Kd.R k49 49 w' w.heap.size (fun k_=>(w.heap.size≤k_)) hX r8∧Below w.heap.size w w':=by
 have jx:=Tryd.underlying30
 have jy:=Tryd.underlying39
 have jz:=Tryd.underlying27
 have jA:=Tryd.underlying24
 have jB:=Tryd.underlying56
 have jC:=Tryd.underlying49
 have ar:=qaa.mk (show Kd.V k82 82 w w.heap.size (fun k_=>(aA k_∨w.heap.size≤k_)) (.slice A0_2 aC.length c0_2) aC from Kd.V_mono cJ (fun k_ hk=>.inl hk))
 have cg:=qaa.mk hr0_5
 have cj:=qaa.mk hc0_5
 clear hr0_5 hc0_5
 have ck:=qaa.mk hr0_6
 have cm:=qaa.mk hc0_6
 clear hr0_6 hc0_6
 have cK:=qaa.mk hr0_7
 have ik:=qaa.mk hc0_7
 clear hr0_7 hc0_7
 have HB:=qaa.mk (Below.refl w.heap.size w)
 have H:((ostinatolaw21_Sys_made.f k aW aX aC).bind fun co=>((ostinatolaw21_Pick_setup.f k aK aM aI aJ co.1 co.2.1 co.2.2).bind fun a8=>(ostinatolaw21_Spec_cert.l0 k 0 aW aX aC aK aM aI aJ aj a8.1 a8.2.1 a8.2.2.1 a8.2.2.2.1 a8.2.2.2.2.1 a8.2.2.2.2.2.1 a8.2.2.2.2.2.2 ([]:List (S49)))))=some (r1,r2,r3,r4,r5,r6,r7,r8):=h
 clear h
 replace H:=Option.bind_eq_some_iff.mp H
 obtain⟨⟨bF,bG,bv⟩,il,H⟩:=H
 replace H:((ostinatolaw21_Pick_setup.f k aK aM aI aJ bF bG bv).bind fun a8=>(ostinatolaw21_Spec_cert.l0 k 0 aW aX aC aK aM aI aJ aj a8.1 a8.2.1 a8.2.2.1 a8.2.2.2.1 a8.2.2.2.2.1 a8.2.2.2.2.2.1 a8.2.2.2.2.2.2 ([]:List (S49))))=some (r1,r2,r3,r4,r5,r6,r7,r8):=H
 have A2:=qaa.mk il
 clear il
 replace H:=Option.bind_eq_some_iff.mp H
 obtain⟨⟨au,aw,av,ay,aD,ax,az⟩,im,H⟩:=H
 replace H:(ostinatolaw21_Spec_cert.l0 k 0 aW aX aC aK aM aI aJ aj au aw av ay aD ax az ([]:List (S49)))=some (r1,r2,r3,r4,r5,r6,r7,r8):=H
 have A3:=qaa.mk im
 clear im
 have H':=qaa.mk H
 clear H
 go_enter Tryd.func6,Tryd.ntmps6
 try go_wp2_with (first|((with_reducible refine qap (N:=1) rfl ?_);refine qao ?hg (N:=1) ?hd (cs:=#[.int .i64 aW,.int .i64 aX,.slice A0_2 aC.length c0_2,.int .i64 aK,.int .i64 aM,.slice A0_5 aI.length c0_5,.slice A0_6 aJ.length c0_6,.slice A0_7 aj.length c0_7]) (t:=30) ?hr ?_;(case hd=>rfl);(case hg=>rfl);(case hr=>first|(go_simp;done)|(go_simp;rfl));intro af hg w4 hbox hb;replace ar:=qaa.mk (Kd.V_below (Kd.V_elderB (sV ar.out) af (Nat.le_of_eq hg.symm)) hb);have ac:=qaa.mk (hbox);have io:=qaa.mk ((by rw [hg];exact (qac sB):w.heap.size≤af));have bX:=qaa.mk ((by rw [hg];exact (qac sB):w.heap.size≤af));replace HB:=qaa.mk (qai sB hb);clear hb hbox hg)|((with_reducible refine qap (N:=2) rfl ?_);refine qao ?hg (N:=2) ?hd (cs:=#[.int .i64 0,.int .i64 0,.slice none 0 0,.int .i64 0,.int .i64 0,.slice none 0 0,.slice none 0 0,.slice none 0 0]) (t:=39) ?hr ?_;(case hd=>rfl);(case hg=>rfl);(case hr=>first|(go_simp;done)|(go_simp;rfl));intro ae hg w5 hbox hb;replace ar:=qaa.mk (Kd.V_below (Kd.V_elderB (sV ar.out) ae (Nat.le_of_eq hg.symm)) hb);have ah:=qaa.mk (hbox);have ip:=qaa.mk ((by rw [hg];exact (qac sB):w.heap.size≤ae));have bY:=qaa.mk ((by rw [hg];exact (qac sB):w.heap.size≤ae));replace HB:=qaa.mk (qai sB hb);have bC:=qaa.mk ((by rw [hg];exact Nat.ne_of_lt (sLt ac.out):af≠ae));have bD:=qaa.mk ((by rw [hg];exact Nat.ne_of_gt (sLt ac.out):ae≠af));replace ac:=qaa.mk (sKb ac.out hb);clear hb hbox hg))
 replace ar:=qaa.mk (Kd.V_drew ar.out)
 replace ac:=qaa.mk (qax ac.out)
 replace ah:=qaa.mk (qax ah.out)
 replace HB:=qaa.mk (qag HB.out)
 refine start_ (n:=9) (S:=fun w'=>w'.cell? ⟨af,0,none⟩=some (.int .i64 aW)∧w'.cell? ⟨af,1,none⟩=some (.int .i64 aX)∧w'.cell? ⟨af,2,none⟩=some (.slice A0_2 aC.length c0_2)∧w'.cell? ⟨af,3,none⟩=some (.int .i64 aK)∧w'.cell? ⟨af,4,none⟩=some (.int .i64 aM)∧w'.cell? ⟨af,5,none⟩=some (.slice A0_5 aI.length c0_5)∧w'.cell? ⟨af,6,none⟩=some (.slice A0_6 aJ.length c0_6)∧w'.cell? ⟨af,7,none⟩=some (.slice A0_7 aj.length c0_7)) (ds:=[]) #[false,false,false,false,false,false,false,false,false] (by kernel_rfl) rfl rfl ⟨(qab ac.out 0).trans rfl,(qab ac.out 1).trans rfl,(qab ac.out 2).trans rfl,(qab ac.out 3).trans rfl,(qab ac.out 4).trans rfl,(qab ac.out 5).trans rfl,(qab ac.out 6).trans rfl,(qab ac.out 7).trans rfl⟩ (fun hHeld=>?_);refine qaX ostinatolaw21_Spec_cert.tab1 ostinatolaw21_Spec_cert.bits1 (fun HT_ HW_=>?_)
 generalize w5.drew=w6 at ar ac ah HB hHeld ⊢
 refine sP 0 (some 6) rfl rfl ?_
 refine sP 2 (some 8) rfl rfl ?_
 refine qaZ (i:=1) (N:=some 7) (v:=?_) (a':=?_) #[true,true,true,false,false,false,false,false,false] rfl rfl (qay HT_.out HW_.out (by kernel_rfl)) (fun _ _ _ h=>h) (Or.inl ⟨by rfl,?_⟩) hHeld ?_ ?_
 rotate_left
 ·rintro w' ⟨s0,s1,s2,s3,s4,s5,s6,s7⟩
  go_simp
  with_reducible rfl
 rotate_left
 ·simp only [Act.put,List.setIfInBounds_toArray,List.set_cons_zero,List.set_cons_succ,qaC,qaE]
  rfl
 refine qaZ (i:=3) (N:=some 9) (v:=?_) (a':=?_) #[true,true,true,true,false,false,false,false,false] rfl rfl (qay HT_.out HW_.out (by kernel_rfl)) (fun _ _ _ h=>h) (Or.inl ⟨by rfl,?_⟩) hHeld ?_ ?_
 rotate_left
 ·rintro w' ⟨s0,s1,s2,s3,s4,s5,s6,s7⟩
  go_simp
  with_reducible rfl
 rotate_left
 ·simp only [Act.put,List.setIfInBounds_toArray,List.set_cons_zero,List.set_cons_succ,qaC,qaE]
  rfl
 refine join_ (σ:=Value × Value × Value × Value × Nat) 1 #[true,true,true,true,true,true,true,true,false] (fun s_=>[(10,.agg #[.int .i64 bF,.int .i64 bG,s_.1]),(11,.agg #[.int .i64 au,.int .i64 aw,s_.2.1,.int .i64 ay,.int .i64 aD,s_.2.2.1,s_.2.2.2.1]),(3,.pointer (some ⟨s_.2.2.2.2,0,none⟩)),(12,.agg #[.int .i64 au,.int .i64 aw,s_.2.1,.int .i64 ay,.int .i64 aD,s_.2.2.1,s_.2.2.2.1,.slice none 0 0])]) (fun s_ w'=>(w'.cell? ⟨af,0,none⟩=some (.int .i64 aW)∧w'.cell? ⟨af,1,none⟩=some (.int .i64 aX)∧w'.cell? ⟨af,2,none⟩=some (.slice A0_2 aC.length c0_2)∧w'.cell? ⟨af,3,none⟩=some (.int .i64 aK)∧w'.cell? ⟨af,4,none⟩=some (.int .i64 aM)∧w'.cell? ⟨af,5,none⟩=some (.slice A0_5 aI.length c0_5)∧w'.cell? ⟨af,6,none⟩=some (.slice A0_6 aJ.length c0_6)∧w'.cell? ⟨af,7,none⟩=some (.slice A0_7 aj.length c0_7))∧(Kd.V k82 82 w' w.heap.size (fun k_=>(aA k_∨w.heap.size≤k_)∧some k_≠(s_.1:Value).ownBlock∧some k_≠(s_.2.2.1:Value).ownBlock∧some k_≠(s_.2.2.2.1:Value).ownBlock∧k_≠af∧k_≠ae∧k_≠s_.2.2.2.2) (.slice A0_2 aC.length c0_2) aC)∧(Kd.N k53 53 w' w.heap.size (fun k_=>(aA k_∨w.heap.size≤k_)∧some k_≠(s_.2.2.1:Value).ownBlock∧some k_≠(s_.2.2.2.1:Value).ownBlock∧k_≠af∧k_≠ae∧k_≠s_.2.2.2.2) s_.1 bv)∧(Kd.V k53 53 w' w.heap.size (fun k_=>(aA k_∨w.heap.size≤k_)∧some k_≠(s_.2.2.1:Value).ownBlock∧some k_≠(s_.2.2.2.1:Value).ownBlock∧k_≠af∧k_≠ae∧k_≠s_.2.2.2.2) s_.2.1 av)∧(Kd.R (Kd.int .i64) 3 w' w.heap.size (fun k_=>(w.heap.size≤k_)) s_.2.2.1 ax)∧(Kd.R (Kd.int .i64) 2 w' w.heap.size (fun k_=>(w.heap.size≤k_)) s_.2.2.2.1 az)∧(w'.heap[af]? = some (.cells #[.int .i64 aW,.int .i64 aX,.slice A0_2 aC.length c0_2,.int .i64 aK,.int .i64 aM,.slice A0_5 aI.length c0_5,.slice A0_6 aJ.length c0_6,.slice A0_7 aj.length c0_7] 30 (0,0)))∧(w'.heap[ae]? = some (.cells #[.int .i64 0,.int .i64 0,.slice none 0 0,.int .i64 0,.int .i64 0,.slice none 0 0,.slice none 0 0,.slice none 0 0] 39 (0,0)))∧(w'.heap[s_.2.2.2.2]? = some (.cells #[.int .i64 0,.int .i64 0,.slice none 0 0,.int .i64 0,.int .i64 0,.slice none 0 0,.slice none 0 0,.slice none 0 0] 39 (0,0)))∧(w.heap.size≤s_.2.2.2.2)∧(w.heap.size≤s_.2.2.2.2)∧(af≠s_.2.2.2.2)∧(s_.2.2.2.2≠af)∧(ae≠s_.2.2.2.2)∧(s_.2.2.2.2≠ae)∧(Below w.heap.size w w')) ?_ ?_
 rotate_left
 ·intro hCont
  refine two_ (i:=4) (j:=7) (Ni:=some 10) (Nj:=some 3) #[true,true,true,true,true,false,false,false,false] #[true,true,true,true,false,false,false,true,false] rfl rfl rfl rfl (two_of HT_.out (by kernel_rfl)) (by decide) (by decide) (fun K hK=>?_) (fun K hK=>?_)
  ·skip
   refine goes_ Tryd.func17 (by kernel_rfl) rfl #[.agg #[.int .i64 aW,.int .i64 aX,.slice A0_2 aC.length c0_2]] (by rfl) rfl rfl (by (try simp only [List.map_toArray,List.map_cons,List.map_nil]);first|done|rfl|(simp only [List.length_drop,List.length_take];rfl)) ?_
   with_reducible refine (ostinatolaw21_Sys_made.calls k aW aX (fun k_=>(((aA k_∨w.heap.size≤k_)∧k_≠af)∧k_≠ae)) _ _ aC bF bG bv _ ?bw A2.out).mono ?_
   (case bw=>exact ar.out)
   rintro e w7 ⟨cz,rfl,bW,hb⟩
   refine⟨_,rfl,?_⟩
   replace ar:=qaa.mk (Kd.V_elder' (sV ar.out) (Kd.N_base bW) hb)
   have aH:=qaa.mk (Kd.N_lower (Kd.N_mono (ok':=fun k_=>(aA k_∨w.heap.size≤k_)∧k_≠af∧k_≠ae) bW (fun k_ hk_=>⟨Or.elim hk_ (fun hs_=>hs_.1.1) (fun hn_=>(.inr (Nat.le_trans (qac sB) hn_))),Or.elim hk_ (fun hs_=>hs_.1.2) (fun hn_=>(Kd.freshB (g:=af) (o:=.cells #[.int .i64 aW,.int .i64 aX,.slice A0_2 aC.length c0_2,.int .i64 aK,.int .i64 aM,.slice A0_5 aI.length c0_5,.slice A0_6 aJ.length c0_6,.slice A0_7 aj.length c0_7] 30 (0,0)) (sK ac.out) k_ hn_)),Or.elim hk_ (fun hs_=>hs_.2) (fun hn_=>(Kd.freshB (g:=ae) (o:=.cells #[.int .i64 0,.int .i64 0,.slice none 0 0,.int .i64 0,.int .i64 0,.slice none 0 0,.slice none 0 0,.slice none 0 0] 39 (0,0)) (sK ah.out) k_ hn_))⟩)) (qac sB))
   replace ac:=qaa.mk (sKb ac.out hb)
   replace ah:=qaa.mk (sKb ah.out hb)
   replace HB:=qaa.mk (qai sB hb)
   (try clear hb)
   (try clear di)
   (try clear hk)
   (try clear hi)
   (try clear bW)
   obtain⟨iq,ir,iu⟩:=Kd.N_slice aH.out
   (first|subst iu|(injection iu with ba bx be;have bz:=ba.symm;have bB:=be.symm;clear ba bx be;subst bz;subst bB))
   refine hK.out _ _ ⟨(qab ac.out 0).trans rfl,(qab ac.out 1).trans rfl,(qab ac.out 2).trans rfl,(qab ac.out 3).trans rfl,(qab ac.out 4).trans rfl,(qab ac.out 5).trans rfl,(qab ac.out 6).trans rfl,(qab ac.out 7).trans rfl⟩ (fun hHeld=>?_)
   clear hK K
   refine qa0 (a':=?_) ?_ ?_
   rotate_left
   ·show Act.put _ (some 10) _=_
    simp only [Act.put,List.setIfInBounds_toArray,List.set_cons_zero,List.set_cons_succ,qaC,qaE]
    rfl
   refine two_ (i:=5) (j:=7) (Ni:=some 11) (Nj:=some 3) #[true,true,true,true,true,true,false,false,false] #[true,true,true,true,true,false,false,true,false] rfl rfl rfl rfl (two_of HT_.out (by kernel_rfl)) (by decide) (by decide) (fun K hK=>?_) (fun K hK=>?_)
   ·skip
    refine goes_ Tryd.func16 (by kernel_rfl) rfl #[.agg #[.int .i64 aK,.int .i64 aM,.slice A0_5 aI.length c0_5,.slice A0_6 aJ.length c0_6],.agg #[.int .i64 bF,.int .i64 bG,.slice iq bv.length ir]] (by rfl) rfl rfl (by (try simp only [List.map_toArray,List.map_cons,List.map_nil]);first|done|rfl|(simp only [List.length_drop,List.length_take];rfl)) ?_
    with_reducible refine (ostinatolaw21_Pick_setup.calls k aK aM _ _ aI _ _ aJ bF bG (fun k_=>((aA k_∨w.heap.size≤k_)∧(k_≠af∧k_≠ae))) _ _ bv au aw av ay aD ax az _ ?bw ?bO ?bP ?bQ ?bR A3.out).mono ?_
    (case bw=>repeat (first|exact (Kd.C_below cg.out HB.out)|(with_reducible refine Kd.C_alloc ?_ _)|(with_reducible refine Kd.C_drewN ?_ _)|(with_reducible refine Kd.C_drew ?_)))
    (case bO=>exact cj.out)
    (case bP=>repeat (first|exact (Kd.C_below ck.out HB.out)|(with_reducible refine Kd.C_alloc ?_ _)|(with_reducible refine Kd.C_drewN ?_ _)|(with_reducible refine Kd.C_drew ?_)))
    (case bQ=>exact cm.out)
    (case bR=>exact Kd.N_V (aH.out))
    rintro e w9 ⟨cA,bH,bI,rfl,bW,bZ,b8,hb⟩
    refine⟨_,rfl,?_⟩
    replace ar:=qaa.mk (Kd.V_mono (Kd.V_told (Kd.V_told (Kd.V_old (sV ar.out) hb) (Kd.R_base bZ)) (Kd.R_base b8)) (fun _ h_=>h_.1))
    replace aH:=qaa.mk (Kd.N_mono (Kd.N_told (Kd.N_told (Kd.N_old (sN aH.out) hb) (Kd.R_base bZ)) (Kd.R_base b8)) (fun _ h_=>h_.1))
    have bg:=qaa.mk (Kd.V_lower (Kd.V_mono (ok':=fun k_=>(aA k_∨w.heap.size≤k_)∧some k_≠(bH:Value).ownBlock∧some k_≠(bI:Value).ownBlock∧k_≠af∧k_≠ae) bW (fun k_ hk_=>⟨Or.elim hk_.1 (fun hs_=>hs_.1) (fun hn_=>(.inr (Nat.le_trans (qac sB) hn_))),hk_.2.1,hk_.2.2,Or.elim hk_.1 (fun hs_=>hs_.2.1) (fun hn_=>(Kd.freshB (g:=af) (o:=.cells #[.int .i64 aW,.int .i64 aX,.slice A0_2 aC.length c0_2,.int .i64 aK,.int .i64 aM,.slice A0_5 aI.length c0_5,.slice A0_6 aJ.length c0_6,.slice A0_7 aj.length c0_7] 30 (0,0)) (sK ac.out) k_ hn_)),Or.elim hk_.1 (fun hs_=>hs_.2.2) (fun hn_=>(Kd.freshB (g:=ae) (o:=.cells #[.int .i64 0,.int .i64 0,.slice none 0 0,.int .i64 0,.int .i64 0,.slice none 0 0,.slice none 0 0,.slice none 0 0] 39 (0,0)) (sK ah.out) k_ hn_))⟩)) (qac sB))
    have bh:=qaa.mk (Kd.R_lower (Kd.R_newM (M:=fun k_=>(w.heap.size≤k_)) (Kd.R_mono (ok':=fun k_=>True) bZ (fun _ hk_=>trivial)) (qac sB) (fun k_ h_=>h_)) (qac sB))
    have bi:=qaa.mk (Kd.R_lower (Kd.R_newM (M:=fun k_=>(w.heap.size≤k_)) (Kd.R_mono (ok':=fun k_=>True) b8 (fun _ hk_=>trivial)) (qac sB) (fun k_ h_=>h_)) (qac sB))
    replace ac:=qaa.mk (sKb ac.out hb)
    replace ah:=qaa.mk (sKb ah.out hb)
    replace HB:=qaa.mk (qai sB hb)
    (try clear hb)
    (try clear di)
    (try clear hk)
    (try clear hi)
    (try clear bW)
    (try clear bZ)
    (try clear b8)
    obtain⟨hY,ia,cL⟩:=Kd.R_slice bi.out
    (first|subst cL|(injection cL with ba bx be;have bz:=ba.symm;have bB:=be.symm;clear ba bx be;subst bz;subst bB))
    obtain⟨cp,cq,bS⟩:=Kd.R_slice bh.out
    (first|subst bS|(injection bS with ba bx be;have bz:=ba.symm;have bB:=be.symm;clear ba bx be;subst bz;subst bB))
    obtain⟨cr,ct,bT⟩:=Kd.V_slice bg.out
    (first|subst bT|(injection bT with ba bx be;have bz:=ba.symm;have bB:=be.symm;clear ba bx be;subst bz;subst bB))
    refine hK.out _ _ ⟨(qab ac.out 0).trans rfl,(qab ac.out 1).trans rfl,(qab ac.out 2).trans rfl,(qab ac.out 3).trans rfl,(qab ac.out 4).trans rfl,(qab ac.out 5).trans rfl,(qab ac.out 6).trans rfl,(qab ac.out 7).trans rfl⟩ (fun hHeld=>?_)
    clear hK K
    refine qa0 (a':=?_) ?_ ?_
    rotate_left
    ·show Act.put _ (some 11) _=_
     simp only [Act.put,List.setIfInBounds_toArray,List.set_cons_zero,List.set_cons_succ,qaC,qaE]
     rfl
    refine sP 6 (some 12) rfl rfl ?_
    refine one_ (i:=7) (N:=some 3) #[true,true,true,true,true,true,true,true,false] rfl rfl (qaO HT_.out (by kernel_rfl)) (by decide) (fun K hK=>?_)
    refine box_step ?hg (N:=3) ?hd (cs:=#[.int .i64 0,.int .i64 0,.slice none 0 0,.int .i64 0,.int .i64 0,.slice none 0 0,.slice none 0 0,.slice none 0 0]) (t:=39) ?hr ?_;(case hd=>rfl);(case hg=>rfl);(case hr=>first|(go_simp;done)|(go_simp;rfl))
    intro ab hg jO hbox hb
    replace ar:=qaa.mk (Kd.V_below (Kd.V_elderB (sV ar.out) ab (Nat.le_of_eq hg.symm)) hb)
    replace aH:=qaa.mk (Kd.N_below (Kd.N_elderB (sN aH.out) ab (Nat.le_of_eq hg.symm)) hb)
    replace bg:=qaa.mk (Kd.V_below (Kd.V_elderB (sV bg.out) ab (Nat.le_of_eq hg.symm)) hb)
    replace bh:=qaa.mk (Kd.R_below (sR bh.out) hb)
    replace bi:=qaa.mk (Kd.R_below (sR bi.out) hb)
    have ai:=qaa.mk (hbox)
    have bJ:=qaa.mk ((by rw [hg];exact (qac sB):w.heap.size≤ab))
    have bq:=qaa.mk ((by rw [hg];exact (qac sB):w.heap.size≤ab))
    replace HB:=qaa.mk (qai sB hb)
    have aa:=qaa.mk ((by rw [hg];exact Nat.ne_of_lt (sLt ac.out):af≠ab))
    have am:=qaa.mk ((by rw [hg];exact Nat.ne_of_gt (sLt ac.out):ab≠af))
    replace ac:=qaa.mk (sKb ac.out hb)
    have ag:=qaa.mk ((by rw [hg];exact Nat.ne_of_lt (sLt ah.out):ae≠ab))
    have an:=qaa.mk ((by rw [hg];exact Nat.ne_of_gt (sLt ah.out):ab≠ae))
    replace ah:=qaa.mk (sKb ah.out hb)
    clear hb hbox hg
    refine hK.out _ _ ⟨(qab ac.out 0).trans rfl,(qab ac.out 1).trans rfl,(qab ac.out 2).trans rfl,(qab ac.out 3).trans rfl,(qab ac.out 4).trans rfl,(qab ac.out 5).trans rfl,(qab ac.out 6).trans rfl,(qab ac.out 7).trans rfl⟩ (fun hHeld=>?_)
    clear hK K
    refine qa0 (a':=?_) ?_ ?_
    rotate_left
    ·show Act.put _ (some 3) _=_
     simp only [Act.put,List.setIfInBounds_toArray,List.set_cons_zero,List.set_cons_succ,qaC,qaE]
     rfl
    exact qa0 (by simp only [putAll,Act.put,List.setIfInBounds_toArray,List.set_cons_zero,List.set_cons_succ]) (hCont (.slice iq bv.length ir,.slice cr av.length ct,.slice cp ax.length cq,.slice hY az.length ia,ab) _ ⟨hHeld,(by refine sVm ?_;exact Kd.V_mono ar.out (fun _ hk=>⟨hk.1.1.1.1.1.1,⟨hk.1.1.1.2,⟨hk.1.1.2,⟨hk.1.2,⟨hk.1.1.1.1.1.2,⟨hk.1.1.1.1.2,hk.2⟩⟩⟩⟩⟩⟩)),(by refine sNm ?_;exact Kd.N_mono aH.out (fun _ hk=>⟨hk.1.1.1.1,⟨hk.1.1.2,⟨hk.1.2,⟨hk.1.1.1.2.1,⟨hk.1.1.1.2.2,hk.2⟩⟩⟩⟩⟩)),(by refine sVm ?_;exact Kd.V_mono bg.out (fun _ hk=>⟨hk.1.1,⟨hk.1.2.1,⟨hk.1.2.2.1,⟨hk.1.2.2.2.1,⟨hk.1.2.2.2.2,hk.2⟩⟩⟩⟩⟩)),(by refine sRm ?_;exact Kd.R_mono bh.out (fun _ hk=>hk.1)),(by refine sRm ?_;exact Kd.R_mono bi.out (fun _ hk=>hk.1)),(sK ac.out),(sK ah.out),(sK ai.out),bJ.out,bq.out,aa.out,am.out,ag.out,an.out,sB⟩)
   ·skip
    refine box_step ?hg (N:=3) ?hd (cs:=#[.int .i64 0,.int .i64 0,.slice none 0 0,.int .i64 0,.int .i64 0,.slice none 0 0,.slice none 0 0,.slice none 0 0]) (t:=39) ?hr ?_;(case hd=>rfl);(case hg=>rfl);(case hr=>first|(go_simp;done)|(go_simp;rfl))
    intro ab hg w8 hbox hb
    replace ar:=qaa.mk (Kd.V_below (Kd.V_elderB (sV ar.out) ab (Nat.le_of_eq hg.symm)) hb)
    replace aH:=qaa.mk (Kd.N_below (Kd.N_elderB (sN aH.out) ab (Nat.le_of_eq hg.symm)) hb)
    have ai:=qaa.mk (hbox)
    have bJ:=qaa.mk ((by rw [hg];exact (qac sB):w.heap.size≤ab))
    have bq:=qaa.mk ((by rw [hg];exact (qac sB):w.heap.size≤ab))
    replace HB:=qaa.mk (qai sB hb)
    have aa:=qaa.mk ((by rw [hg];exact Nat.ne_of_lt (sLt ac.out):af≠ab))
    have am:=qaa.mk ((by rw [hg];exact Nat.ne_of_gt (sLt ac.out):ab≠af))
    replace ac:=qaa.mk (sKb ac.out hb)
    have ag:=qaa.mk ((by rw [hg];exact Nat.ne_of_lt (sLt ah.out):ae≠ab))
    have an:=qaa.mk ((by rw [hg];exact Nat.ne_of_gt (sLt ah.out):ab≠ae))
    replace ah:=qaa.mk (sKb ah.out hb)
    clear hb hbox hg
    obtain⟨cM,cN,cO⟩:=Kd.N_slice aH.out
    (first|subst cO|(injection cO with ba bx be;have bz:=ba.symm;have bB:=be.symm;clear ba bx be;subst bz;subst bB))
    refine hK.out _ _ ⟨(qab ac.out 0).trans rfl,(qab ac.out 1).trans rfl,(qab ac.out 2).trans rfl,(qab ac.out 3).trans rfl,(qab ac.out 4).trans rfl,(qab ac.out 5).trans rfl,(qab ac.out 6).trans rfl,(qab ac.out 7).trans rfl⟩ (fun hHeld=>?_)
    clear hK K
    refine qa0 (a':=?_) ?_ ?_
    rotate_left
    ·show Act.put _ (some 3) _=_
     simp only [Act.put,List.setIfInBounds_toArray,List.set_cons_zero,List.set_cons_succ,qaC,qaE]
     rfl
    refine one_ (i:=5) (N:=some 11) #[true,true,true,true,true,true,false,true,false] rfl rfl (qaO HT_.out (by kernel_rfl)) (by decide) (fun K hK=>?_)
    refine goes_ Tryd.func16 (by kernel_rfl) rfl #[.agg #[.int .i64 aK,.int .i64 aM,.slice A0_5 aI.length c0_5,.slice A0_6 aJ.length c0_6],.agg #[.int .i64 bF,.int .i64 bG,.slice cM bv.length cN]] (by rfl) rfl rfl (by (try simp only [List.map_toArray,List.map_cons,List.map_nil]);first|done|rfl|(simp only [List.length_drop,List.length_take];rfl)) ?_
    with_reducible refine (ostinatolaw21_Pick_setup.calls k aK aM _ _ aI _ _ aJ bF bG (fun k_=>(((aA k_∨w.heap.size≤k_)∧(k_≠af∧k_≠ae))∧k_≠ab)) _ _ bv au aw av ay aD ax az _ ?bw ?bO ?bP ?bQ ?bR A3.out).mono ?_
    (case bw=>repeat (first|exact (Kd.C_below cg.out HB.out)|(with_reducible refine Kd.C_alloc ?_ _)|(with_reducible refine Kd.C_drewN ?_ _)|(with_reducible refine Kd.C_drew ?_)))
    (case bO=>exact cj.out)
    (case bP=>repeat (first|exact (Kd.C_below ck.out HB.out)|(with_reducible refine Kd.C_alloc ?_ _)|(with_reducible refine Kd.C_drewN ?_ _)|(with_reducible refine Kd.C_drew ?_)))
    (case bQ=>exact cm.out)
    (case bR=>exact Kd.N_V (aH.out))
    rintro e jD ⟨cA,bH,bI,rfl,bW,bZ,b8,hb⟩
    refine⟨_,rfl,?_⟩
    replace ar:=qaa.mk (Kd.V_mono (Kd.V_told (Kd.V_told (Kd.V_old (sV ar.out) hb) (Kd.R_base bZ)) (Kd.R_base b8)) (fun _ h_=>h_.1))
    replace aH:=qaa.mk (Kd.N_mono (Kd.N_told (Kd.N_told (Kd.N_old (sN aH.out) hb) (Kd.R_base bZ)) (Kd.R_base b8)) (fun _ h_=>h_.1))
    have bg:=qaa.mk (Kd.V_lower (Kd.V_mono (ok':=fun k_=>(aA k_∨w.heap.size≤k_)∧some k_≠(bH:Value).ownBlock∧some k_≠(bI:Value).ownBlock∧k_≠af∧k_≠ae∧k_≠ab) bW (fun k_ hk_=>⟨Or.elim hk_.1 (fun hs_=>hs_.1.1) (fun hn_=>(.inr (Nat.le_trans (qac sB) hn_))),hk_.2.1,hk_.2.2,Or.elim hk_.1 (fun hs_=>hs_.1.2.1) (fun hn_=>(Kd.freshB (g:=af) (o:=.cells #[.int .i64 aW,.int .i64 aX,.slice A0_2 aC.length c0_2,.int .i64 aK,.int .i64 aM,.slice A0_5 aI.length c0_5,.slice A0_6 aJ.length c0_6,.slice A0_7 aj.length c0_7] 30 (0,0)) (sK ac.out) k_ hn_)),Or.elim hk_.1 (fun hs_=>hs_.1.2.2) (fun hn_=>(Kd.freshB (g:=ae) (o:=.cells #[.int .i64 0,.int .i64 0,.slice none 0 0,.int .i64 0,.int .i64 0,.slice none 0 0,.slice none 0 0,.slice none 0 0] 39 (0,0)) (sK ah.out) k_ hn_)),Or.elim hk_.1 (fun hs_=>hs_.2) (fun hn_=>(Kd.freshB (g:=ab) (o:=.cells #[.int .i64 0,.int .i64 0,.slice none 0 0,.int .i64 0,.int .i64 0,.slice none 0 0,.slice none 0 0,.slice none 0 0] 39 (0,0)) (sK ai.out) k_ hn_))⟩)) (qac sB))
    have bh:=qaa.mk (Kd.R_lower (Kd.R_newM (M:=fun k_=>(w.heap.size≤k_)) (Kd.R_mono (ok':=fun k_=>True) bZ (fun _ hk_=>trivial)) (qac sB) (fun k_ h_=>h_)) (qac sB))
    have bi:=qaa.mk (Kd.R_lower (Kd.R_newM (M:=fun k_=>(w.heap.size≤k_)) (Kd.R_mono (ok':=fun k_=>True) b8 (fun _ hk_=>trivial)) (qac sB) (fun k_ h_=>h_)) (qac sB))
    replace ac:=qaa.mk (sKb ac.out hb)
    replace ah:=qaa.mk (sKb ah.out hb)
    replace ai:=qaa.mk (sKb ai.out hb)
    replace HB:=qaa.mk (qai sB hb)
    (try clear hb)
    (try clear di)
    (try clear hk)
    (try clear hi)
    (try clear bW)
    (try clear bZ)
    (try clear b8)
    obtain⟨cp,cq,bS⟩:=Kd.R_slice bi.out
    (first|subst bS|(injection bS with ba bx be;have bz:=ba.symm;have bB:=be.symm;clear ba bx be;subst bz;subst bB))
    obtain⟨cr,ct,bT⟩:=Kd.R_slice bh.out
    (first|subst bT|(injection bT with ba bx be;have bz:=ba.symm;have bB:=be.symm;clear ba bx be;subst bz;subst bB))
    obtain⟨cC,cD,cu⟩:=Kd.V_slice bg.out
    (first|subst cu|(injection cu with ba bx be;have bz:=ba.symm;have bB:=be.symm;clear ba bx be;subst bz;subst bB))
    refine hK.out _ _ ⟨(qab ac.out 0).trans rfl,(qab ac.out 1).trans rfl,(qab ac.out 2).trans rfl,(qab ac.out 3).trans rfl,(qab ac.out 4).trans rfl,(qab ac.out 5).trans rfl,(qab ac.out 6).trans rfl,(qab ac.out 7).trans rfl⟩ (fun hHeld=>?_)
    clear hK K
    refine qa0 (a':=?_) ?_ ?_
    rotate_left
    ·show Act.put _ (some 11) _=_
     simp only [Act.put,List.setIfInBounds_toArray,List.set_cons_zero,List.set_cons_succ,qaC,qaE]
     rfl
    refine sP 6 (some 12) rfl rfl ?_
    exact qa0 (by simp only [putAll,Act.put,List.setIfInBounds_toArray,List.set_cons_zero,List.set_cons_succ]) (hCont (.slice cM bv.length cN,.slice cC av.length cD,.slice cr ax.length ct,.slice cp az.length cq,ab) _ ⟨hHeld,(by refine sVm ?_;exact Kd.V_mono ar.out (fun _ hk=>⟨hk.1.1.1.1.1.1,⟨hk.1.1.1.2,⟨hk.1.2,⟨hk.2,⟨hk.1.1.1.1.1.2,⟨hk.1.1.1.1.2,hk.1.1.2⟩⟩⟩⟩⟩⟩)),(by refine sNm ?_;exact Kd.N_mono aH.out (fun _ hk=>⟨hk.1.1.1.1,⟨hk.1.2,⟨hk.2,⟨hk.1.1.1.2.1,⟨hk.1.1.1.2.2,hk.1.1.2⟩⟩⟩⟩⟩)),(sV bg.out),(by refine sRm ?_;exact Kd.R_mono bh.out (fun _ hk=>hk.1)),(by refine sRm ?_;exact Kd.R_mono bi.out (fun _ hk=>hk.1)),(sK ac.out),(sK ah.out),(sK ai.out),bJ.out,bq.out,aa.out,am.out,ag.out,an.out,sB⟩)
  ·skip
   refine box_step ?hg (N:=3) ?hd (cs:=#[.int .i64 0,.int .i64 0,.slice none 0 0,.int .i64 0,.int .i64 0,.slice none 0 0,.slice none 0 0,.slice none 0 0]) (t:=39) ?hr ?_;(case hd=>rfl);(case hg=>rfl);(case hr=>first|(go_simp;done)|(go_simp;rfl))
   intro ab hg w7 hbox hb
   replace ar:=qaa.mk (Kd.V_below (Kd.V_elderB (sV ar.out) ab (Nat.le_of_eq hg.symm)) hb)
   have ai:=qaa.mk (hbox)
   have bJ:=qaa.mk ((by rw [hg];exact (qac sB):w.heap.size≤ab))
   have bq:=qaa.mk ((by rw [hg];exact (qac sB):w.heap.size≤ab))
   replace HB:=qaa.mk (qai sB hb)
   have aa:=qaa.mk ((by rw [hg];exact Nat.ne_of_lt (sLt ac.out):af≠ab))
   have am:=qaa.mk ((by rw [hg];exact Nat.ne_of_gt (sLt ac.out):ab≠af))
   replace ac:=qaa.mk (sKb ac.out hb)
   have ag:=qaa.mk ((by rw [hg];exact Nat.ne_of_lt (sLt ah.out):ae≠ab))
   have an:=qaa.mk ((by rw [hg];exact Nat.ne_of_gt (sLt ah.out):ab≠ae))
   replace ah:=qaa.mk (sKb ah.out hb)
   clear hb hbox hg
   refine hK.out _ _ ⟨(qab ac.out 0).trans rfl,(qab ac.out 1).trans rfl,(qab ac.out 2).trans rfl,(qab ac.out 3).trans rfl,(qab ac.out 4).trans rfl,(qab ac.out 5).trans rfl,(qab ac.out 6).trans rfl,(qab ac.out 7).trans rfl⟩ (fun hHeld=>?_)
   clear hK K
   refine qa0 (a':=?_) ?_ ?_
   rotate_left
   ·show Act.put _ (some 3) _=_
    simp only [Act.put,List.setIfInBounds_toArray,List.set_cons_zero,List.set_cons_succ,qaC,qaE]
    rfl
   refine one_ (i:=4) (N:=some 10) #[true,true,true,true,true,false,false,true,false] rfl rfl (qaO HT_.out (by kernel_rfl)) (by decide) (fun K hK=>?_)
   refine goes_ Tryd.func17 (by kernel_rfl) rfl #[.agg #[.int .i64 aW,.int .i64 aX,.slice A0_2 aC.length c0_2]] (by rfl) rfl rfl (by (try simp only [List.map_toArray,List.map_cons,List.map_nil]);first|done|rfl|(simp only [List.length_drop,List.length_take];rfl)) ?_
   with_reducible refine (ostinatolaw21_Sys_made.calls k aW aX (fun k_=>((((aA k_∨w.heap.size≤k_)∧k_≠af)∧k_≠ae)∧k_≠ab)) _ _ aC bF bG bv _ ?bw A2.out).mono ?_
   (case bw=>exact ar.out)
   rintro e w8 ⟨cz,rfl,bW,hb⟩
   refine⟨_,rfl,?_⟩
   replace ar:=qaa.mk (Kd.V_elder' (sV ar.out) (Kd.N_base bW) hb)
   have aH:=qaa.mk (Kd.N_lower (Kd.N_mono (ok':=fun k_=>(aA k_∨w.heap.size≤k_)∧k_≠af∧k_≠ae∧k_≠ab) bW (fun k_ hk_=>⟨Or.elim hk_ (fun hs_=>hs_.1.1.1) (fun hn_=>(.inr (Nat.le_trans (qac sB) hn_))),Or.elim hk_ (fun hs_=>hs_.1.1.2) (fun hn_=>(Kd.freshB (g:=af) (o:=.cells #[.int .i64 aW,.int .i64 aX,.slice A0_2 aC.length c0_2,.int .i64 aK,.int .i64 aM,.slice A0_5 aI.length c0_5,.slice A0_6 aJ.length c0_6,.slice A0_7 aj.length c0_7] 30 (0,0)) (sK ac.out) k_ hn_)),Or.elim hk_ (fun hs_=>hs_.1.2) (fun hn_=>(Kd.freshB (g:=ae) (o:=.cells #[.int .i64 0,.int .i64 0,.slice none 0 0,.int .i64 0,.int .i64 0,.slice none 0 0,.slice none 0 0,.slice none 0 0] 39 (0,0)) (sK ah.out) k_ hn_)),Or.elim hk_ (fun hs_=>hs_.2) (fun hn_=>(Kd.freshB (g:=ab) (o:=.cells #[.int .i64 0,.int .i64 0,.slice none 0 0,.int .i64 0,.int .i64 0,.slice none 0 0,.slice none 0 0,.slice none 0 0] 39 (0,0)) (sK ai.out) k_ hn_))⟩)) (qac sB))
   replace ac:=qaa.mk (sKb ac.out hb)
   replace ah:=qaa.mk (sKb ah.out hb)
   replace ai:=qaa.mk (sKb ai.out hb)
   replace HB:=qaa.mk (qai sB hb)
   (try clear hb)
   (try clear di)
   (try clear hk)
   (try clear hi)
   (try clear bW)
   obtain⟨cM,cN,cO⟩:=Kd.N_slice aH.out
   (first|subst cO|(injection cO with ba bx be;have bz:=ba.symm;have bB:=be.symm;clear ba bx be;subst bz;subst bB))
   refine hK.out _ _ ⟨(qab ac.out 0).trans rfl,(qab ac.out 1).trans rfl,(qab ac.out 2).trans rfl,(qab ac.out 3).trans rfl,(qab ac.out 4).trans rfl,(qab ac.out 5).trans rfl,(qab ac.out 6).trans rfl,(qab ac.out 7).trans rfl⟩ (fun hHeld=>?_)
   clear hK K
   refine qa0 (a':=?_) ?_ ?_
   rotate_left
   ·show Act.put _ (some 10) _=_
    simp only [Act.put,List.setIfInBounds_toArray,List.set_cons_zero,List.set_cons_succ,qaC,qaE]
    rfl
   refine one_ (i:=5) (N:=some 11) #[true,true,true,true,true,true,false,true,false] rfl rfl (qaO HT_.out (by kernel_rfl)) (by decide) (fun K hK=>?_)
   refine goes_ Tryd.func16 (by kernel_rfl) rfl #[.agg #[.int .i64 aK,.int .i64 aM,.slice A0_5 aI.length c0_5,.slice A0_6 aJ.length c0_6],.agg #[.int .i64 bF,.int .i64 bG,.slice cM bv.length cN]] (by rfl) rfl rfl (by (try simp only [List.map_toArray,List.map_cons,List.map_nil]);first|done|rfl|(simp only [List.length_drop,List.length_take];rfl)) ?_
   with_reducible refine (ostinatolaw21_Pick_setup.calls k aK aM _ _ aI _ _ aJ bF bG (fun k_=>((aA k_∨w.heap.size≤k_)∧(k_≠af∧(k_≠ae∧k_≠ab)))) _ _ bv au aw av ay aD ax az _ ?bw ?bO ?bP ?bQ ?bR A3.out).mono ?_
   (case bw=>repeat (first|exact (Kd.C_below cg.out HB.out)|(with_reducible refine Kd.C_alloc ?_ _)|(with_reducible refine Kd.C_drewN ?_ _)|(with_reducible refine Kd.C_drew ?_)))
   (case bO=>exact cj.out)
   (case bP=>repeat (first|exact (Kd.C_below ck.out HB.out)|(with_reducible refine Kd.C_alloc ?_ _)|(with_reducible refine Kd.C_drewN ?_ _)|(with_reducible refine Kd.C_drew ?_)))
   (case bQ=>exact cm.out)
   (case bR=>exact Kd.N_V (aH.out))
   rintro e jD ⟨cA,bH,bI,rfl,bW,bZ,b8,hb⟩
   refine⟨_,rfl,?_⟩
   replace ar:=qaa.mk (Kd.V_mono (Kd.V_told (Kd.V_told (Kd.V_old (sV ar.out) hb) (Kd.R_base bZ)) (Kd.R_base b8)) (fun _ h_=>h_.1))
   replace aH:=qaa.mk (Kd.N_mono (Kd.N_told (Kd.N_told (Kd.N_old (sN aH.out) hb) (Kd.R_base bZ)) (Kd.R_base b8)) (fun _ h_=>h_.1))
   have bg:=qaa.mk (Kd.V_lower (Kd.V_mono (ok':=fun k_=>(aA k_∨w.heap.size≤k_)∧some k_≠(bH:Value).ownBlock∧some k_≠(bI:Value).ownBlock∧k_≠af∧k_≠ae∧k_≠ab) bW (fun k_ hk_=>⟨Or.elim hk_.1 (fun hs_=>hs_.1) (fun hn_=>(.inr (Nat.le_trans (qac sB) hn_))),hk_.2.1,hk_.2.2,Or.elim hk_.1 (fun hs_=>hs_.2.1) (fun hn_=>(Kd.freshB (g:=af) (o:=.cells #[.int .i64 aW,.int .i64 aX,.slice A0_2 aC.length c0_2,.int .i64 aK,.int .i64 aM,.slice A0_5 aI.length c0_5,.slice A0_6 aJ.length c0_6,.slice A0_7 aj.length c0_7] 30 (0,0)) (sK ac.out) k_ hn_)),Or.elim hk_.1 (fun hs_=>hs_.2.2.1) (fun hn_=>(Kd.freshB (g:=ae) (o:=.cells #[.int .i64 0,.int .i64 0,.slice none 0 0,.int .i64 0,.int .i64 0,.slice none 0 0,.slice none 0 0,.slice none 0 0] 39 (0,0)) (sK ah.out) k_ hn_)),Or.elim hk_.1 (fun hs_=>hs_.2.2.2) (fun hn_=>(Kd.freshB (g:=ab) (o:=.cells #[.int .i64 0,.int .i64 0,.slice none 0 0,.int .i64 0,.int .i64 0,.slice none 0 0,.slice none 0 0,.slice none 0 0] 39 (0,0)) (sK ai.out) k_ hn_))⟩)) (qac sB))
   have bh:=qaa.mk (Kd.R_lower (Kd.R_newM (M:=fun k_=>(w.heap.size≤k_)) (Kd.R_mono (ok':=fun k_=>True) bZ (fun _ hk_=>trivial)) (qac sB) (fun k_ h_=>h_)) (qac sB))
   have bi:=qaa.mk (Kd.R_lower (Kd.R_newM (M:=fun k_=>(w.heap.size≤k_)) (Kd.R_mono (ok':=fun k_=>True) b8 (fun _ hk_=>trivial)) (qac sB) (fun k_ h_=>h_)) (qac sB))
   replace ac:=qaa.mk (sKb ac.out hb)
   replace ah:=qaa.mk (sKb ah.out hb)
   replace ai:=qaa.mk (sKb ai.out hb)
   replace HB:=qaa.mk (qai sB hb)
   (try clear hb)
   (try clear di)
   (try clear hk)
   (try clear hi)
   (try clear bW)
   (try clear bZ)
   (try clear b8)
   obtain⟨cp,cq,bS⟩:=Kd.R_slice bi.out
   (first|subst bS|(injection bS with ba bx be;have bz:=ba.symm;have bB:=be.symm;clear ba bx be;subst bz;subst bB))
   obtain⟨cr,ct,bT⟩:=Kd.R_slice bh.out
   (first|subst bT|(injection bT with ba bx be;have bz:=ba.symm;have bB:=be.symm;clear ba bx be;subst bz;subst bB))
   obtain⟨cC,cD,cu⟩:=Kd.V_slice bg.out
   (first|subst cu|(injection cu with ba bx be;have bz:=ba.symm;have bB:=be.symm;clear ba bx be;subst bz;subst bB))
   refine hK.out _ _ ⟨(qab ac.out 0).trans rfl,(qab ac.out 1).trans rfl,(qab ac.out 2).trans rfl,(qab ac.out 3).trans rfl,(qab ac.out 4).trans rfl,(qab ac.out 5).trans rfl,(qab ac.out 6).trans rfl,(qab ac.out 7).trans rfl⟩ (fun hHeld=>?_)
   clear hK K
   refine qa0 (a':=?_) ?_ ?_
   rotate_left
   ·show Act.put _ (some 11) _=_
    simp only [Act.put,List.setIfInBounds_toArray,List.set_cons_zero,List.set_cons_succ,qaC,qaE]
    rfl
   refine sP 6 (some 12) rfl rfl ?_
   exact qa0 (by simp only [putAll,Act.put,List.setIfInBounds_toArray,List.set_cons_zero,List.set_cons_succ]) (hCont (.slice cM bv.length cN,.slice cC av.length cD,.slice cr ax.length ct,.slice cp az.length cq,ab) _ ⟨hHeld,(by refine sVm ?_;exact Kd.V_mono ar.out (fun _ hk=>⟨hk.1.1.1.1.1.1,⟨hk.1.1.2,⟨hk.1.2,⟨hk.2,⟨hk.1.1.1.1.1.2,⟨hk.1.1.1.1.2,hk.1.1.1.2⟩⟩⟩⟩⟩⟩)),(by refine sNm ?_;exact Kd.N_mono aH.out (fun _ hk=>⟨hk.1.1.1,⟨hk.1.2,⟨hk.2,⟨hk.1.1.2.1,⟨hk.1.1.2.2.1,hk.1.1.2.2.2⟩⟩⟩⟩⟩)),(sV bg.out),(by refine sRm ?_;exact Kd.R_mono bh.out (fun _ hk=>hk.1)),(by refine sRm ?_;exact Kd.R_mono bi.out (fun _ hk=>hk.1)),(sK ac.out),(sK ah.out),(sK ai.out),bJ.out,bq.out,aa.out,am.out,ag.out,an.out,sB⟩)
 rintro ⟨cz,cA,bH,bI,ab⟩ bE ⟨hS_,iv,iw,ix,iy,iz,iA,iB,iC,iD,iE,cP,cQ,cR,cS,cT⟩
 have iF:qaa (Kd.V k82 82 bE w.heap.size (fun k_=>(aA k_∨w.heap.size≤k_)∧some k_≠(cz:Value).ownBlock∧some k_≠(bH:Value).ownBlock∧some k_≠(bI:Value).ownBlock∧k_≠af∧k_≠ae∧k_≠ab) (.slice A0_2 aC.length c0_2) aC):=⟨iv⟩
 have iG:qaa (Kd.N k53 53 bE w.heap.size (fun k_=>(aA k_∨w.heap.size≤k_)∧some k_≠(bH:Value).ownBlock∧some k_≠(bI:Value).ownBlock∧k_≠af∧k_≠ae∧k_≠ab) cz bv):=⟨iw⟩
 have iH:qaa (Kd.V k53 53 bE w.heap.size (fun k_=>(aA k_∨w.heap.size≤k_)∧some k_≠(bH:Value).ownBlock∧some k_≠(bI:Value).ownBlock∧k_≠af∧k_≠ae∧k_≠ab) cA av):=⟨ix⟩
 have iI:qaa (Kd.R (Kd.int .i64) 3 bE w.heap.size (fun k_=>(w.heap.size≤k_)) bH ax):=⟨iy⟩
 have iJ:qaa (Kd.R (Kd.int .i64) 2 bE w.heap.size (fun k_=>(w.heap.size≤k_)) bI az):=⟨iz⟩
 have iK:qaa (bE.heap[af]? = some (.cells #[.int .i64 aW,.int .i64 aX,.slice A0_2 aC.length c0_2,.int .i64 aK,.int .i64 aM,.slice A0_5 aI.length c0_5,.slice A0_6 aJ.length c0_6,.slice A0_7 aj.length c0_7] 30 (0,0))):=⟨iA⟩
 have iL:qaa (bE.heap[ae]? = some (.cells #[.int .i64 0,.int .i64 0,.slice none 0 0,.int .i64 0,.int .i64 0,.slice none 0 0,.slice none 0 0,.slice none 0 0] 39 (0,0))):=⟨iB⟩
 have iM:qaa (bE.heap[ab]? = some (.cells #[.int .i64 0,.int .i64 0,.slice none 0 0,.int .i64 0,.int .i64 0,.slice none 0 0,.slice none 0 0,.slice none 0 0] 39 (0,0))):=⟨iC⟩
 have iN:qaa (w.heap.size≤ab):=⟨iD⟩
 have iO:qaa (w.heap.size≤ab):=⟨iE⟩
 have cU:qaa (af≠ab):=⟨cP⟩
 have cV:qaa (ab≠af):=⟨cQ⟩
 have cW:qaa (ae≠ab):=⟨cR⟩
 have cX:qaa (ab≠ae):=⟨cS⟩
 have cY:qaa (Below w.heap.size w bE):=⟨cT⟩
 clear ar ac ah HB iv iw ix iy iz iA iB iC iD iE cP cQ cR cS cT
 have ar:=iF
 have aH:=iG
 have bg:=iH
 have bh:=iI
 have bi:=iJ
 have ac:=iK
 have ah:=iL
 have ai:=iM
 have bJ:=iN
 have bq:=iO
 have aa:=cU
 have am:=cV
 have ag:=cW
 have an:=cX
 have HB:=cY
 clear iF iG iH iI iJ iK iL iM iN iO cU cV cW cX cY
 have hHeld:bE.cell? ⟨af,0,none⟩=some (.int .i64 aW)∧bE.cell? ⟨af,1,none⟩=some (.int .i64 aX)∧bE.cell? ⟨af,2,none⟩=some (.slice A0_2 aC.length c0_2)∧bE.cell? ⟨af,3,none⟩=some (.int .i64 aK)∧bE.cell? ⟨af,4,none⟩=some (.int .i64 aM)∧bE.cell? ⟨af,5,none⟩=some (.slice A0_5 aI.length c0_5)∧bE.cell? ⟨af,6,none⟩=some (.slice A0_6 aJ.length c0_6)∧bE.cell? ⟨af,7,none⟩=some (.slice A0_7 aj.length c0_7):=hS_
 obtain⟨aY,aZ,cZ⟩:=Kd.R_slice bi.out
 (first|subst cZ|(injection cZ with ba bx be;have bz:=ba.symm;have bB:=be.symm;clear ba bx be;subst bz;subst bB))
 obtain⟨aN,aQ,da⟩:=Kd.R_slice bh.out
 (first|subst da|(injection da with ba bx be;have bz:=ba.symm;have bB:=be.symm;clear ba bx be;subst bz;subst bB))
 obtain⟨aE,aG,db⟩:=Kd.V_slice bg.out
 (first|subst db|(injection db with ba bx be;have bz:=ba.symm;have bB:=be.symm;clear ba bx be;subst bz;subst bB))
 refine qa0 (a':=?_) ?_ ?_
 rotate_left
 ·simp only [putAll,Act.put,List.setIfInBounds_toArray,List.set_cons_zero,List.set_cons_succ]
  rfl
 refine one_ (i:=8) (N:=none) #[true,true,true,true,true,true,true,true,true] rfl rfl (qaO HT_.out (by kernel_rfl)) (by decide) (fun K hK=>?_)
 have jE:bE.cell? ⟨ab,0,none⟩=some (.int .i64 0):=(qab ai.out 0).trans rfl
 have iP:=qan ai.out 0
 have dj:=aa.out
 have dk:=ag.out
 have dl:=am.out
 have dm:=an.out
 have jF:bE.cell? ⟨ab,1,none⟩=some (.int .i64 0):=(qab ai.out 1).trans rfl
 have iQ:=qan ai.out 1
 have dn:=aa.out
 have dp:=ag.out
 have dq:=am.out
 have dr:=an.out
 have jG:bE.cell? ⟨ab,2,none⟩=some (.slice none 0 0):=(qab ai.out 2).trans rfl
 have iR:=qan ai.out 2
 have du:=aa.out
 have dv:=ag.out
 have dw:=am.out
 have dx:=an.out
 have jH:bE.cell? ⟨ab,3,none⟩=some (.int .i64 0):=(qab ai.out 3).trans rfl
 have iS:=qan ai.out 3
 have dy:=aa.out
 have dz:=ag.out
 have dA:=am.out
 have dB:=an.out
 have jI:bE.cell? ⟨ab,4,none⟩=some (.int .i64 0):=(qab ai.out 4).trans rfl
 have iT:=qan ai.out 4
 have dC:=aa.out
 have dD:=ag.out
 have dE:=am.out
 have dF:=an.out
 have jJ:bE.cell? ⟨ab,5,none⟩=some (.slice none 0 0):=(qab ai.out 5).trans rfl
 have iU:=qan ai.out 5
 have dG:=aa.out
 have dH:=ag.out
 have dI:=am.out
 have dJ:=an.out
 have jK:bE.cell? ⟨ab,6,none⟩=some (.slice none 0 0):=(qab ai.out 6).trans rfl
 have iV:=qan ai.out 6
 have dK:=aa.out
 have dL:=ag.out
 have dM:=am.out
 have dN:=an.out
 have jL:bE.cell? ⟨ab,7,none⟩=some (.slice none 0 0):=(qab ai.out 7).trans rfl
 have iW:=qan ai.out 7
 have dO:=aa.out
 have dP:=ag.out
 have dQ:=am.out
 have dT:=an.out
 refine skip_ (w1:=?_) (by rfl) rfl ?_ ?_
 rotate_left
 ·go_simp
  rfl
 refine hK.out _ _ ⟨((qaq (p:=⟨ab,_,none⟩) aa.out _).trans (((qaq (p:=⟨ab,_,none⟩) aa.out _).trans (((qaq (p:=⟨ab,_,none⟩) aa.out _).trans (((qaq (p:=⟨ab,_,none⟩) aa.out _).trans (((qaq (p:=⟨ab,_,none⟩) aa.out _).trans (((qaq (p:=⟨ab,_,none⟩) aa.out _).trans (((qaq (p:=⟨ab,_,none⟩) aa.out _).trans (((qaq (p:=⟨ab,_,none⟩) aa.out _).trans (hHeld.1)))))))))))))))),((qaq (p:=⟨ab,_,none⟩) aa.out _).trans (((qaq (p:=⟨ab,_,none⟩) aa.out _).trans (((qaq (p:=⟨ab,_,none⟩) aa.out _).trans (((qaq (p:=⟨ab,_,none⟩) aa.out _).trans (((qaq (p:=⟨ab,_,none⟩) aa.out _).trans (((qaq (p:=⟨ab,_,none⟩) aa.out _).trans (((qaq (p:=⟨ab,_,none⟩) aa.out _).trans (((qaq (p:=⟨ab,_,none⟩) aa.out _).trans (hHeld.2.1)))))))))))))))),((qaq (p:=⟨ab,_,none⟩) aa.out _).trans (((qaq (p:=⟨ab,_,none⟩) aa.out _).trans (((qaq (p:=⟨ab,_,none⟩) aa.out _).trans (((qaq (p:=⟨ab,_,none⟩) aa.out _).trans (((qaq (p:=⟨ab,_,none⟩) aa.out _).trans (((qaq (p:=⟨ab,_,none⟩) aa.out _).trans (((qaq (p:=⟨ab,_,none⟩) aa.out _).trans (((qaq (p:=⟨ab,_,none⟩) aa.out _).trans (hHeld.2.2.1)))))))))))))))),((qaq (p:=⟨ab,_,none⟩) aa.out _).trans (((qaq (p:=⟨ab,_,none⟩) aa.out _).trans (((qaq (p:=⟨ab,_,none⟩) aa.out _).trans (((qaq (p:=⟨ab,_,none⟩) aa.out _).trans (((qaq (p:=⟨ab,_,none⟩) aa.out _).trans (((qaq (p:=⟨ab,_,none⟩) aa.out _).trans (((qaq (p:=⟨ab,_,none⟩) aa.out _).trans (((qaq (p:=⟨ab,_,none⟩) aa.out _).trans (hHeld.2.2.2.1)))))))))))))))),((qaq (p:=⟨ab,_,none⟩) aa.out _).trans (((qaq (p:=⟨ab,_,none⟩) aa.out _).trans (((qaq (p:=⟨ab,_,none⟩) aa.out _).trans (((qaq (p:=⟨ab,_,none⟩) aa.out _).trans (((qaq (p:=⟨ab,_,none⟩) aa.out _).trans (((qaq (p:=⟨ab,_,none⟩) aa.out _).trans (((qaq (p:=⟨ab,_,none⟩) aa.out _).trans (((qaq (p:=⟨ab,_,none⟩) aa.out _).trans (hHeld.2.2.2.2.1)))))))))))))))),((qaq (p:=⟨ab,_,none⟩) aa.out _).trans (((qaq (p:=⟨ab,_,none⟩) aa.out _).trans (((qaq (p:=⟨ab,_,none⟩) aa.out _).trans (((qaq (p:=⟨ab,_,none⟩) aa.out _).trans (((qaq (p:=⟨ab,_,none⟩) aa.out _).trans (((qaq (p:=⟨ab,_,none⟩) aa.out _).trans (((qaq (p:=⟨ab,_,none⟩) aa.out _).trans (((qaq (p:=⟨ab,_,none⟩) aa.out _).trans (hHeld.2.2.2.2.2.1)))))))))))))))),((qaq (p:=⟨ab,_,none⟩) aa.out _).trans (((qaq (p:=⟨ab,_,none⟩) aa.out _).trans (((qaq (p:=⟨ab,_,none⟩) aa.out _).trans (((qaq (p:=⟨ab,_,none⟩) aa.out _).trans (((qaq (p:=⟨ab,_,none⟩) aa.out _).trans (((qaq (p:=⟨ab,_,none⟩) aa.out _).trans (((qaq (p:=⟨ab,_,none⟩) aa.out _).trans (((qaq (p:=⟨ab,_,none⟩) aa.out _).trans (hHeld.2.2.2.2.2.2.1)))))))))))))))),((qaq (p:=⟨ab,_,none⟩) aa.out _).trans (((qaq (p:=⟨ab,_,none⟩) aa.out _).trans (((qaq (p:=⟨ab,_,none⟩) aa.out _).trans (((qaq (p:=⟨ab,_,none⟩) aa.out _).trans (((qaq (p:=⟨ab,_,none⟩) aa.out _).trans (((qaq (p:=⟨ab,_,none⟩) aa.out _).trans (((qaq (p:=⟨ab,_,none⟩) aa.out _).trans (((qaq (p:=⟨ab,_,none⟩) aa.out _).trans (hHeld.2.2.2.2.2.2.2))))))))))))))))⟩ (fun hHeld=>?_)
 clear hK K
 refine done_ (done_of HT_.out (by kernel_rfl)) ?_
 try go_wp2
 go_loopg [4] k (fun kq v4 w'=>∃ (ak:Int) (ap:List (S49)) (bf:Value),v4=.int .i64 ak∧qaa (ostinatolaw21_Spec_cert.l0 kq ak aW aX aC aK aM aI aJ aj au aw av ay aD ax az ap=some (r1,r2,r3,r4,r5,r6,r7,r8))∧qaa (kq≤k)∧qaa (Kd.V k82 82 w' w.heap.size (fun k_=>(aA k_∨w.heap.size≤k_)∧some k_≠((.slice aN ax.length aQ):Value).ownBlock∧some k_≠((.slice aY az.length aZ):Value).ownBlock∧some k_≠(bf:Value).ownBlock∧k_≠af∧k_≠ae∧k_≠ab) (.slice A0_2 aC.length c0_2) aC)∧qaa (Kd.V k53 53 w' w.heap.size (fun k_=>(aA k_∨w.heap.size≤k_)∧some k_≠((.slice aN ax.length aQ):Value).ownBlock∧some k_≠((.slice aY az.length aZ):Value).ownBlock∧some k_≠(bf:Value).ownBlock∧k_≠af∧k_≠ae∧k_≠ab) (.slice aE av.length aG) av)∧qaa (Kd.R (Kd.int .i64) 3 w' w.heap.size (fun k_=>(w.heap.size≤k_)) (.slice aN ax.length aQ) ax)∧qaa (Kd.R (Kd.int .i64) 2 w' w.heap.size (fun k_=>(w.heap.size≤k_)) (.slice aY az.length aZ) az)∧qaa (Kd.R k49 49 w' w.heap.size (fun k_=>(w.heap.size≤k_)) bf ap)∧qaa (w'.heap[af]? = some (.cells #[.int .i64 aW,.int .i64 aX,(.slice A0_2 aC.length c0_2),.int .i64 aK,.int .i64 aM,(.slice A0_5 aI.length c0_5),(.slice A0_6 aJ.length c0_6),(.slice A0_7 aj.length c0_7)] 30 (0,0)))∧qaa (w'.heap[ae]? = some (.cells #[.int .i64 0,.int .i64 0,(.slice none 0 0),.int .i64 0,.int .i64 0,(.slice none 0 0),(.slice none 0 0),(.slice none 0 0)] 39 (0,0)))∧qaa (w'.heap[ab]? = some (.cells #[.int .i64 au,.int .i64 aw,(.slice aE av.length aG),.int .i64 ay,.int .i64 aD,(.slice aN ax.length aQ),(.slice aY az.length aZ),bf] 39 (0,0)))∧qaa (Below w.heap.size w w'))
 case atStart=>exact⟨(0),(([]:List (S49))),(.slice none 0 0),(by first|rfl|(simp;done)|(simp [*];done)),H',⟨Nat.le_refl _⟩,⟨by refine sVm ?_;exact Kd.V_mono (Kd.V_far (p:=⟨ab,7,none⟩) (Kd.V_far (p:=⟨ab,6,none⟩) (Kd.V_far (p:=⟨ab,5,none⟩) (Kd.V_far (p:=⟨ab,4,none⟩) (Kd.V_far (p:=⟨ab,3,none⟩) (Kd.V_far (p:=⟨ab,2,none⟩) (Kd.V_far (p:=⟨ab,1,none⟩) (Kd.V_far (p:=⟨ab,0,none⟩) (Kd.V_mono ar.out (fun k_ hk=>(⟨hk,hk.2.2.2.2.2.2⟩:_∧k_≠ab))) (fun _ hk=>hk.2) (.int .i64 au)) (fun _ hk=>hk.2) (.int .i64 aw)) (fun _ hk=>hk.2) (.slice aE av.length aG)) (fun _ hk=>hk.2) (.int .i64 ay)) (fun _ hk=>hk.2) (.int .i64 aD)) (fun _ hk=>hk.2) (.slice aN ax.length aQ)) (fun _ hk=>hk.2) (.slice aY az.length aZ)) (fun _ hk=>hk.2) (.slice none 0 0)) (fun _ hk=>⟨hk.1.1,⟨hk.1.2.2.1,⟨hk.1.2.2.2.1,⟨(by simp [Value.ownBlock]),⟨hk.1.2.2.2.2.1,⟨hk.1.2.2.2.2.2.1,hk.1.2.2.2.2.2.2⟩⟩⟩⟩⟩⟩)⟩,⟨by refine sVm ?_;exact Kd.V_mono (Kd.V_far (p:=⟨ab,7,none⟩) (Kd.V_far (p:=⟨ab,6,none⟩) (Kd.V_far (p:=⟨ab,5,none⟩) (Kd.V_far (p:=⟨ab,4,none⟩) (Kd.V_far (p:=⟨ab,3,none⟩) (Kd.V_far (p:=⟨ab,2,none⟩) (Kd.V_far (p:=⟨ab,1,none⟩) (Kd.V_far (p:=⟨ab,0,none⟩) (Kd.V_mono bg.out (fun k_ hk=>(⟨hk,hk.2.2.2.2.2⟩:_∧k_≠ab))) (fun _ hk=>hk.2) (.int .i64 au)) (fun _ hk=>hk.2) (.int .i64 aw)) (fun _ hk=>hk.2) (.slice aE av.length aG)) (fun _ hk=>hk.2) (.int .i64 ay)) (fun _ hk=>hk.2) (.int .i64 aD)) (fun _ hk=>hk.2) (.slice aN ax.length aQ)) (fun _ hk=>hk.2) (.slice aY az.length aZ)) (fun _ hk=>hk.2) (.slice none 0 0)) (fun _ hk=>⟨hk.1.1,⟨hk.1.2.1,⟨hk.1.2.2.1,⟨(by simp [Value.ownBlock]),⟨hk.1.2.2.2.1,⟨hk.1.2.2.2.2.1,hk.1.2.2.2.2.2⟩⟩⟩⟩⟩⟩)⟩,⟨by refine sRm ?_;exact Kd.R_mono (Kd.R_far (p:=⟨ab,7,none⟩) (Kd.R_far (p:=⟨ab,6,none⟩) (Kd.R_far (p:=⟨ab,5,none⟩) (Kd.R_far (p:=⟨ab,4,none⟩) (Kd.R_far (p:=⟨ab,3,none⟩) (Kd.R_far (p:=⟨ab,2,none⟩) (Kd.R_far (p:=⟨ab,1,none⟩) (Kd.R_far (p:=⟨ab,0,none⟩) (Kd.R_types bh.out ai.out (by decide)) (fun _ hk=>hk.2) (.int .i64 au)) (fun _ hk=>hk.2) (.int .i64 aw)) (fun _ hk=>hk.2) (.slice aE av.length aG)) (fun _ hk=>hk.2) (.int .i64 ay)) (fun _ hk=>hk.2) (.int .i64 aD)) (fun _ hk=>hk.2) (.slice aN ax.length aQ)) (fun _ hk=>hk.2) (.slice aY az.length aZ)) (fun _ hk=>hk.2) (.slice none 0 0)) (fun _ hk=>hk.1)⟩,⟨by refine sRm ?_;exact Kd.R_mono (Kd.R_far (p:=⟨ab,7,none⟩) (Kd.R_far (p:=⟨ab,6,none⟩) (Kd.R_far (p:=⟨ab,5,none⟩) (Kd.R_far (p:=⟨ab,4,none⟩) (Kd.R_far (p:=⟨ab,3,none⟩) (Kd.R_far (p:=⟨ab,2,none⟩) (Kd.R_far (p:=⟨ab,1,none⟩) (Kd.R_far (p:=⟨ab,0,none⟩) (Kd.R_types bi.out ai.out (by decide)) (fun _ hk=>hk.2) (.int .i64 au)) (fun _ hk=>hk.2) (.int .i64 aw)) (fun _ hk=>hk.2) (.slice aE av.length aG)) (fun _ hk=>hk.2) (.int .i64 ay)) (fun _ hk=>hk.2) (.int .i64 aD)) (fun _ hk=>hk.2) (.slice aN ax.length aQ)) (fun _ hk=>hk.2) (.slice aY az.length aZ)) (fun _ hk=>hk.2) (.slice none 0 0)) (fun _ hk=>hk.1)⟩,⟨by first|exact Kd.R_nil _ _ _ _ _|exact Kd.N_nil _ _ _ _ _|exact Kd.V_nil _ _ _ _ _|exact Kd.Q_nil _ _ _ _ _|exact Kd.S_nil _ _ _ _ _⟩,⟨by refine sM ?_;refine qaf ?_ aa.out _;refine sM ?_;refine qaf ?_ aa.out _;refine sM ?_;refine qaf ?_ aa.out _;refine sM ?_;refine qaf ?_ aa.out _;refine sM ?_;refine qaf ?_ aa.out _;refine sM ?_;refine qaf ?_ aa.out _;refine sM ?_;refine qaf ?_ aa.out _;refine sM ?_;refine qaf ?_ aa.out _;refine sM ?_;exact ac.out⟩,⟨by refine sM ?_;refine qaf ?_ ag.out _;refine sM ?_;refine qaf ?_ ag.out _;refine sM ?_;refine qaf ?_ ag.out _;refine sM ?_;refine qaf ?_ ag.out _;refine sM ?_;refine qaf ?_ ag.out _;refine sM ?_;refine qaf ?_ ag.out _;refine sM ?_;refine qaf ?_ ag.out _;refine sM ?_;refine qaf ?_ ag.out _;refine sM ?_;exact ah.out⟩,⟨by refine sM ?_;refine qak (cs:=#[.int .i64 au,.int .i64 aw,.slice aE av.length aG,.int .i64 ay,.int .i64 aD,.slice aN ax.length aQ,.slice aY az.length aZ,.slice none 0 0]) ?_ 7 _ rfl;refine sM ?_;refine qak (cs:=#[.int .i64 au,.int .i64 aw,.slice aE av.length aG,.int .i64 ay,.int .i64 aD,.slice aN ax.length aQ,.slice none 0 0,.slice none 0 0]) ?_ 6 _ rfl;refine sM ?_;refine qak (cs:=#[.int .i64 au,.int .i64 aw,.slice aE av.length aG,.int .i64 ay,.int .i64 aD,.slice none 0 0,.slice none 0 0,.slice none 0 0]) ?_ 5 _ rfl;refine sM ?_;refine qak (cs:=#[.int .i64 au,.int .i64 aw,.slice aE av.length aG,.int .i64 ay,.int .i64 0,.slice none 0 0,.slice none 0 0,.slice none 0 0]) ?_ 4 _ rfl;refine sM ?_;refine qak (cs:=#[.int .i64 au,.int .i64 aw,.slice aE av.length aG,.int .i64 0,.int .i64 0,.slice none 0 0,.slice none 0 0,.slice none 0 0]) ?_ 3 _ rfl;refine sM ?_;refine qak (cs:=#[.int .i64 au,.int .i64 aw,.slice none 0 0,.int .i64 0,.int .i64 0,.slice none 0 0,.slice none 0 0,.slice none 0 0]) ?_ 2 _ rfl;refine sM ?_;refine qak (cs:=#[.int .i64 au,.int .i64 0,.slice none 0 0,.int .i64 0,.int .i64 0,.slice none 0 0,.slice none 0 0,.slice none 0 0]) ?_ 1 _ rfl;refine sM ?_;refine qak (cs:=#[.int .i64 0,.int .i64 0,.slice none 0 0,.int .i64 0,.int .i64 0,.slice none 0 0,.slice none 0 0,.slice none 0 0]) ?_ 0 _ rfl;refine sM ?_;exact ai.out⟩,⟨by repeat (first|(with_reducible first|exact HB.out|apply qah|apply qae|apply qag|refine qad ?_ bX.out|refine qad ?_ bY.out|refine qad ?_ bq.out)|exact HB.out)⟩⟩
 case round=>
  clear H'
  try clear c1
  try clear p2
  try clear c6
  try clear jP
  try clear jQ
  obtain⟨ak,ap,bf,rfl,HA,iX,bj,aT,aU,aV,aq,ac,ah,ai,HB⟩:=hrel
  cases gk with
  |zero=>exact absurd HA.out (by simp [ostinatolaw21_Spec_cert.l0])
  |succ k1=>
   have H:=HA.out
   clear HA
   simp only [ostinatolaw21_Spec_cert.l0] at H
   by_cases cH:ak<(aj.length:Int)
   ·rw [if_pos cH] at H
    have dc:decide (ak<(aj.length:Int))=true:=decide_eq_true cH
    clear cH
    by_cases cI:ak<6
    ·rw [if_pos cI] at H
     have dd:decide (ak<6)=true:=decide_eq_true cI
     clear cI
     by_cases dU:0≤ak
     ·rw [if_pos dU] at H
      have iY:decide (0≤ak)=true:=decide_eq_true dU
      clear dU
      by_cases dV:ap.length<4398046511104
      ·rw [if_pos dV] at H
       have de:=qaa.mk dV
       clear dV
       obtain⟨bU,bV⟩:∃ y_:List (S49),y_=(ap++[(⟨Go.bits .and .i64 ((qaz aj ak).f0) 63,Go.bits .and .i64 ((qaz aj ak).f1) 1099511627775,Go.bits .and .i64 ((qaz aj ak).f2) 1099511627775,Go.bits .and .i64 ((qaz aj ak).f3) 1099511627775⟩:S49)]):=⟨_,rfl⟩
       replace H:(ostinatolaw21_Spec_cert.l0 k1 (cE (ak+1)) aW aX aC aK aM aI aJ aj au aw av ay aD ax az bU)=some (r1,r2,r3,r4,r5,r6,r7,r8):=by first|(rw [bV];with_reducible exact H)|(have ib:=(Option.bind_some _ _).symm.trans H;rw [bV];with_reducible exact ib)|(have ib:=(Option.bind_some _ _).symm.trans H;with_reducible exact ib)|with_reducible exact H|(rw [bV];exact H)|exact H
       have df:=qaa.mk bV
       clear bV
       have H':=qaa.mk H
       clear H
       have iZ:=bC.out
       have i7:=bD.out
       have i8:=aa.out
       have ja:=am.out
       obtain⟨dW,dX,dY,dZ,d7,d8,d9,ea⟩:=sC8 (w:=wr) ac.out
       obtain⟨eb,ec,ed,ef,eg,eh,ek,el⟩:=sF8 ac.out
       have cF:0≤(ak:Int):=of_decide_eq_true sA
       have cG:ak<(aj.length:Int):=of_decide_eq_true sA
       obtain⟨dg,ic,bK,bL,bM,bN⟩:=at_T56 cK.out ak cF cG
       cases ic
       replace bK:=(HB.out.cell (bLt w _ bK)).trans bK
       replace bL:=(HB.out.cell (bLt w _ bL)).trans bL
       replace bM:=(HB.out.cell (bLt w _ bM)).trans bM
       replace bN:=(HB.out.cell (bLt w _ bN)).trans bN
       replace cF:=eq_true cF
       replace cG:=eq_true cG
       go_wp2_with (first|((with_reducible refine qap (N:=5) rfl ?_);refine qao ?hg (N:=5) ?hd (cs:=#[.int .i64 0,.int .i64 0,.int .i64 0,.int .i64 0]) (t:=56) ?hr ?_;(case hd=>rfl);(case hg=>rfl);(case hr=>first|(go_simp;done)|(go_simp;rfl));intro al hg jb hbox hb;replace bj:=qaa.mk (Kd.V_below (Kd.V_elderB (sV bj.out) al (Nat.le_of_eq hg.symm)) hb);replace aT:=qaa.mk (Kd.V_below (Kd.V_elderB (sV aT.out) al (Nat.le_of_eq hg.symm)) hb);replace aU:=qaa.mk (Kd.R_below (sR aU.out) hb);replace aV:=qaa.mk (Kd.R_below (sR aV.out) hb);replace aq:=qaa.mk (Kd.R_below (sR aq.out) hb);have bt:=qaa.mk (hbox);have jc:=qaa.mk ((by rw [hg];exact (qac sB):w.heap.size≤al));have dh:=qaa.mk ((by rw [hg];exact (qac sB):w.heap.size≤al));replace HB:=qaa.mk (qai sB hb);have bm:=qaa.mk ((by rw [hg];exact Nat.ne_of_lt (sLt ac.out):af≠al));have b9:=qaa.mk ((by rw [hg];exact Nat.ne_of_gt (sLt ac.out):al≠af));replace ac:=qaa.mk (sKb ac.out hb);have bn:=qaa.mk ((by rw [hg];exact Nat.ne_of_lt (sLt ah.out):ae≠al));have ca:=qaa.mk ((by rw [hg];exact Nat.ne_of_gt (sLt ah.out):al≠ae));replace ah:=qaa.mk (sKb ah.out hb);have bp:=qaa.mk ((by rw [hg];exact Nat.ne_of_lt (sLt ai.out):ab≠al));have cb:=qaa.mk ((by rw [hg];exact Nat.ne_of_gt (sLt ai.out):al≠ab));replace ai:=qaa.mk (sKb ai.out hb);clear hb hbox hg;have jd:=b9.out;have je:=bm.out;have jf:=ca.out;have jg:=bn.out;have jh:=cb.out;have ji:=bp.out;obtain⟨en,ep,eq,er⟩:=sC4 (w:=jb) bt.out;obtain⟨es,et,eu,ev⟩:=sF4 bt.out;have jj:=an.out;have jk:=ag.out;obtain⟨ew,ex,ey,ez,eA,eB,eC,eD⟩:=sC8 (w:=jb) ai.out;obtain⟨eE,eF,eG,eH,eI,eJ,eK,eL⟩:=sF8 ai.out)|((with_reducible refine qaB (b:=.append) (xs:=#[.tmp 30,.tmp 44]) rfl ?_);at_builtin;refine Kd.R_append k49 (w0:=w) w.heap.size rfl (.tmp 30) (.tmp 44) 37 49 (.agg #[(.int .i64 0),(.int .i64 0),(.int .i64 0),(.int .i64 0)]) 32 rfl Tryd.underlying37 info49 rfl (by decide) (by omega) bf ap (⟨Go.bits .and .i64 ((qaz aj ak).f0) 63,Go.bits .and .i64 ((qaz aj ak).f1) 1099511627775,Go.bits .and .i64 ((qaz aj ak).f2) 1099511627775,Go.bits .and .i64 ((qaz aj ak).f3) 1099511627775⟩:S49) [.int .i64 (Go.bits .and .i64 ((qaz aj ak).f0) 63),.int .i64 (Go.bits .and .i64 ((qaz aj ak).f1) 1099511627775),.int .i64 (Go.bits .and .i64 ((qaz aj ak).f2) 1099511627775),.int .i64 (Go.bits .and .i64 ((qaz aj ak).f3) 1099511627775)] (fun k_=>(w.heap.size≤k_)) (fun _=>False) rfl (by first|(go_simp;done)|(go_simp;rfl)) ?aP (fun _ hk=>hk.elim) ?aF ?aO ?aB ?aS ?aL ?_;(case aP=>exact k49_mkM _ _ _ (⟨Go.bits .and .i64 ((qaz aj ak).f0) 63,Go.bits .and .i64 ((qaz aj ak).f1) 1099511627775,Go.bits .and .i64 ((qaz aj ak).f2) 1099511627775,Go.bits .and .i64 ((qaz aj ak).f3) 1099511627775⟩:S49));(case aB=>exact sB);(case aF=>exact (fun k_ hk=>(Nat.le_trans (qac sB) hk)));(case aO=>exact (by refine sRm ?_;exact Kd.R_mono (Kd.R_far (p:=⟨al,3,none⟩) (Kd.R_far (p:=⟨al,2,none⟩) (Kd.R_far (p:=⟨al,1,none⟩) (Kd.R_far (p:=⟨al,0,none⟩) (Kd.R_types aq.out bt.out (by decide)) (fun _ hk=>hk.2) (.int .i64 ((qaz aj ak).f0))) (fun _ hk=>hk.2) (.int .i64 ((qaz aj ak).f1))) (fun _ hk=>hk.2) (.int .i64 ((qaz aj ak).f2))) (fun _ hk=>hk.2) (.int .i64 ((qaz aj ak).f3))) (fun _ hk=>hk.1)));(case aS=>exact (qac sB));(case aL=>have:=de.out;omega);intro jM jN ho hb hg hat;rw [← df.out] at ho;replace bj:=qaa.mk (Kd.V_afterv (ok:=(fun k_=>(aA k_∨w.heap.size≤k_)∧some k_≠(.slice aN ax.length aQ:Value).ownBlock∧some k_≠(.slice aY az.length aZ:Value).ownBlock∧k_≠af∧k_≠ae∧k_≠ab∧k_≠al)) (by refine sVm ?_;exact Kd.V_mono (Kd.V_far (p:=⟨al,3,none⟩) (Kd.V_far (p:=⟨al,2,none⟩) (Kd.V_far (p:=⟨al,1,none⟩) (Kd.V_far (p:=⟨al,0,none⟩) (Kd.V_mono bj.out (fun k_ hk=>(⟨hk,hk.2⟩:_∧k_≠al))) (fun _ hk=>hk.2) (.int .i64 ((qaz aj ak).f0))) (fun _ hk=>hk.2) (.int .i64 ((qaz aj ak).f1))) (fun _ hk=>hk.2) (.int .i64 ((qaz aj ak).f2))) (fun _ hk=>hk.2) (.int .i64 ((qaz aj ak).f3))) (fun _ hk=>⟨⟨hk.1.1.1,⟨hk.1.1.2.1,⟨hk.1.1.2.2.1,⟨hk.1.1.2.2.2.2.1,⟨hk.1.1.2.2.2.2.2.1,⟨hk.1.1.2.2.2.2.2.2,hk.1.2⟩⟩⟩⟩⟩⟩,hk.1.1.2.2.2.1⟩)) hg hat);replace aT:=qaa.mk (Kd.V_afterv (ok:=(fun k_=>(aA k_∨w.heap.size≤k_)∧some k_≠(.slice aN ax.length aQ:Value).ownBlock∧some k_≠(.slice aY az.length aZ:Value).ownBlock∧k_≠af∧k_≠ae∧k_≠ab∧k_≠al)) (by refine sVm ?_;exact Kd.V_mono (Kd.V_far (p:=⟨al,3,none⟩) (Kd.V_far (p:=⟨al,2,none⟩) (Kd.V_far (p:=⟨al,1,none⟩) (Kd.V_far (p:=⟨al,0,none⟩) (Kd.V_mono aT.out (fun k_ hk=>(⟨hk,hk.2⟩:_∧k_≠al))) (fun _ hk=>hk.2) (.int .i64 ((qaz aj ak).f0))) (fun _ hk=>hk.2) (.int .i64 ((qaz aj ak).f1))) (fun _ hk=>hk.2) (.int .i64 ((qaz aj ak).f2))) (fun _ hk=>hk.2) (.int .i64 ((qaz aj ak).f3))) (fun _ hk=>⟨⟨hk.1.1.1,⟨hk.1.1.2.1,⟨hk.1.1.2.2.1,⟨hk.1.1.2.2.2.2.1,⟨hk.1.1.2.2.2.2.2.1,⟨hk.1.1.2.2.2.2.2.2,hk.1.2⟩⟩⟩⟩⟩⟩,hk.1.1.2.2.2.1⟩)) hg hat);replace aU:=qaa.mk (Kd.R_over' (by refine sRm ?_;exact (Kd.R_mono (Kd.R_far (p:=⟨al,3,none⟩) (Kd.R_far (p:=⟨al,2,none⟩) (Kd.R_far (p:=⟨al,1,none⟩) (Kd.R_far (p:=⟨al,0,none⟩) (Kd.R_types aU.out bt.out (by decide)) (fun _ hk=>hk.2) (.int .i64 ((qaz aj ak).f0))) (fun _ hk=>hk.2) (.int .i64 ((qaz aj ak).f1))) (fun _ hk=>hk.2) (.int .i64 ((qaz aj ak).f2))) (fun _ hk=>hk.2) (.int .i64 ((qaz aj ak).f3))) (fun _ h_=>h_.1))) (Kd.R_typed (by refine sRm ?_;exact (Kd.R_mono (Kd.R_far (p:=⟨al,3,none⟩) (Kd.R_far (p:=⟨al,2,none⟩) (Kd.R_far (p:=⟨al,1,none⟩) (Kd.R_far (p:=⟨al,0,none⟩) (Kd.R_types aq.out bt.out (by decide)) (fun _ hk=>hk.2) (.int .i64 ((qaz aj ak).f0))) (fun _ hk=>hk.2) (.int .i64 ((qaz aj ak).f1))) (fun _ hk=>hk.2) (.int .i64 ((qaz aj ak).f2))) (fun _ hk=>hk.2) (.int .i64 ((qaz aj ak).f3))) (fun _ h_=>h_.1)))) (by decide) hg);replace aV:=qaa.mk (Kd.R_over' (by refine sRm ?_;exact (Kd.R_mono (Kd.R_far (p:=⟨al,3,none⟩) (Kd.R_far (p:=⟨al,2,none⟩) (Kd.R_far (p:=⟨al,1,none⟩) (Kd.R_far (p:=⟨al,0,none⟩) (Kd.R_types aV.out bt.out (by decide)) (fun _ hk=>hk.2) (.int .i64 ((qaz aj ak).f0))) (fun _ hk=>hk.2) (.int .i64 ((qaz aj ak).f1))) (fun _ hk=>hk.2) (.int .i64 ((qaz aj ak).f2))) (fun _ hk=>hk.2) (.int .i64 ((qaz aj ak).f3))) (fun _ h_=>h_.1))) (Kd.R_typed (by refine sRm ?_;exact (Kd.R_mono (Kd.R_far (p:=⟨al,3,none⟩) (Kd.R_far (p:=⟨al,2,none⟩) (Kd.R_far (p:=⟨al,1,none⟩) (Kd.R_far (p:=⟨al,0,none⟩) (Kd.R_types aq.out bt.out (by decide)) (fun _ hk=>hk.2) (.int .i64 ((qaz aj ak).f0))) (fun _ hk=>hk.2) (.int .i64 ((qaz aj ak).f1))) (fun _ hk=>hk.2) (.int .i64 ((qaz aj ak).f2))) (fun _ hk=>hk.2) (.int .i64 ((qaz aj ak).f3))) (fun _ h_=>h_.1)))) (by decide) hg);replace ac:=qaa.mk (qaY (g:=af) (o:=.cells #[.int .i64 aW,.int .i64 aX,.slice A0_2 aC.length c0_2,.int .i64 aK,.int .i64 aM,.slice A0_5 aI.length c0_5,.slice A0_6 aJ.length c0_6,.slice (some dg) aj.length c0_7] 30 (0,0)) (by refine sM ?_;refine qaf ?_ bm.out _;refine sM ?_;refine qaf ?_ bm.out _;refine sM ?_;refine qaf ?_ bm.out _;refine sM ?_;refine qaf ?_ bm.out _;refine sM ?_;exact ac.out) hg (Kd.R_ne aq.out ac.out (by decide)));replace ah:=qaa.mk (qaY (g:=ae) (o:=.cells #[.int .i64 0,.int .i64 0,.slice none 0 0,.int .i64 0,.int .i64 0,.slice none 0 0,.slice none 0 0,.slice none 0 0] 39 (0,0)) (by refine sM ?_;refine qaf ?_ bn.out _;refine sM ?_;refine qaf ?_ bn.out _;refine sM ?_;refine qaf ?_ bn.out _;refine sM ?_;refine qaf ?_ bn.out _;refine sM ?_;exact ah.out) hg (Kd.R_ne aq.out ah.out (by decide)));replace ai:=qaa.mk (qaY (g:=ab) (o:=.cells #[.int .i64 au,.int .i64 aw,.slice aE av.length aG,.int .i64 ay,.int .i64 aD,.slice aN ax.length aQ,.slice aY az.length aZ,bf] 39 (0,0)) (by refine sM ?_;refine qaf ?_ bp.out _;refine sM ?_;refine qaf ?_ bp.out _;refine sM ?_;refine qaf ?_ bp.out _;refine sM ?_;refine qaf ?_ bp.out _;refine sM ?_;exact ai.out) hg (Kd.R_ne aq.out ai.out (by decide)));replace bt:=qaa.mk (qaY (g:=al) (o:=.cells #[.int .i64 ((qaz aj ak).f0),.int .i64 ((qaz aj ak).f1),.int .i64 ((qaz aj ak).f2),.int .i64 ((qaz aj ak).f3)] 56 (0,0)) (by refine sM ?_;refine qak (cs:=#[.int .i64 ((qaz aj ak).f0),.int .i64 ((qaz aj ak).f1),.int .i64 ((qaz aj ak).f2),.int .i64 0]) ?_ 3 _ rfl;refine sM ?_;refine qak (cs:=#[.int .i64 ((qaz aj ak).f0),.int .i64 ((qaz aj ak).f1),.int .i64 0,.int .i64 0]) ?_ 2 _ rfl;refine sM ?_;refine qak (cs:=#[.int .i64 ((qaz aj ak).f0),.int .i64 0,.int .i64 0,.int .i64 0]) ?_ 1 _ rfl;refine sM ?_;refine qak (cs:=#[.int .i64 0,.int .i64 0,.int .i64 0,.int .i64 0]) ?_ 0 _ rfl;refine sM ?_;exact bt.out) hg (Kd.R_ne aq.out bt.out (by decide)));replace HB:=qaa.mk (hb);have cB:=qaa.mk (ho);clear aq ho hb hg hat;obtain⟨ce,cf,ie⟩:=Kd.R_slice cB.out;subst ie;obtain⟨eM,eN,eO,eP,eQ,eR,eS,eT⟩:=sC8 (w:=jN) ai.out;obtain⟨eU,eV,eW,eX,eY,eZ,fa,fb⟩:=sF8 ai.out))
       go_roundg k1
       case measure=>have:=iX.out;omega
       case rel=>exact⟨(cE (ak+1)),(bU),(.slice ce bU.length cf),(by first|rfl|(simp;done)|(simp [*];done)),H',⟨by have:=iX.out;omega⟩,⟨by refine sVm ?_;exact Kd.V_mono (Kd.V_far (p:=⟨ab,7,none⟩) (Kd.V_mono bj.out (fun k_ hk=>(⟨hk,hk.1.2.2.2.2.2.1⟩:_∧k_≠ab))) (fun _ hk=>hk.2) (.slice ce bU.length cf)) (fun _ hk=>⟨hk.1.1.1,⟨hk.1.1.2.1,⟨hk.1.1.2.2.1,⟨hk.1.2,⟨hk.1.1.2.2.2.1,⟨hk.1.1.2.2.2.2.1,hk.1.1.2.2.2.2.2.1⟩⟩⟩⟩⟩⟩)⟩,⟨by refine sVm ?_;exact Kd.V_mono (Kd.V_far (p:=⟨ab,7,none⟩) (Kd.V_mono aT.out (fun k_ hk=>(⟨hk,hk.1.2.2.2.2.2.1⟩:_∧k_≠ab))) (fun _ hk=>hk.2) (.slice ce bU.length cf)) (fun _ hk=>⟨hk.1.1.1,⟨hk.1.1.2.1,⟨hk.1.1.2.2.1,⟨hk.1.2,⟨hk.1.1.2.2.2.1,⟨hk.1.1.2.2.2.2.1,hk.1.1.2.2.2.2.2.1⟩⟩⟩⟩⟩⟩)⟩,⟨by refine sRm ?_;exact Kd.R_mono (Kd.R_far (p:=⟨ab,7,none⟩) (Kd.R_types aU.out ai.out (by decide)) (fun _ hk=>hk.2) (.slice ce bU.length cf)) (fun _ hk=>hk.1)⟩,⟨by refine sRm ?_;exact Kd.R_mono (Kd.R_far (p:=⟨ab,7,none⟩) (Kd.R_types aV.out ai.out (by decide)) (fun _ hk=>hk.2) (.slice ce bU.length cf)) (fun _ hk=>hk.1)⟩,⟨by refine sRm ?_;exact Kd.R_mono (Kd.R_far (p:=⟨ab,7,none⟩) (Kd.R_types cB.out ai.out (by decide)) (fun _ hk=>hk.2) (.slice ce bU.length cf)) (fun _ hk=>hk.1)⟩,⟨by refine sM ?_;refine qaf ?_ aa.out _;refine sM ?_;exact ac.out⟩,⟨by refine sM ?_;refine qaf ?_ ag.out _;refine sM ?_;exact ah.out⟩,⟨by refine sM ?_;refine qak (cs:=#[.int .i64 au,.int .i64 aw,.slice aE av.length aG,.int .i64 ay,.int .i64 aD,.slice aN ax.length aQ,.slice aY az.length aZ,bf]) ?_ 7 _ rfl;refine sM ?_;exact ai.out⟩,⟨by repeat (first|(with_reducible first|exact HB.out|apply qah|apply qae|apply qag|refine qad ?_ bX.out|refine qad ?_ bY.out|refine qad ?_ bq.out|refine qad ?_ dh.out)|exact HB.out)⟩⟩
      ·rw [if_neg dV] at H
       exact absurd H (by simp)
     ·rw [if_neg dU] at H
      exact absurd H (by simp)
    ·rw [if_neg cI] at H
     have dd:decide (ak<6)=false:=decide_eq_false cI
     clear cI
     simp only [Option.some.injEq,Prod.mk.injEq] at H
     obtain⟨rfl,rfl,rfl,rfl,rfl,rfl,rfl,rfl⟩:=H
     have jl:=bC.out
     have jm:=bD.out
     have jn:=aa.out
     have jo:=am.out
     obtain⟨fc,fe,ff,fg,fh,fi,fj,fk⟩:=sC8 (w:=wr) ac.out
     obtain⟨fl,fm,fo,fp,fq,ft,fu,fv⟩:=sF8 ac.out
     have jp:=an.out
     have jq:=ag.out
     obtain⟨fw,fx,fy,fz,fA,fB,fC,fD⟩:=sC8 (w:=wr) ai.out
     obtain⟨fE,fF,fG,fH,fI,fJ,fK,fL⟩:=sF8 ai.out
     obtain⟨fM,fN,fO,fP,fQ,fR,fS,fT⟩:=sC8 (w:=wr) ah.out
     obtain⟨fU,fV,fW,fX,fY,fZ,ga,gb⟩:=sF8 ah.out
     obtain⟨cv,cw,ig⟩:=Kd.R_slice aq.out
     subst ig
     go_wp2
     refine bodyPost_ret (results_cell_row rfl _ _ ae 39 #[.int .i64 au,.int .i64 aw,.slice aE av.length aG,.int .i64 ay,.int .i64 aD,.slice aN ax.length aQ,.slice aY az.length aZ,.slice cv ap.length cw] (0,0) _ rfl (by refine sM ?_;refine qak (cs:=#[.int .i64 au,.int .i64 aw,.slice aE av.length aG,.int .i64 ay,.int .i64 aD,.slice aN ax.length aQ,.slice aY az.length aZ,.slice none 0 0]) ?_ 7 _ rfl;refine sM ?_;refine qak (cs:=#[.int .i64 au,.int .i64 aw,.slice aE av.length aG,.int .i64 ay,.int .i64 aD,.slice aN ax.length aQ,.slice none 0 0,.slice none 0 0]) ?_ 6 _ rfl;refine sM ?_;refine qak (cs:=#[.int .i64 au,.int .i64 aw,.slice aE av.length aG,.int .i64 ay,.int .i64 aD,.slice none 0 0,.slice none 0 0,.slice none 0 0]) ?_ 5 _ rfl;refine sM ?_;refine qak (cs:=#[.int .i64 au,.int .i64 aw,.slice aE av.length aG,.int .i64 ay,.int .i64 0,.slice none 0 0,.slice none 0 0,.slice none 0 0]) ?_ 4 _ rfl;refine sM ?_;refine qak (cs:=#[.int .i64 au,.int .i64 aw,.slice aE av.length aG,.int .i64 0,.int .i64 0,.slice none 0 0,.slice none 0 0,.slice none 0 0]) ?_ 3 _ rfl;refine sM ?_;refine qak (cs:=#[.int .i64 au,.int .i64 aw,.slice none 0 0,.int .i64 0,.int .i64 0,.slice none 0 0,.slice none 0 0,.slice none 0 0]) ?_ 2 _ rfl;refine sM ?_;refine qak (cs:=#[.int .i64 au,.int .i64 0,.slice none 0 0,.int .i64 0,.int .i64 0,.slice none 0 0,.slice none 0 0,.slice none 0 0]) ?_ 1 _ rfl;refine sM ?_;refine qak (cs:=#[.int .i64 0,.int .i64 0,.slice none 0 0,.int .i64 0,.int .i64 0,.slice none 0 0,.slice none 0 0,.slice none 0 0]) ?_ 0 _ rfl;refine sM ?_;exact ah.out) Tryd.underlying39 rfl (by kernel_rfl)) rfl ?_
     exact⟨_,_,_,_,by first|rfl|(simp [qam,qal]<;>rfl)|(simp [bneNil,bneNilU]<;>rfl)|(simp [*,qam,qal]<;>rfl),by refine sVm ?_;exact Kd.V_mono (Kd.V_far (p:=⟨ae,7,none⟩) (Kd.V_far (p:=⟨ae,6,none⟩) (Kd.V_far (p:=⟨ae,5,none⟩) (Kd.V_far (p:=⟨ae,4,none⟩) (Kd.V_far (p:=⟨ae,3,none⟩) (Kd.V_far (p:=⟨ae,2,none⟩) (Kd.V_far (p:=⟨ae,1,none⟩) (Kd.V_far (p:=⟨ae,0,none⟩) (Kd.V_mono aT.out (fun k_ hk=>(⟨hk,hk.2.2.2.2.2.1⟩:_∧k_≠ae))) (fun _ hk=>hk.2) (.int .i64 au)) (fun _ hk=>hk.2) (.int .i64 aw)) (fun _ hk=>hk.2) (.slice aE av.length aG)) (fun _ hk=>hk.2) (.int .i64 ay)) (fun _ hk=>hk.2) (.int .i64 aD)) (fun _ hk=>hk.2) (.slice aN ax.length aQ)) (fun _ hk=>hk.2) (.slice aY az.length aZ)) (fun _ hk=>hk.2) (.slice cv ap.length cw)) (fun _ hk=>⟨hk.1.1,⟨hk.1.2.1,⟨hk.1.2.2.1,hk.1.2.2.2.1⟩⟩⟩),by refine sRm ?_;exact Kd.R_mono (Kd.R_far (p:=⟨ae,7,none⟩) (Kd.R_far (p:=⟨ae,6,none⟩) (Kd.R_far (p:=⟨ae,5,none⟩) (Kd.R_far (p:=⟨ae,4,none⟩) (Kd.R_far (p:=⟨ae,3,none⟩) (Kd.R_far (p:=⟨ae,2,none⟩) (Kd.R_far (p:=⟨ae,1,none⟩) (Kd.R_far (p:=⟨ae,0,none⟩) (Kd.R_types aU.out ah.out (by decide)) (fun _ hk=>hk.2) (.int .i64 au)) (fun _ hk=>hk.2) (.int .i64 aw)) (fun _ hk=>hk.2) (.slice aE av.length aG)) (fun _ hk=>hk.2) (.int .i64 ay)) (fun _ hk=>hk.2) (.int .i64 aD)) (fun _ hk=>hk.2) (.slice aN ax.length aQ)) (fun _ hk=>hk.2) (.slice aY az.length aZ)) (fun _ hk=>hk.2) (.slice cv ap.length cw)) (fun _ hk=>hk.1),by refine sRm ?_;exact Kd.R_mono (Kd.R_far (p:=⟨ae,7,none⟩) (Kd.R_far (p:=⟨ae,6,none⟩) (Kd.R_far (p:=⟨ae,5,none⟩) (Kd.R_far (p:=⟨ae,4,none⟩) (Kd.R_far (p:=⟨ae,3,none⟩) (Kd.R_far (p:=⟨ae,2,none⟩) (Kd.R_far (p:=⟨ae,1,none⟩) (Kd.R_far (p:=⟨ae,0,none⟩) (Kd.R_types aV.out ah.out (by decide)) (fun _ hk=>hk.2) (.int .i64 au)) (fun _ hk=>hk.2) (.int .i64 aw)) (fun _ hk=>hk.2) (.slice aE av.length aG)) (fun _ hk=>hk.2) (.int .i64 ay)) (fun _ hk=>hk.2) (.int .i64 aD)) (fun _ hk=>hk.2) (.slice aN ax.length aQ)) (fun _ hk=>hk.2) (.slice aY az.length aZ)) (fun _ hk=>hk.2) (.slice cv ap.length cw)) (fun _ hk=>hk.1),by refine sRm ?_;exact Kd.R_mono (Kd.R_far (p:=⟨ae,7,none⟩) (Kd.R_far (p:=⟨ae,6,none⟩) (Kd.R_far (p:=⟨ae,5,none⟩) (Kd.R_far (p:=⟨ae,4,none⟩) (Kd.R_far (p:=⟨ae,3,none⟩) (Kd.R_far (p:=⟨ae,2,none⟩) (Kd.R_far (p:=⟨ae,1,none⟩) (Kd.R_far (p:=⟨ae,0,none⟩) (Kd.R_types aq.out ah.out (by decide)) (fun _ hk=>hk.2) (.int .i64 au)) (fun _ hk=>hk.2) (.int .i64 aw)) (fun _ hk=>hk.2) (.slice aE av.length aG)) (fun _ hk=>hk.2) (.int .i64 ay)) (fun _ hk=>hk.2) (.int .i64 aD)) (fun _ hk=>hk.2) (.slice aN ax.length aQ)) (fun _ hk=>hk.2) (.slice aY az.length aZ)) (fun _ hk=>hk.2) (.slice cv ap.length cw)) (fun _ hk=>hk.1),by repeat (first|(with_reducible first|exact HB.out|apply qah|apply qae|apply qag|refine qad ?_ bX.out|refine qad ?_ bY.out|refine qad ?_ bq.out)|exact HB.out)⟩
   ·rw [if_neg cH] at H
    have dc:decide (ak<(aj.length:Int))=false:=decide_eq_false cH
    clear cH
    simp only [Option.some.injEq,Prod.mk.injEq] at H
    obtain⟨rfl,rfl,rfl,rfl,rfl,rfl,rfl,rfl⟩:=H
    have jr:=bC.out
    have js:=bD.out
    have jt:=aa.out
    have ju:=am.out
    obtain⟨gc,ge,gf,gg,gh,gi,gj,gl⟩:=sC8 (w:=wr) ac.out
    obtain⟨gm,gn,go,gp,gq,gr,gt,gu⟩:=sF8 ac.out
    have jv:=an.out
    have jw:=ag.out
    obtain⟨gv,gw,gx,gy,gz,gA,gB,gC⟩:=sC8 (w:=wr) ai.out
    obtain⟨gD,gE,gF,gG,gH,gI,gJ,gK⟩:=sF8 ai.out
    obtain⟨gL,gM,gN,gO,gP,gQ,gR,gS⟩:=sC8 (w:=wr) ah.out
    obtain⟨gT,gU,gV,gW,gX,gY,gZ,hH⟩:=sF8 ah.out
    obtain⟨cx,cy,ii⟩:=Kd.R_slice aq.out
    subst ii
    go_wp2
    refine bodyPost_ret (results_cell_row rfl _ _ ae 39 #[.int .i64 au,.int .i64 aw,.slice aE av.length aG,.int .i64 ay,.int .i64 aD,.slice aN ax.length aQ,.slice aY az.length aZ,.slice cx ap.length cy] (0,0) _ rfl (by refine sM ?_;refine qak (cs:=#[.int .i64 au,.int .i64 aw,.slice aE av.length aG,.int .i64 ay,.int .i64 aD,.slice aN ax.length aQ,.slice aY az.length aZ,.slice none 0 0]) ?_ 7 _ rfl;refine sM ?_;refine qak (cs:=#[.int .i64 au,.int .i64 aw,.slice aE av.length aG,.int .i64 ay,.int .i64 aD,.slice aN ax.length aQ,.slice none 0 0,.slice none 0 0]) ?_ 6 _ rfl;refine sM ?_;refine qak (cs:=#[.int .i64 au,.int .i64 aw,.slice aE av.length aG,.int .i64 ay,.int .i64 aD,.slice none 0 0,.slice none 0 0,.slice none 0 0]) ?_ 5 _ rfl;refine sM ?_;refine qak (cs:=#[.int .i64 au,.int .i64 aw,.slice aE av.length aG,.int .i64 ay,.int .i64 0,.slice none 0 0,.slice none 0 0,.slice none 0 0]) ?_ 4 _ rfl;refine sM ?_;refine qak (cs:=#[.int .i64 au,.int .i64 aw,.slice aE av.length aG,.int .i64 0,.int .i64 0,.slice none 0 0,.slice none 0 0,.slice none 0 0]) ?_ 3 _ rfl;refine sM ?_;refine qak (cs:=#[.int .i64 au,.int .i64 aw,.slice none 0 0,.int .i64 0,.int .i64 0,.slice none 0 0,.slice none 0 0,.slice none 0 0]) ?_ 2 _ rfl;refine sM ?_;refine qak (cs:=#[.int .i64 au,.int .i64 0,.slice none 0 0,.int .i64 0,.int .i64 0,.slice none 0 0,.slice none 0 0,.slice none 0 0]) ?_ 1 _ rfl;refine sM ?_;refine qak (cs:=#[.int .i64 0,.int .i64 0,.slice none 0 0,.int .i64 0,.int .i64 0,.slice none 0 0,.slice none 0 0,.slice none 0 0]) ?_ 0 _ rfl;refine sM ?_;exact ah.out) Tryd.underlying39 rfl (by kernel_rfl)) rfl ?_
    exact⟨_,_,_,_,by first|rfl|(simp [qam,qal]<;>rfl)|(simp [bneNil,bneNilU]<;>rfl)|(simp [*,qam,qal]<;>rfl),by refine sVm ?_;exact Kd.V_mono (Kd.V_far (p:=⟨ae,7,none⟩) (Kd.V_far (p:=⟨ae,6,none⟩) (Kd.V_far (p:=⟨ae,5,none⟩) (Kd.V_far (p:=⟨ae,4,none⟩) (Kd.V_far (p:=⟨ae,3,none⟩) (Kd.V_far (p:=⟨ae,2,none⟩) (Kd.V_far (p:=⟨ae,1,none⟩) (Kd.V_far (p:=⟨ae,0,none⟩) (Kd.V_mono aT.out (fun k_ hk=>(⟨hk,hk.2.2.2.2.2.1⟩:_∧k_≠ae))) (fun _ hk=>hk.2) (.int .i64 au)) (fun _ hk=>hk.2) (.int .i64 aw)) (fun _ hk=>hk.2) (.slice aE av.length aG)) (fun _ hk=>hk.2) (.int .i64 ay)) (fun _ hk=>hk.2) (.int .i64 aD)) (fun _ hk=>hk.2) (.slice aN ax.length aQ)) (fun _ hk=>hk.2) (.slice aY az.length aZ)) (fun _ hk=>hk.2) (.slice cx ap.length cy)) (fun _ hk=>⟨hk.1.1,⟨hk.1.2.1,⟨hk.1.2.2.1,hk.1.2.2.2.1⟩⟩⟩),by refine sRm ?_;exact Kd.R_mono (Kd.R_far (p:=⟨ae,7,none⟩) (Kd.R_far (p:=⟨ae,6,none⟩) (Kd.R_far (p:=⟨ae,5,none⟩) (Kd.R_far (p:=⟨ae,4,none⟩) (Kd.R_far (p:=⟨ae,3,none⟩) (Kd.R_far (p:=⟨ae,2,none⟩) (Kd.R_far (p:=⟨ae,1,none⟩) (Kd.R_far (p:=⟨ae,0,none⟩) (Kd.R_types aU.out ah.out (by decide)) (fun _ hk=>hk.2) (.int .i64 au)) (fun _ hk=>hk.2) (.int .i64 aw)) (fun _ hk=>hk.2) (.slice aE av.length aG)) (fun _ hk=>hk.2) (.int .i64 ay)) (fun _ hk=>hk.2) (.int .i64 aD)) (fun _ hk=>hk.2) (.slice aN ax.length aQ)) (fun _ hk=>hk.2) (.slice aY az.length aZ)) (fun _ hk=>hk.2) (.slice cx ap.length cy)) (fun _ hk=>hk.1),by refine sRm ?_;exact Kd.R_mono (Kd.R_far (p:=⟨ae,7,none⟩) (Kd.R_far (p:=⟨ae,6,none⟩) (Kd.R_far (p:=⟨ae,5,none⟩) (Kd.R_far (p:=⟨ae,4,none⟩) (Kd.R_far (p:=⟨ae,3,none⟩) (Kd.R_far (p:=⟨ae,2,none⟩) (Kd.R_far (p:=⟨ae,1,none⟩) (Kd.R_far (p:=⟨ae,0,none⟩) (Kd.R_types aV.out ah.out (by decide)) (fun _ hk=>hk.2) (.int .i64 au)) (fun _ hk=>hk.2) (.int .i64 aw)) (fun _ hk=>hk.2) (.slice aE av.length aG)) (fun _ hk=>hk.2) (.int .i64 ay)) (fun _ hk=>hk.2) (.int .i64 aD)) (fun _ hk=>hk.2) (.slice aN ax.length aQ)) (fun _ hk=>hk.2) (.slice aY az.length aZ)) (fun _ hk=>hk.2) (.slice cx ap.length cy)) (fun _ hk=>hk.1),by refine sRm ?_;exact Kd.R_mono (Kd.R_far (p:=⟨ae,7,none⟩) (Kd.R_far (p:=⟨ae,6,none⟩) (Kd.R_far (p:=⟨ae,5,none⟩) (Kd.R_far (p:=⟨ae,4,none⟩) (Kd.R_far (p:=⟨ae,3,none⟩) (Kd.R_far (p:=⟨ae,2,none⟩) (Kd.R_far (p:=⟨ae,1,none⟩) (Kd.R_far (p:=⟨ae,0,none⟩) (Kd.R_types aq.out ah.out (by decide)) (fun _ hk=>hk.2) (.int .i64 au)) (fun _ hk=>hk.2) (.int .i64 aw)) (fun _ hk=>hk.2) (.slice aE av.length aG)) (fun _ hk=>hk.2) (.int .i64 ay)) (fun _ hk=>hk.2) (.int .i64 aD)) (fun _ hk=>hk.2) (.slice aN ax.length aQ)) (fun _ hk=>hk.2) (.slice aY az.length aZ)) (fun _ hk=>hk.2) (.slice cx ap.length cy)) (fun _ hk=>hk.1),by repeat (first|(with_reducible first|exact HB.out|apply qah|apply qae|apply qag|refine qad ?_ bX.out|refine qad ?_ bY.out|refine qad ?_ bq.out)|exact HB.out)⟩
end
end Go.Proofs.YtgnaaokhfpfglaaDoor.PCertTold
end
section
namespace Go.Proofs.YtgnaaokhfpfglaaDoor.PCertTold
open Go.RowKit Go.Proofs.YtgnaaokhfpfglaaDoorW.PrintWords Go.Proofs.YtgnaaokhfpfglaaDoorW.PrintLast Go.Proofs.YtgnaaokhfpfglaaDoorW.PrintMore
attribute [local go_sem] qaW qaU qa3 qa2 qaN qaM qaV qaT
set_option linter.unusedVariables false
set_option linter.unusedSimpArgs false
noncomputable section
attribute [local go_sem high] eqA49
def slices_Equal_int_int.l0:Nat→List Int→List Int→Int→Int→Option (Bool)
 |0,_,_,_,_=>none
 |k+1,x0,x1,ac,aa=>if aa<ac then (if 0≤aa then (if aa<(x0.length:Int) then (if aa<(x1.length:Int) then (if (rd x0 aa)=(rd x1 aa) then (slices_Equal_int_int.l0 k x0 x1 ac (ab (aa+1))) else (some false)) else (none)) else (none)) else (none)) else (some true)
def slices_Equal_int_int.f (k:Nat) (l0:List Int) (l1:List Int):Option (Bool):=if (l0.length:Int)=(l1.length:Int) then (slices_Equal_int_int.l0 k l0 l1 (l0.length:Int) 0) else (some false)
theorem slices_Equal_int_int.calls (k:Nat) (A0:Option Addr) (c0:Nat) (l0:List Int) (A1:Option Addr) (c1:Nat) (l1:List Int) (r:Bool) (w:World) (aw:Kd.C (Kd.int .i64) w A0 l0.length l0) (ax:l0.length≤c0) (ay:Kd.C (Kd.int .i64) w A1 l1.length l1) (az:l1.length≤c1) (h:slices_Equal_int_int.f k l0 l1=some r) :
  Calls Tryd.prog 20 #[.slice A0 l0.length c0,.slice A1 l1.length c1] w fun e w'=>e=.returned (.bool r)∧qar w w':=by
 have aA:=qaa.mk aw
 have aJ:=qaa.mk ax
 clear aw ax
 have aC:=qaa.mk ay
 have aK:=qaa.mk az
 clear ay az
 have H:(if (l0.length:Int)=(l1.length:Int) then (slices_Equal_int_int.l0 k l0 l1 (l0.length:Int) 0) else (some false))=some r:=h
 clear h
 by_cases c3:(l0.length:Int)=(l1.length:Int)
 ·rw [if_pos c3] at H
  have ak:((l0.length:Int) == (l1.length:Int))=true:=beq_iff_eq.mpr c3
  have al:((l0.length:Int) != (l1.length:Int))=false:=bne_eq_false_iff_eq.mpr c3
  have am:(l0.length == l1.length)=true:=by first|simpa using c3|(simp at c3 ⊢;omega)
  clear c3
  have H':=qaa.mk H
  clear H
  go_enter Tryd.func20,Tryd.ntmps20
  go_wp2
  repeat (go_quiet (fail);try go_wp2)
  go_loopg [13] k (fun kq aE w'=>∃ (aa:Int),aE=.int .i64 aa∧qaa (slices_Equal_int_int.l0 kq l0 l1 (l0.length:Int) aa=some r)∧qaa (kq≤k)∧qar w w')
  case atStart=>exact⟨(0),(by first|rfl|(simp;done)|(simp [*];done)),H',⟨Nat.le_refl _⟩,by repeat (first|exact qar.refl _|apply qar.step)⟩
  case round=>
   clear H'
   try clear c1
   try clear c2
   try clear p2
   try clear c3
   try clear ak
   try clear al
   try clear am
   obtain⟨aa,rfl,HA,aD,⟨m1,rfl⟩⟩:=hrel
   cases gk with
   |zero=>exact absurd HA.out (by simp [slices_Equal_int_int.l0])
   |succ k1=>
    have H:=HA.out
    clear HA
    simp only [slices_Equal_int_int.l0] at H
    by_cases c4:aa<(l0.length:Int)
    ·rw [if_pos c4] at H
     have aq:decide (aa<(l0.length:Int))=true:=decide_eq_true c4
     clear c4
     by_cases c5:0≤aa
     ·rw [if_pos c5] at H
      have aG:decide (0≤aa)=true:=decide_eq_true c5
      clear c5
      by_cases c6:aa<(l0.length:Int)
      ·rw [if_pos c6] at H
       have aH:decide (aa<(l0.length:Int))=true:=decide_eq_true c6
       clear c6
       by_cases c7:aa<(l1.length:Int)
       ·rw [if_pos c7] at H
        have aI:decide (aa<(l1.length:Int))=true:=decide_eq_true c7
        clear c7
        by_cases c8:(rd l0 aa)=(rd l1 aa)
        ·rw [if_pos c8] at H
         have ar:((rd l0 aa) == (rd l1 aa))=true:=beq_iff_eq.mpr c8
         have au:((rd l0 aa) != (rd l1 aa))=false:=bne_eq_false_iff_eq.mpr c8
         clear c8
         have H':=qaa.mk H
         clear H
         have ab:0≤(aa:Int):=of_decide_eq_true sA
         have ac:aa<(l0.length:Int):=of_decide_eq_true sA
         obtain⟨an,ai,ag⟩:=Kd.at_int aA.out aa ab ac
         cases ai
         replace ab:=eq_true ab
         replace ac:=eq_true ac
         have ae:0≤(aa:Int):=of_decide_eq_true sA
         have af:aa<(l1.length:Int):=of_decide_eq_true sA
         obtain⟨ap,aj,ah⟩:=Kd.at_int aC.out aa ae af
         cases aj
         replace ae:=eq_true ae
         replace af:=eq_true af
         go_wp2
         repeat (go_quiet (fail);try go_wp2)
         go_roundg k1
         case measure=>have:=aD.out;omega
         case rel=>exact⟨(av (aa+1)),(by first|rfl|(simp;done)|(simp [*];done)),H',⟨by have:=aD.out;omega⟩,by repeat (first|exact qar.refl _|apply qar.step)⟩
        ·rw [if_neg c8] at H
         have ar:((rd l0 aa) == (rd l1 aa))=false:=beq_eq_false_iff_ne.mpr c8
         have au:((rd l0 aa) != (rd l1 aa))=true:=bne_iff_ne.mpr c8
         obtain rfl:=Option.some.inj H
         have ab:0≤(aa:Int):=of_decide_eq_true sA
         have ac:aa<(l0.length:Int):=of_decide_eq_true sA
         obtain⟨an,ai,ag⟩:=Kd.at_int aA.out aa ab ac
         cases ai
         replace ab:=eq_true ab
         replace ac:=eq_true ac
         have ae:0≤(aa:Int):=of_decide_eq_true sA
         have af:aa<(l1.length:Int):=of_decide_eq_true sA
         obtain⟨ap,aj,ah⟩:=Kd.at_int aC.out aa ae af
         cases aj
         replace ae:=eq_true ae
         replace af:=eq_true af
         go_wp2
         repeat (go_quiet (fail);try go_wp2)
         go_ret
         exact⟨by first|rfl|(simp;done)|(simp [*];done),by repeat (first|exact qar.refl _|apply qar.step)⟩
       ·rw [if_neg c7] at H
        exact absurd H (by simp)
      ·rw [if_neg c6] at H
       exact absurd H (by simp)
     ·rw [if_neg c5] at H
      exact absurd H (by simp)
    ·rw [if_neg c4] at H
     have aq:decide (aa<(l0.length:Int))=false:=decide_eq_false c4
     clear c4
     obtain rfl:=Option.some.inj H
     go_wp2
     repeat (go_quiet (fail);try go_wp2)
     go_ret
     exact⟨by first|rfl|(simp;done)|(simp [*];done),by repeat (first|exact qar.refl _|apply qar.step)⟩
 ·rw [if_neg c3] at H
  have ak:((l0.length:Int) == (l1.length:Int))=false:=beq_eq_false_iff_ne.mpr c3
  have al:((l0.length:Int) != (l1.length:Int))=true:=bne_iff_ne.mpr c3
  have am:(l0.length == l1.length)=false:=by first|simpa using c3|(simp at c3 ⊢;omega)
  obtain rfl:=Option.some.inj H
  go_enter Tryd.func20,Tryd.ntmps20
  go_wp2
  repeat (go_quiet (fail);try go_wp2)
  go_ret
  exact⟨by first|rfl|(simp;done)|(simp [*];done),by repeat (first|exact qar.refl _|apply qar.step)⟩
def slices_Equal_int64_int64.l0:Nat→List Int→List Int→Int→Int→Option (Bool)
 |0,_,_,_,_=>none
 |k+1,x0,x1,ac,aa=>if aa<ac then (if 0≤aa then (if aa<(x0.length:Int) then (if aa<(x1.length:Int) then (if (rd x0 aa)=(rd x1 aa) then (slices_Equal_int64_int64.l0 k x0 x1 ac (ab (aa+1))) else (some false)) else (none)) else (none)) else (none)) else (some true)
def slices_Equal_int64_int64.f (k:Nat) (l0:List Int) (l1:List Int):Option (Bool):=if (l0.length:Int)=(l1.length:Int) then (slices_Equal_int64_int64.l0 k l0 l1 (l0.length:Int) 0) else (some false)
theorem slices_Equal_int64_int64.calls (k:Nat) (A0:Option Addr) (c0:Nat) (l0:List Int) (A1:Option Addr) (c1:Nat) (l1:List Int) (r:Bool) (w:World) (aw:Kd.C (Kd.int .i64) w A0 l0.length l0) (ax:l0.length≤c0) (ay:Kd.C (Kd.int .i64) w A1 l1.length l1) (az:l1.length≤c1) (h:slices_Equal_int64_int64.f k l0 l1=some r) :
  Calls Tryd.prog 21 #[.slice A0 l0.length c0,.slice A1 l1.length c1] w fun e w'=>e=.returned (.bool r)∧qar w w':=by
 have aA:=qaa.mk aw
 have aJ:=qaa.mk ax
 clear aw ax
 have aC:=qaa.mk ay
 have aK:=qaa.mk az
 clear ay az
 have H:(if (l0.length:Int)=(l1.length:Int) then (slices_Equal_int64_int64.l0 k l0 l1 (l0.length:Int) 0) else (some false))=some r:=h
 clear h
 by_cases c3:(l0.length:Int)=(l1.length:Int)
 ·rw [if_pos c3] at H
  have ak:((l0.length:Int) == (l1.length:Int))=true:=beq_iff_eq.mpr c3
  have al:((l0.length:Int) != (l1.length:Int))=false:=bne_eq_false_iff_eq.mpr c3
  have am:(l0.length == l1.length)=true:=by first|simpa using c3|(simp at c3 ⊢;omega)
  clear c3
  have H':=qaa.mk H
  clear H
  go_enter Tryd.func21,Tryd.ntmps21
  go_wp2
  repeat (go_quiet (fail);try go_wp2)
  go_loopg [13] k (fun kq aE w'=>∃ (aa:Int),aE=.int .i64 aa∧qaa (slices_Equal_int64_int64.l0 kq l0 l1 (l0.length:Int) aa=some r)∧qaa (kq≤k)∧qar w w')
  case atStart=>exact⟨(0),(by first|rfl|(simp;done)|(simp [*];done)),H',⟨Nat.le_refl _⟩,by repeat (first|exact qar.refl _|apply qar.step)⟩
  case round=>
   clear H'
   try clear c1
   try clear c2
   try clear p2
   try clear c3
   try clear ak
   try clear al
   try clear am
   obtain⟨aa,rfl,HA,aD,⟨m1,rfl⟩⟩:=hrel
   cases gk with
   |zero=>exact absurd HA.out (by simp [slices_Equal_int64_int64.l0])
   |succ k1=>
    have H:=HA.out
    clear HA
    simp only [slices_Equal_int64_int64.l0] at H
    by_cases c4:aa<(l0.length:Int)
    ·rw [if_pos c4] at H
     have aq:decide (aa<(l0.length:Int))=true:=decide_eq_true c4
     clear c4
     by_cases c5:0≤aa
     ·rw [if_pos c5] at H
      have aG:decide (0≤aa)=true:=decide_eq_true c5
      clear c5
      by_cases c6:aa<(l0.length:Int)
      ·rw [if_pos c6] at H
       have aH:decide (aa<(l0.length:Int))=true:=decide_eq_true c6
       clear c6
       by_cases c7:aa<(l1.length:Int)
       ·rw [if_pos c7] at H
        have aI:decide (aa<(l1.length:Int))=true:=decide_eq_true c7
        clear c7
        by_cases c8:(rd l0 aa)=(rd l1 aa)
        ·rw [if_pos c8] at H
         have ar:((rd l0 aa) == (rd l1 aa))=true:=beq_iff_eq.mpr c8
         have au:((rd l0 aa) != (rd l1 aa))=false:=bne_eq_false_iff_eq.mpr c8
         clear c8
         have H':=qaa.mk H
         clear H
         have ab:0≤(aa:Int):=of_decide_eq_true sA
         have ac:aa<(l0.length:Int):=of_decide_eq_true sA
         obtain⟨an,ai,ag⟩:=Kd.at_int aA.out aa ab ac
         cases ai
         replace ab:=eq_true ab
         replace ac:=eq_true ac
         have ae:0≤(aa:Int):=of_decide_eq_true sA
         have af:aa<(l1.length:Int):=of_decide_eq_true sA
         obtain⟨ap,aj,ah⟩:=Kd.at_int aC.out aa ae af
         cases aj
         replace ae:=eq_true ae
         replace af:=eq_true af
         go_wp2
         repeat (go_quiet (fail);try go_wp2)
         go_roundg k1
         case measure=>have:=aD.out;omega
         case rel=>exact⟨(av (aa+1)),(by first|rfl|(simp;done)|(simp [*];done)),H',⟨by have:=aD.out;omega⟩,by repeat (first|exact qar.refl _|apply qar.step)⟩
        ·rw [if_neg c8] at H
         have ar:((rd l0 aa) == (rd l1 aa))=false:=beq_eq_false_iff_ne.mpr c8
         have au:((rd l0 aa) != (rd l1 aa))=true:=bne_iff_ne.mpr c8
         obtain rfl:=Option.some.inj H
         have ab:0≤(aa:Int):=of_decide_eq_true sA
         have ac:aa<(l0.length:Int):=of_decide_eq_true sA
         obtain⟨an,ai,ag⟩:=Kd.at_int aA.out aa ab ac
         cases ai
         replace ab:=eq_true ab
         replace ac:=eq_true ac
         have ae:0≤(aa:Int):=of_decide_eq_true sA
         have af:aa<(l1.length:Int):=of_decide_eq_true sA
         obtain⟨ap,aj,ah⟩:=Kd.at_int aC.out aa ae af
         cases aj
         replace ae:=eq_true ae
         replace af:=eq_true af
         go_wp2
         repeat (go_quiet (fail);try go_wp2)
         go_ret
         exact⟨by first|rfl|(simp;done)|(simp [*];done),by repeat (first|exact qar.refl _|apply qar.step)⟩
       ·rw [if_neg c7] at H
        exact absurd H (by simp)
      ·rw [if_neg c6] at H
       exact absurd H (by simp)
     ·rw [if_neg c5] at H
      exact absurd H (by simp)
    ·rw [if_neg c4] at H
     have aq:decide (aa<(l0.length:Int))=false:=decide_eq_false c4
     clear c4
     obtain rfl:=Option.some.inj H
     go_wp2
     repeat (go_quiet (fail);try go_wp2)
     go_ret
     exact⟨by first|rfl|(simp;done)|(simp [*];done),by repeat (first|exact qar.refl _|apply qar.step)⟩
 ·rw [if_neg c3] at H
  have ak:((l0.length:Int) == (l1.length:Int))=false:=beq_eq_false_iff_ne.mpr c3
  have al:((l0.length:Int) != (l1.length:Int))=true:=bne_iff_ne.mpr c3
  have am:(l0.length == l1.length)=false:=by first|simpa using c3|(simp at c3 ⊢;omega)
  obtain rfl:=Option.some.inj H
  go_enter Tryd.func21,Tryd.ntmps21
  go_wp2
  repeat (go_quiet (fail);try go_wp2)
  go_ret
  exact⟨by first|rfl|(simp;done)|(simp [*];done),by repeat (first|exact qar.refl _|apply qar.step)⟩
def tasks_SameTask.f (k:Nat) (aa:Int) (ab:Int) (ac:Int) (ae:Int) (af:Int) (ag:List Int) (ah:List Int) (ai:Int) (aj:Int) (ak:Int) (al:Int) (am:Int) (an:List Int) (ap:List Int):Option (Bool):=if aa=ai then (if ab=aj then (if ac=ak then (if ae=al then (if af=am then ((slices_Equal_int64_int64.f k ag an).bind fun aq=>(if aq=true then ((slices_Equal_int_int.f k ah ap).bind fun ar=>(some ar)) else (some false))) else (some false)) else (some false)) else (some false)) else (some false)) else (some false)
theorem tasks_SameTask.calls (k:Nat) (al:Int) (am:Int) (an:Int) (ap:Int) (aq:Int) (A0_5:Option Addr) (c0_5:Nat) (ar:List Int) (A0_6:Option Addr) (c0_6:Nat) (aj:List Int) (au:Int) (av:Int) (aw:Int) (ax:Int) (ay:Int) (aD:Option Addr) (aE:Nat) (az:List Int) (aG:Option Addr) (aH:Nat) (ak:List Int) (r:Bool) (w:World) (hr0_5:Kd.C (Kd.int .i64) w A0_5 ar.length ar) (hc0_5:ar.length≤c0_5) (hr0_6:Kd.C (Kd.int .i64) w A0_6 aj.length aj) (hc0_6:aj.length≤c0_6) (aT:Kd.C (Kd.int .i64) w aD az.length az) (aU:az.length≤aE) (aV:Kd.C (Kd.int .i64) w aG ak.length ak) (aW:ak.length≤aH) (h:tasks_SameTask.f k al am an ap aq ar aj au av aw ax ay az ak=some r) :
  Calls Tryd.prog 42 #[.agg #[.int .i64 al,.int .i64 am,.int .i64 an,.int .i64 ap,.int .i64 aq,.slice A0_5 ar.length c0_5,.slice A0_6 aj.length c0_6],.agg #[.int .i64 au,.int .i64 av,.int .i64 aw,.int .i64 ax,.int .i64 ay,.slice aD az.length aE,.slice aG ak.length aH]] w fun e w'=>e=.returned (.bool r)∧Below w.heap.size w w':=by
 have ga:=Tryd.underlying53
 have aX:=qaa.mk hr0_5
 have aY:=qaa.mk hc0_5
 clear hr0_5 hc0_5
 have ba:=qaa.mk hr0_6
 have be:=qaa.mk hc0_6
 clear hr0_6 hc0_6
 have aZ:=qaa.mk aT
 have a8:=qaa.mk aU
 clear aT aU
 have bf:=qaa.mk aV
 have bg:=qaa.mk aW
 clear aV aW
 have HB:=qaa.mk (Below.refl w.heap.size w)
 have H:(if al=au then (if am=av then (if an=aw then (if ap=ax then (if aq=ay then ((slices_Equal_int64_int64.f k ar az).bind fun aQ=>(if aQ=true then ((slices_Equal_int_int.f k aj ak).bind fun aI=>(some aI)) else (some false))) else (some false)) else (some false)) else (some false)) else (some false)) else (some false))=some r:=h
 clear h
 by_cases c3:al=au
 ·rw [if_pos c3] at H
  have fu:(al == au)=true:=beq_iff_eq.mpr c3
  have fv:(al != au)=false:=bne_eq_false_iff_eq.mpr c3
  clear c3
  by_cases c4:am=av
  ·rw [if_pos c4] at H
   have fw:(am == av)=true:=beq_iff_eq.mpr c4
   have fx:(am != av)=false:=bne_eq_false_iff_eq.mpr c4
   clear c4
   by_cases c5:an=aw
   ·rw [if_pos c5] at H
    have fy:(an == aw)=true:=beq_iff_eq.mpr c5
    have fz:(an != aw)=false:=bne_eq_false_iff_eq.mpr c5
    clear c5
    by_cases c6:ap=ax
    ·rw [if_pos c6] at H
     have fA:(ap == ax)=true:=beq_iff_eq.mpr c6
     have fB:(ap != ax)=false:=bne_eq_false_iff_eq.mpr c6
     clear c6
     by_cases c7:aq=ay
     ·rw [if_pos c7] at H
      have fC:(aq == ay)=true:=beq_iff_eq.mpr c7
      have fD:(aq != ay)=false:=bne_eq_false_iff_eq.mpr c7
      clear c7
      replace H:=Option.bind_eq_some_iff.mp H
      obtain⟨aQ,fE,H⟩:=H
      replace H:(if aQ=true then ((slices_Equal_int_int.f k aj ak).bind fun aI=>(some aI)) else (some false))=some r:=H
      have A8:=qaa.mk fE
      clear fE
      by_cases c9:aQ=true
      ·subst c9
       have H1:((slices_Equal_int_int.f k aj ak).bind fun aI=>(some aI))=some r:=by rw [if_pos rfl] at H;exact H
       clear H
       have H:=H1
       clear H1
       replace H:=Option.bind_eq_some_iff.mp H
       obtain⟨aI,bh,H⟩:=H
       replace H:(some aI)=some r:=H
       have gb:=qaa.mk bh
       clear bh
       obtain rfl:=Option.some.inj H
       go_enter Tryd.func42,Tryd.ntmps42
       go_wp2_with (first|((with_reducible refine qap (N:=2) rfl ?_);refine qao ?hg (N:=2) ?hd (cs:=#[.int .i64 al,.int .i64 am,.int .i64 an,.int .i64 ap,.int .i64 aq,.slice A0_5 ar.length c0_5,.slice A0_6 aj.length c0_6]) (t:=53) ?hr ?_;(case hd=>rfl);(case hg=>rfl);(case hr=>first|(go_simp;done)|(go_simp;rfl));intro ab hg gc hbox hb;have aa:=qaa.mk (hbox);have aA:=qaa.mk ((by rw [hg];exact (qac sB):w.heap.size≤ab));have ah:=qaa.mk ((by rw [hg];exact (qac sB):w.heap.size≤ab));replace HB:=qaa.mk (qai sB hb);clear hb hbox hg)|((with_reducible refine qap (N:=3) rfl ?_);refine qao ?hg (N:=3) ?hd (cs:=#[.int .i64 au,.int .i64 av,.int .i64 aw,.int .i64 ax,.int .i64 ay,.slice aD az.length aE,.slice aG ak.length aH]) (t:=53) ?hr ?_;(case hd=>rfl);(case hg=>rfl);(case hr=>first|(go_simp;done)|(go_simp;rfl));intro ac hg fF hbox hb;have ag:=qaa.mk (hbox);have aC:=qaa.mk ((by rw [hg];exact (qac sB):w.heap.size≤ac));have ai:=qaa.mk ((by rw [hg];exact (qac sB):w.heap.size≤ac));replace HB:=qaa.mk (qai sB hb);have ae:=qaa.mk ((by rw [hg];exact Nat.ne_of_lt (sLt aa.out):ab≠ac));have af:=qaa.mk ((by rw [hg];exact Nat.ne_of_gt (sLt aa.out):ac≠ab));replace aa:=qaa.mk (sKb aa.out hb);clear hb hbox hg;have fG:=ae.out;have fH:=af.out;obtain⟨bi,bj,bm,bn,bp,bq,bt⟩:=sC7 (w:=fF) aa.out;obtain⟨bv,bw,bx,bz,bB,bC,bD⟩:=sF7 aa.out;obtain⟨bE,bF,bG,bH,bI,bJ,bK⟩:=sC7 (w:=fF) ag.out;obtain⟨bL,bM,bN,bO,bP,bQ,bR⟩:=sF7 ag.out)|(go_at_call 21;(with_reducible refine (slices_Equal_int64_int64.calls k _ _ ar _ _ az true _ ?aJ ?aK ?aM ?aN A8.out).mono ?_);(case aJ=>repeat (first|exact (Kd.C_below aX.out HB.out)|(with_reducible refine Kd.C_alloc ?_ _)|(with_reducible refine Kd.C_drewN ?_ _)|(with_reducible refine Kd.C_drew ?_)));(case aK=>exact aY.out);(case aM=>repeat (first|exact (Kd.C_below aZ.out HB.out)|(with_reducible refine Kd.C_alloc ?_ _)|(with_reducible refine Kd.C_drewN ?_ _)|(with_reducible refine Kd.C_drew ?_)));(case aN=>exact a8.out);rintro e w' ⟨rfl,⟨nd,rfl⟩⟩)|(go_at_call 20;(with_reducible refine (slices_Equal_int_int.calls k _ _ aj _ _ ak aI _ ?aJ ?aK ?aM ?aN gb.out).mono ?_);(case aJ=>repeat (first|exact (Kd.C_below ba.out sB)|(with_reducible refine Kd.C_alloc ?_ _)|(with_reducible refine Kd.C_drewN ?_ _)|(with_reducible refine Kd.C_drew ?_)));(case aK=>exact be.out);(case aM=>repeat (first|exact (Kd.C_below bf.out sB)|(with_reducible refine Kd.C_alloc ?_ _)|(with_reducible refine Kd.C_drewN ?_ _)|(with_reducible refine Kd.C_drew ?_)));(case aN=>exact bg.out);rintro e w' ⟨rfl,⟨nd,rfl⟩⟩))
       go_ret
       exact⟨by first|rfl|(simp [qam,qal]<;>rfl)|(simp [bneNil,bneNilU]<;>rfl)|(simp [*,qam,qal]<;>rfl),by repeat (first|(with_reducible first|exact HB.out|apply qah|apply qae|apply qag|refine qad ?_ ah.out|refine qad ?_ ai.out)|exact HB.out)⟩
      ·replace c9:=Bool.eq_false_iff.mpr c9
       subst c9
       have H1:(some false)=some r:=by rw [if_neg (show ¬ (false=true) by decide)] at H;exact H
       clear H
       have H:=H1
       clear H1
       obtain rfl:=Option.some.inj H
       go_enter Tryd.func42,Tryd.ntmps42
       go_wp2_with (first|((with_reducible refine qap (N:=2) rfl ?_);refine qao ?hg (N:=2) ?hd (cs:=#[.int .i64 al,.int .i64 am,.int .i64 an,.int .i64 ap,.int .i64 aq,.slice A0_5 ar.length c0_5,.slice A0_6 aj.length c0_6]) (t:=53) ?hr ?_;(case hd=>rfl);(case hg=>rfl);(case hr=>first|(go_simp;done)|(go_simp;rfl));intro ab hg ge hbox hb;have aa:=qaa.mk (hbox);have aA:=qaa.mk ((by rw [hg];exact (qac sB):w.heap.size≤ab));have ah:=qaa.mk ((by rw [hg];exact (qac sB):w.heap.size≤ab));replace HB:=qaa.mk (qai sB hb);clear hb hbox hg)|((with_reducible refine qap (N:=3) rfl ?_);refine qao ?hg (N:=3) ?hd (cs:=#[.int .i64 au,.int .i64 av,.int .i64 aw,.int .i64 ax,.int .i64 ay,.slice aD az.length aE,.slice aG ak.length aH]) (t:=53) ?hr ?_;(case hd=>rfl);(case hg=>rfl);(case hr=>first|(go_simp;done)|(go_simp;rfl));intro ac hg fI hbox hb;have ag:=qaa.mk (hbox);have aC:=qaa.mk ((by rw [hg];exact (qac sB):w.heap.size≤ac));have ai:=qaa.mk ((by rw [hg];exact (qac sB):w.heap.size≤ac));replace HB:=qaa.mk (qai sB hb);have ae:=qaa.mk ((by rw [hg];exact Nat.ne_of_lt (sLt aa.out):ab≠ac));have af:=qaa.mk ((by rw [hg];exact Nat.ne_of_gt (sLt aa.out):ac≠ab));replace aa:=qaa.mk (sKb aa.out hb);clear hb hbox hg;have fJ:=ae.out;have fK:=af.out;obtain⟨bS,bT,bU,bV,bW,bX,bY⟩:=sC7 (w:=fI) aa.out;obtain⟨bZ,b8,b9,ca,cb,ce,cf⟩:=sF7 aa.out;obtain⟨cg,cj,ck,cm,co,cp,cq⟩:=sC7 (w:=fI) ag.out;obtain⟨cr,ct,cu,cv,cw,cx,cy⟩:=sF7 ag.out)|(go_at_call 21;(with_reducible refine (slices_Equal_int64_int64.calls k _ _ ar _ _ az false _ ?aJ ?aK ?aM ?aN A8.out).mono ?_);(case aJ=>repeat (first|exact (Kd.C_below aX.out HB.out)|(with_reducible refine Kd.C_alloc ?_ _)|(with_reducible refine Kd.C_drewN ?_ _)|(with_reducible refine Kd.C_drew ?_)));(case aK=>exact aY.out);(case aM=>repeat (first|exact (Kd.C_below aZ.out HB.out)|(with_reducible refine Kd.C_alloc ?_ _)|(with_reducible refine Kd.C_drewN ?_ _)|(with_reducible refine Kd.C_drew ?_)));(case aN=>exact a8.out);rintro e w' ⟨rfl,⟨nd,rfl⟩⟩))
       go_ret
       exact⟨by first|rfl|(simp [qam,qal]<;>rfl)|(simp [bneNil,bneNilU]<;>rfl)|(simp [*,qam,qal]<;>rfl),by repeat (first|(with_reducible first|exact HB.out|apply qah|apply qae|apply qag|refine qad ?_ ah.out|refine qad ?_ ai.out)|exact HB.out)⟩
     ·rw [if_neg c7] at H
      have fC:(aq == ay)=false:=beq_eq_false_iff_ne.mpr c7
      have fD:(aq != ay)=true:=bne_iff_ne.mpr c7
      obtain rfl:=Option.some.inj H
      go_enter Tryd.func42,Tryd.ntmps42
      go_wp2_with (first|((with_reducible refine qap (N:=2) rfl ?_);refine qao ?hg (N:=2) ?hd (cs:=#[.int .i64 al,.int .i64 am,.int .i64 an,.int .i64 ap,.int .i64 aq,.slice A0_5 ar.length c0_5,.slice A0_6 aj.length c0_6]) (t:=53) ?hr ?_;(case hd=>rfl);(case hg=>rfl);(case hr=>first|(go_simp;done)|(go_simp;rfl));intro ab hg gf hbox hb;have aa:=qaa.mk (hbox);have aA:=qaa.mk ((by rw [hg];exact (qac sB):w.heap.size≤ab));have ah:=qaa.mk ((by rw [hg];exact (qac sB):w.heap.size≤ab));replace HB:=qaa.mk (qai sB hb);clear hb hbox hg)|((with_reducible refine qap (N:=3) rfl ?_);refine qao ?hg (N:=3) ?hd (cs:=#[.int .i64 au,.int .i64 av,.int .i64 aw,.int .i64 ax,.int .i64 ay,.slice aD az.length aE,.slice aG ak.length aH]) (t:=53) ?hr ?_;(case hd=>rfl);(case hg=>rfl);(case hr=>first|(go_simp;done)|(go_simp;rfl));intro ac hg fL hbox hb;have ag:=qaa.mk (hbox);have aC:=qaa.mk ((by rw [hg];exact (qac sB):w.heap.size≤ac));have ai:=qaa.mk ((by rw [hg];exact (qac sB):w.heap.size≤ac));replace HB:=qaa.mk (qai sB hb);have ae:=qaa.mk ((by rw [hg];exact Nat.ne_of_lt (sLt aa.out):ab≠ac));have af:=qaa.mk ((by rw [hg];exact Nat.ne_of_gt (sLt aa.out):ac≠ab));replace aa:=qaa.mk (sKb aa.out hb);clear hb hbox hg;have fM:=ae.out;have fN:=af.out;obtain⟨cz,cA,cB,cC,cD,cE,cF⟩:=sC7 (w:=fL) aa.out;obtain⟨cG,cH,cI,cJ,cK,cL,cM⟩:=sF7 aa.out;obtain⟨cN,cO,cP,cQ,cR,cS,cT⟩:=sC7 (w:=fL) ag.out;obtain⟨cU,cV,cW,cX,cY,cZ,da⟩:=sF7 ag.out))
      go_ret
      exact⟨by first|rfl|(simp [qam,qal]<;>rfl)|(simp [bneNil,bneNilU]<;>rfl)|(simp [*,qam,qal]<;>rfl),by repeat (first|(with_reducible first|exact HB.out|apply qah|apply qae|apply qag|refine qad ?_ ah.out|refine qad ?_ ai.out)|exact HB.out)⟩
    ·rw [if_neg c6] at H
     have fA:(ap == ax)=false:=beq_eq_false_iff_ne.mpr c6
     have fB:(ap != ax)=true:=bne_iff_ne.mpr c6
     obtain rfl:=Option.some.inj H
     go_enter Tryd.func42,Tryd.ntmps42
     go_wp2_with (first|((with_reducible refine qap (N:=2) rfl ?_);refine qao ?hg (N:=2) ?hd (cs:=#[.int .i64 al,.int .i64 am,.int .i64 an,.int .i64 ap,.int .i64 aq,.slice A0_5 ar.length c0_5,.slice A0_6 aj.length c0_6]) (t:=53) ?hr ?_;(case hd=>rfl);(case hg=>rfl);(case hr=>first|(go_simp;done)|(go_simp;rfl));intro ab hg gg hbox hb;have aa:=qaa.mk (hbox);have aA:=qaa.mk ((by rw [hg];exact (qac sB):w.heap.size≤ab));have ah:=qaa.mk ((by rw [hg];exact (qac sB):w.heap.size≤ab));replace HB:=qaa.mk (qai sB hb);clear hb hbox hg)|((with_reducible refine qap (N:=3) rfl ?_);refine qao ?hg (N:=3) ?hd (cs:=#[.int .i64 au,.int .i64 av,.int .i64 aw,.int .i64 ax,.int .i64 ay,.slice aD az.length aE,.slice aG ak.length aH]) (t:=53) ?hr ?_;(case hd=>rfl);(case hg=>rfl);(case hr=>first|(go_simp;done)|(go_simp;rfl));intro ac hg fO hbox hb;have ag:=qaa.mk (hbox);have aC:=qaa.mk ((by rw [hg];exact (qac sB):w.heap.size≤ac));have ai:=qaa.mk ((by rw [hg];exact (qac sB):w.heap.size≤ac));replace HB:=qaa.mk (qai sB hb);have ae:=qaa.mk ((by rw [hg];exact Nat.ne_of_lt (sLt aa.out):ab≠ac));have af:=qaa.mk ((by rw [hg];exact Nat.ne_of_gt (sLt aa.out):ac≠ab));replace aa:=qaa.mk (sKb aa.out hb);clear hb hbox hg;have fP:=ae.out;have fQ:=af.out;obtain⟨db,dc,dd,de,df,dg,dh⟩:=sC7 (w:=fO) aa.out;obtain⟨di,dj,dk,dl,dm,dn,dp⟩:=sF7 aa.out;obtain⟨dq,dr,du,dv,dw,dx,dy⟩:=sC7 (w:=fO) ag.out;obtain⟨dz,dA,dB,dC,dD,dE,dF⟩:=sF7 ag.out))
     go_ret
     exact⟨by first|rfl|(simp [qam,qal]<;>rfl)|(simp [bneNil,bneNilU]<;>rfl)|(simp [*,qam,qal]<;>rfl),by repeat (first|(with_reducible first|exact HB.out|apply qah|apply qae|apply qag|refine qad ?_ ah.out|refine qad ?_ ai.out)|exact HB.out)⟩
   ·rw [if_neg c5] at H
    have fy:(an == aw)=false:=beq_eq_false_iff_ne.mpr c5
    have fz:(an != aw)=true:=bne_iff_ne.mpr c5
    obtain rfl:=Option.some.inj H
    go_enter Tryd.func42,Tryd.ntmps42
    go_wp2_with (first|((with_reducible refine qap (N:=2) rfl ?_);refine qao ?hg (N:=2) ?hd (cs:=#[.int .i64 al,.int .i64 am,.int .i64 an,.int .i64 ap,.int .i64 aq,.slice A0_5 ar.length c0_5,.slice A0_6 aj.length c0_6]) (t:=53) ?hr ?_;(case hd=>rfl);(case hg=>rfl);(case hr=>first|(go_simp;done)|(go_simp;rfl));intro ab hg gh hbox hb;have aa:=qaa.mk (hbox);have aA:=qaa.mk ((by rw [hg];exact (qac sB):w.heap.size≤ab));have ah:=qaa.mk ((by rw [hg];exact (qac sB):w.heap.size≤ab));replace HB:=qaa.mk (qai sB hb);clear hb hbox hg)|((with_reducible refine qap (N:=3) rfl ?_);refine qao ?hg (N:=3) ?hd (cs:=#[.int .i64 au,.int .i64 av,.int .i64 aw,.int .i64 ax,.int .i64 ay,.slice aD az.length aE,.slice aG ak.length aH]) (t:=53) ?hr ?_;(case hd=>rfl);(case hg=>rfl);(case hr=>first|(go_simp;done)|(go_simp;rfl));intro ac hg fR hbox hb;have ag:=qaa.mk (hbox);have aC:=qaa.mk ((by rw [hg];exact (qac sB):w.heap.size≤ac));have ai:=qaa.mk ((by rw [hg];exact (qac sB):w.heap.size≤ac));replace HB:=qaa.mk (qai sB hb);have ae:=qaa.mk ((by rw [hg];exact Nat.ne_of_lt (sLt aa.out):ab≠ac));have af:=qaa.mk ((by rw [hg];exact Nat.ne_of_gt (sLt aa.out):ac≠ab));replace aa:=qaa.mk (sKb aa.out hb);clear hb hbox hg;have fS:=ae.out;have fT:=af.out;obtain⟨dG,dH,dI,dJ,dK,dL,dM⟩:=sC7 (w:=fR) aa.out;obtain⟨dN,dO,dP,dQ,dT,dU,dV⟩:=sF7 aa.out;obtain⟨dW,dX,dY,dZ,d7,d8,d9⟩:=sC7 (w:=fR) ag.out;obtain⟨ea,eb,ec,ed,ef,eg,eh⟩:=sF7 ag.out))
    go_ret
    exact⟨by first|rfl|(simp [qam,qal]<;>rfl)|(simp [bneNil,bneNilU]<;>rfl)|(simp [*,qam,qal]<;>rfl),by repeat (first|(with_reducible first|exact HB.out|apply qah|apply qae|apply qag|refine qad ?_ ah.out|refine qad ?_ ai.out)|exact HB.out)⟩
  ·rw [if_neg c4] at H
   have fw:(am == av)=false:=beq_eq_false_iff_ne.mpr c4
   have fx:(am != av)=true:=bne_iff_ne.mpr c4
   obtain rfl:=Option.some.inj H
   go_enter Tryd.func42,Tryd.ntmps42
   go_wp2_with (first|((with_reducible refine qap (N:=2) rfl ?_);refine qao ?hg (N:=2) ?hd (cs:=#[.int .i64 al,.int .i64 am,.int .i64 an,.int .i64 ap,.int .i64 aq,.slice A0_5 ar.length c0_5,.slice A0_6 aj.length c0_6]) (t:=53) ?hr ?_;(case hd=>rfl);(case hg=>rfl);(case hr=>first|(go_simp;done)|(go_simp;rfl));intro ab hg gi hbox hb;have aa:=qaa.mk (hbox);have aA:=qaa.mk ((by rw [hg];exact (qac sB):w.heap.size≤ab));have ah:=qaa.mk ((by rw [hg];exact (qac sB):w.heap.size≤ab));replace HB:=qaa.mk (qai sB hb);clear hb hbox hg)|((with_reducible refine qap (N:=3) rfl ?_);refine qao ?hg (N:=3) ?hd (cs:=#[.int .i64 au,.int .i64 av,.int .i64 aw,.int .i64 ax,.int .i64 ay,.slice aD az.length aE,.slice aG ak.length aH]) (t:=53) ?hr ?_;(case hd=>rfl);(case hg=>rfl);(case hr=>first|(go_simp;done)|(go_simp;rfl));intro ac hg fU hbox hb;have ag:=qaa.mk (hbox);have aC:=qaa.mk ((by rw [hg];exact (qac sB):w.heap.size≤ac));have ai:=qaa.mk ((by rw [hg];exact (qac sB):w.heap.size≤ac));replace HB:=qaa.mk (qai sB hb);have ae:=qaa.mk ((by rw [hg];exact Nat.ne_of_lt (sLt aa.out):ab≠ac));have af:=qaa.mk ((by rw [hg];exact Nat.ne_of_gt (sLt aa.out):ac≠ab));replace aa:=qaa.mk (sKb aa.out hb);clear hb hbox hg;have fV:=ae.out;have fW:=af.out;obtain⟨ek,el,en,ep,eq,er,es⟩:=sC7 (w:=fU) aa.out;obtain⟨et,eu,ev,ew,ex,ey,ez⟩:=sF7 aa.out;obtain⟨eA,eB,eC,eD,eE,eF,eG⟩:=sC7 (w:=fU) ag.out;obtain⟨eH,eI,eJ,eK,eL,eM,eN⟩:=sF7 ag.out))
   go_ret
   exact⟨by first|rfl|(simp [qam,qal]<;>rfl)|(simp [bneNil,bneNilU]<;>rfl)|(simp [*,qam,qal]<;>rfl),by repeat (first|(with_reducible first|exact HB.out|apply qah|apply qae|apply qag|refine qad ?_ ah.out|refine qad ?_ ai.out)|exact HB.out)⟩
 ·rw [if_neg c3] at H
  have fu:(al == au)=false:=beq_eq_false_iff_ne.mpr c3
  have fv:(al != au)=true:=bne_iff_ne.mpr c3
  obtain rfl:=Option.some.inj H
  go_enter Tryd.func42,Tryd.ntmps42
  go_wp2_with (first|((with_reducible refine qap (N:=2) rfl ?_);refine qao ?hg (N:=2) ?hd (cs:=#[.int .i64 al,.int .i64 am,.int .i64 an,.int .i64 ap,.int .i64 aq,.slice A0_5 ar.length c0_5,.slice A0_6 aj.length c0_6]) (t:=53) ?hr ?_;(case hd=>rfl);(case hg=>rfl);(case hr=>first|(go_simp;done)|(go_simp;rfl));intro ab hg gj hbox hb;have aa:=qaa.mk (hbox);have aA:=qaa.mk ((by rw [hg];exact (qac sB):w.heap.size≤ab));have ah:=qaa.mk ((by rw [hg];exact (qac sB):w.heap.size≤ab));replace HB:=qaa.mk (qai sB hb);clear hb hbox hg)|((with_reducible refine qap (N:=3) rfl ?_);refine qao ?hg (N:=3) ?hd (cs:=#[.int .i64 au,.int .i64 av,.int .i64 aw,.int .i64 ax,.int .i64 ay,.slice aD az.length aE,.slice aG ak.length aH]) (t:=53) ?hr ?_;(case hd=>rfl);(case hg=>rfl);(case hr=>first|(go_simp;done)|(go_simp;rfl));intro ac hg fX hbox hb;have ag:=qaa.mk (hbox);have aC:=qaa.mk ((by rw [hg];exact (qac sB):w.heap.size≤ac));have ai:=qaa.mk ((by rw [hg];exact (qac sB):w.heap.size≤ac));replace HB:=qaa.mk (qai sB hb);have ae:=qaa.mk ((by rw [hg];exact Nat.ne_of_lt (sLt aa.out):ab≠ac));have af:=qaa.mk ((by rw [hg];exact Nat.ne_of_gt (sLt aa.out):ac≠ab));replace aa:=qaa.mk (sKb aa.out hb);clear hb hbox hg;have fY:=ae.out;have fZ:=af.out;obtain⟨eO,eP,eQ,eR,eS,eT,eU⟩:=sC7 (w:=fX) aa.out;obtain⟨eV,eW,eX,eY,eZ,fa,fb⟩:=sF7 aa.out;obtain⟨fc,fe,ff,fg,fh,fi,fj⟩:=sC7 (w:=fX) ag.out;obtain⟨fk,fl,fm,fo,fp,fq,ft⟩:=sF7 ag.out))
  go_ret
  exact⟨by first|rfl|(simp [qam,qal]<;>rfl)|(simp [bneNil,bneNilU]<;>rfl)|(simp [*,qam,qal]<;>rfl),by repeat (first|(with_reducible first|exact HB.out|apply qah|apply qae|apply qag|refine qad ?_ ah.out|refine qad ?_ ai.out)|exact HB.out)⟩
def sameO (k:Nat) (x y:Tk):Option Bool:=tasks_SameTask.f k x.id x.c x.d x.t x.p x.ch x.us y.id y.c y.d y.t y.p y.ch y.us
def sameP (k:Nat) (x y:Tk):Bool:=(sameO k x y).getD false
def sameGo (k:Nat):List Tk→List Tk→Option Bool
 |x::r,y::q=>(sameO k x y).bind fun b=>(sameGo k r q).bind fun c=>some (b && c)
 |_,_=>some true
theorem sameGo_all (k:Nat):∀ (L M:List Tk) (b:Bool),L.length=M.length→sameGo k L M=some b→(∀ i (h:i<L.length) (h':i<M.length),sameO k L[i] M[i]=some (sameP k L[i] M[i]))∧b=allG (sameP k) L M:=by
 intro L
 induction L with
 |nil=>intro M b _ h;exact⟨fun i hi=>absurd hi (Nat.not_lt_zero _),by cases M<;>exact (Option.some.inj h).symm⟩
 |cons x r ih=>
  intro M b hl h
  cases M with
  |nil=>simp at hl
  |cons y q=>
   rw [sameGo] at h
   obtain⟨c,hc,h⟩:=Option.bind_eq_some_iff.1 h
   obtain⟨d,hd,h⟩:=Option.bind_eq_some_iff.1 h
   obtain rfl:=Option.some.inj h
   obtain⟨h1,rfl⟩:=ih q d (by simpa using hl) hd
   have hx:sameP k x y=c:=by unfold sameP;rw [hc];rfl
   refine⟨fun i hi hi'=>?_,by rw [allG,hx]⟩
   cases i with
   |zero=>show sameO k x y=some (sameP k x y);rw [hx,hc]
   |succ i=>exact h1 i (by simpa using hi) (by simpa using hi')
def api_Task.f (k:Nat) (l0 l1:List S53) (_:ByteArray):Option Bool:=if l0.length≤70000 then (if l0.length=l1.length then sameGo k (l0.map tkOf) (l1.map tkOf) else some false) else none
theorem api_Task.calls (k:Nat) (A0:Option Addr) (c0:Nat) (l0:List S53) (A1:Option Addr) (c1:Nat) (l1:List S53) (a2:ByteArray) (r:Bool) (w:World) (aa:Kd.C k53 w A0 l0.length l0) (ag:l0.length≤c0) (ab:Kd.C k53 w A1 l1.length l1) (ah:l1.length≤c1) (h:api_Task.f k l0 l1 a2=some r) :
  Calls Tryd.prog 41 #[.slice A0 l0.length c0,.slice A1 l1.length c1,.func (Fn.func 42) #[] #[]] w fun e w'=>e=.returned (.bool r)∧Below w.heap.size w w':=by
 unfold api_Task.f at h
 split at h
 ·rename_i h1
  have g0':=C_of_tk aa
  have g1':=C_of_tk ab
  have ha:∀ (i:Nat) (hi:i<(l0.map tkOf).length) (hi':i<(l1.map tkOf).length),(l0.length=l1.length→SaysTk (l0.map tkOf)[i] (l1.map tkOf)[i] (sameP k (l0.map tkOf)[i] (l1.map tkOf)[i])):=by
   intro i hi hi' hl
   rw [if_pos hl] at h
   have hs:=(sameGo_all k (l0.map tkOf) (l1.map tkOf) r (by rw [List.length_map,List.length_map];exact hl) h).1 i hi hi'
   intro A5 c5 A6 c6 B5 d5 B6 d6 W p5 p6 p7 p8 p9 ac ae af
   exact tasks_SameTask.calls k _ _ _ _ _ A5 c5 _ A6 c6 _ _ _ _ _ _ B5 d5 _ B6 d6 _ _ W p5 p6 p7 p8 p9 ac ae af hs
  by_cases hl:l0.length=l1.length
  ·have:=eqFunc_any (sameP k) A0 c0 A1 c1 (l0.map tkOf) (l1.map tkOf) w (by rw [List.length_map];exact h1) g0' g1' (fun _ i hi hi'=>ha i hi hi' hl)
   rw [if_pos hl] at h
   have hb:=(sameGo_all k (l0.map tkOf) (l1.map tkOf) r (by rw [List.length_map,List.length_map];exact hl) h).2
   rw [List.length_map,List.length_map,decide_eq_true hl,Bool.true_and,← hb] at this
   exact this
  ·rw [if_neg hl] at h
   obtain rfl:=Option.some.inj h
   have:=eqFunc_any (fun _ _=>false) A0 c0 A1 c1 (l0.map tkOf) (l1.map tkOf) w (by rw [List.length_map];exact h1) g0' g1' (fun he=>absurd (by rw [List.length_map,List.length_map] at he;exact he) hl)
   rw [List.length_map,List.length_map,decide_eq_false hl,Bool.false_and] at this
   exact this
 ·cases h
def tasks_Same.f (k:Nat) (aa:Int) (ab:Int) (ac:List (S53)) (ae:Int) (af:Int) (ag:List (S53)):Option (Bool):=if aa=ae then (if ab=af then ((api_Task.f k ac ag (⟨#[70,78,0,42]⟩:ByteArray)).bind fun ah=>(some ah)) else (some false)) else (some false)
theorem tasks_Same.calls (k:Nat) (ah:Int) (ai:Int) (A0_2:Option Addr) (c0_2:Nat) (al:List (S53)) (aj:Int) (ak:Int) (aq:Option Addr) (ar:Nat) (am:List (S53)) (r:Bool) (w:World) (hr0_2:Kd.C k53 w A0_2 al.length al) (hc0_2:al.length≤c0_2) (av:Kd.C k53 w aq am.length am) (aw:am.length≤ar) (h:tasks_Same.f k ah ai al aj ak am=some r) :
  Calls Tryd.prog 19 #[.agg #[.int .i64 ah,.int .i64 ai,.slice A0_2 al.length c0_2],.agg #[.int .i64 aj,.int .i64 ak,.slice aq am.length ar]] w fun e w'=>e=.returned (.bool r)∧Below w.heap.size w w':=by
 have bT:=Tryd.underlying33
 have az:=qaa.mk hr0_2
 have aA:=qaa.mk hc0_2
 clear hr0_2 hc0_2
 have aC:=qaa.mk av
 have aD:=qaa.mk aw
 clear av aw
 have HB:=qaa.mk (Below.refl w.heap.size w)
 have H:(if ah=aj then (if ai=ak then ((api_Task.f k al am (⟨#[70,78,0,42]⟩:ByteArray)).bind fun au=>(some au)) else (some false)) else (some false))=some r:=h
 clear h
 by_cases c3:ah=aj
 ·rw [if_pos c3] at H
  have bC:(ah == aj)=true:=beq_iff_eq.mpr c3
  have bD:(ah != aj)=false:=bne_eq_false_iff_eq.mpr c3
  clear c3
  by_cases c4:ai=ak
  ·rw [if_pos c4] at H
   have bE:(ai == ak)=true:=beq_iff_eq.mpr c4
   have bF:(ai != ak)=false:=bne_eq_false_iff_eq.mpr c4
   clear c4
   replace H:=Option.bind_eq_some_iff.mp H
   obtain⟨au,bM,H⟩:=H
   replace H:(some au)=some r:=H
   have A5:=qaa.mk bM
   clear bM
   obtain rfl:=Option.some.inj H
   go_enter Tryd.func19,Tryd.ntmps19
   go_wp2_with (first|((with_reducible refine qap (N:=2) rfl ?_);refine qao ?hg (N:=2) ?hd (cs:=#[.int .i64 ah,.int .i64 ai,.slice A0_2 al.length c0_2]) (t:=33) ?hr ?_;(case hd=>rfl);(case hg=>rfl);(case hr=>first|(go_simp;done)|(go_simp;rfl));intro ab hg w6 hbox hb;have aa:=qaa.mk (hbox);have ax:=qaa.mk ((by rw [hg];exact (qac sB):w.heap.size≤ab));have an:=qaa.mk ((by rw [hg];exact (qac sB):w.heap.size≤ab));replace HB:=qaa.mk (qai sB hb);clear hb hbox hg)|((with_reducible refine qap (N:=3) rfl ?_);refine qao ?hg (N:=3) ?hd (cs:=#[.int .i64 aj,.int .i64 ak,.slice aq am.length ar]) (t:=33) ?hr ?_;(case hd=>rfl);(case hg=>rfl);(case hr=>first|(go_simp;done)|(go_simp;rfl));intro ac hg w7 hbox hb;have ag:=qaa.mk (hbox);have ay:=qaa.mk ((by rw [hg];exact (qac sB):w.heap.size≤ac));have ap:=qaa.mk ((by rw [hg];exact (qac sB):w.heap.size≤ac));replace HB:=qaa.mk (qai sB hb);have ae:=qaa.mk ((by rw [hg];exact Nat.ne_of_lt (sLt aa.out):ab≠ac));have af:=qaa.mk ((by rw [hg];exact Nat.ne_of_gt (sLt aa.out):ac≠ab));replace aa:=qaa.mk (sKb aa.out hb);clear hb hbox hg;have bU:=ae.out;have bV:=af.out;obtain⟨bG,bH,bI⟩:=sC3 (w:=w7) aa.out;obtain⟨bJ,bK,bL⟩:=sF3 aa.out;obtain⟨aJ,aK,aM⟩:=sC3 (w:=w7) ag.out;obtain⟨aN,aQ,aT⟩:=sF3 ag.out)|(go_at_call 41;(with_reducible refine (api_Task.calls k _ _ al _ _ am (⟨#[70,78,0,42]⟩:ByteArray) au _ ?aE ?aG ?aH ?aI A5.out).mono ?_);(case aE=>repeat (first|exact (Kd.C_below az.out HB.out)|(with_reducible refine Kd.C_alloc ?_ _)|(with_reducible refine Kd.C_drewN ?_ _)|(with_reducible refine Kd.C_drew ?_)));(case aG=>exact aA.out);(case aH=>repeat (first|exact (Kd.C_below aC.out HB.out)|(with_reducible refine Kd.C_alloc ?_ _)|(with_reducible refine Kd.C_drewN ?_ _)|(with_reducible refine Kd.C_drew ?_)));(case aI=>exact aD.out);rintro e bW ⟨rfl,hb⟩;replace aa:=qaa.mk (sKb aa.out hb);replace ag:=qaa.mk (sKb ag.out hb);replace HB:=qaa.mk (qai sB hb);(try clear hb);(try clear bX);(try clear hk);(try clear hi)))
   go_ret
   exact⟨by first|rfl|(simp [qam,qal]<;>rfl)|(simp [bneNil,bneNilU]<;>rfl)|(simp [*,qam,qal]<;>rfl),by repeat (first|(with_reducible first|exact HB.out|apply qah|apply qae|apply qag|refine qad ?_ an.out|refine qad ?_ ap.out)|exact HB.out)⟩
  ·rw [if_neg c4] at H
   have bE:(ai == ak)=false:=beq_eq_false_iff_ne.mpr c4
   have bF:(ai != ak)=true:=bne_iff_ne.mpr c4
   obtain rfl:=Option.some.inj H
   go_enter Tryd.func19,Tryd.ntmps19
   go_wp2_with (first|((with_reducible refine qap (N:=2) rfl ?_);refine qao ?hg (N:=2) ?hd (cs:=#[.int .i64 ah,.int .i64 ai,.slice A0_2 al.length c0_2]) (t:=33) ?hr ?_;(case hd=>rfl);(case hg=>rfl);(case hr=>first|(go_simp;done)|(go_simp;rfl));intro ab hg bY hbox hb;have aa:=qaa.mk (hbox);have ax:=qaa.mk ((by rw [hg];exact (qac sB):w.heap.size≤ab));have an:=qaa.mk ((by rw [hg];exact (qac sB):w.heap.size≤ab));replace HB:=qaa.mk (qai sB hb);clear hb hbox hg)|((with_reducible refine qap (N:=3) rfl ?_);refine qao ?hg (N:=3) ?hd (cs:=#[.int .i64 aj,.int .i64 ak,.slice aq am.length ar]) (t:=33) ?hr ?_;(case hd=>rfl);(case hg=>rfl);(case hr=>first|(go_simp;done)|(go_simp;rfl));intro ac hg bN hbox hb;have ag:=qaa.mk (hbox);have ay:=qaa.mk ((by rw [hg];exact (qac sB):w.heap.size≤ac));have ap:=qaa.mk ((by rw [hg];exact (qac sB):w.heap.size≤ac));replace HB:=qaa.mk (qai sB hb);have ae:=qaa.mk ((by rw [hg];exact Nat.ne_of_lt (sLt aa.out):ab≠ac));have af:=qaa.mk ((by rw [hg];exact Nat.ne_of_gt (sLt aa.out):ac≠ab));replace aa:=qaa.mk (sKb aa.out hb);clear hb hbox hg;have bO:=ae.out;have bP:=af.out;obtain⟨aU,aV,aW⟩:=sC3 (w:=bN) aa.out;obtain⟨aX,aY,aZ⟩:=sF3 aa.out;obtain⟨a8,ba,be⟩:=sC3 (w:=bN) ag.out;obtain⟨bf,bg,bh⟩:=sF3 ag.out))
   go_ret
   exact⟨by first|rfl|(simp [qam,qal]<;>rfl)|(simp [bneNil,bneNilU]<;>rfl)|(simp [*,qam,qal]<;>rfl),by repeat (first|(with_reducible first|exact HB.out|apply qah|apply qae|apply qag|refine qad ?_ an.out|refine qad ?_ ap.out)|exact HB.out)⟩
 ·rw [if_neg c3] at H
  have bC:(ah == aj)=false:=beq_eq_false_iff_ne.mpr c3
  have bD:(ah != aj)=true:=bne_iff_ne.mpr c3
  obtain rfl:=Option.some.inj H
  go_enter Tryd.func19,Tryd.ntmps19
  go_wp2_with (first|((with_reducible refine qap (N:=2) rfl ?_);refine qao ?hg (N:=2) ?hd (cs:=#[.int .i64 ah,.int .i64 ai,.slice A0_2 al.length c0_2]) (t:=33) ?hr ?_;(case hd=>rfl);(case hg=>rfl);(case hr=>first|(go_simp;done)|(go_simp;rfl));intro ab hg bZ hbox hb;have aa:=qaa.mk (hbox);have ax:=qaa.mk ((by rw [hg];exact (qac sB):w.heap.size≤ab));have an:=qaa.mk ((by rw [hg];exact (qac sB):w.heap.size≤ab));replace HB:=qaa.mk (qai sB hb);clear hb hbox hg)|((with_reducible refine qap (N:=3) rfl ?_);refine qao ?hg (N:=3) ?hd (cs:=#[.int .i64 aj,.int .i64 ak,.slice aq am.length ar]) (t:=33) ?hr ?_;(case hd=>rfl);(case hg=>rfl);(case hr=>first|(go_simp;done)|(go_simp;rfl));intro ac hg bQ hbox hb;have ag:=qaa.mk (hbox);have ay:=qaa.mk ((by rw [hg];exact (qac sB):w.heap.size≤ac));have ap:=qaa.mk ((by rw [hg];exact (qac sB):w.heap.size≤ac));replace HB:=qaa.mk (qai sB hb);have ae:=qaa.mk ((by rw [hg];exact Nat.ne_of_lt (sLt aa.out):ab≠ac));have af:=qaa.mk ((by rw [hg];exact Nat.ne_of_gt (sLt aa.out):ac≠ab));replace aa:=qaa.mk (sKb aa.out hb);clear hb hbox hg;have bR:=ae.out;have bS:=af.out;obtain⟨bi,bj,bm⟩:=sC3 (w:=bQ) aa.out;obtain⟨bn,bp,bq⟩:=sF3 aa.out;obtain⟨bt,bv,bw⟩:=sC3 (w:=bQ) ag.out;obtain⟨bx,bz,bB⟩:=sF3 ag.out))
  go_ret
  exact⟨by first|rfl|(simp [qam,qal]<;>rfl)|(simp [bneNil,bneNilU]<;>rfl)|(simp [*,qam,qal]<;>rfl),by repeat (first|(with_reducible first|exact HB.out|apply qah|apply qae|apply qag|refine qad ?_ an.out|refine qad ?_ ap.out)|exact HB.out)⟩
def api_Bound_22.l0:Nat→List (S49)→List (S49)→Int→Int→Option (Bool)
 |0,_,_,_,_=>none
 |k+1,x0,x1,ac,aa=>if aa<ac then (if 0≤aa then (if aa<(x0.length:Int) then (if aa<(x1.length:Int) then (if (!(((qaw x0 aa).f0) == ((qaw x1 aa).f0)) || (!(((qaw x0 aa).f1) == ((qaw x1 aa).f1)) || (!(((qaw x0 aa).f2) == ((qaw x1 aa).f2)) || (!(((qaw x0 aa).f3) == ((qaw x1 aa).f3))))))=true then (some false) else (api_Bound_22.l0 k x0 x1 ac (ab (aa+1)))) else (none)) else (none)) else (none)) else (some true)
def api_Bound_22.f (k:Nat) (l0:List (S49)) (l1:List (S49)):Option (Bool):=if (l0.length:Int)=(l1.length:Int) then (api_Bound_22.l0 k l0 l1 (l0.length:Int) 0) else (some false)
theorem api_Bound_22.calls (k:Nat) (A0:Option Addr) (c0:Nat) (l0:List (S49)) (A1:Option Addr) (c1:Nat) (l1:List (S49)) (r:Bool) (w:World) (aC:Kd.C k49 w A0 l0.length l0) (aD:l0.length≤c0) (aE:Kd.C k49 w A1 l1.length l1) (aG:l1.length≤c1) (h:api_Bound_22.f k l0 l1=some r) :
  Calls Tryd.prog 22 #[.slice A0 l0.length c0,.slice A1 l1.length c1] w fun e w'=>e=.returned (.bool r)∧qar w w':=by
 have aK:=Tryd.underlying49
 have aH:=qaa.mk aC
 have aU:=qaa.mk aD
 clear aC aD
 have aI:=qaa.mk aE
 have aV:=qaa.mk aG
 clear aE aG
 have H:(if (l0.length:Int)=(l1.length:Int) then (api_Bound_22.l0 k l0 l1 (l0.length:Int) 0) else (some false))=some r:=h
 clear h
 by_cases c3:(l0.length:Int)=(l1.length:Int)
 ·rw [if_pos c3] at H
  have ar:((l0.length:Int) == (l1.length:Int))=true:=beq_iff_eq.mpr c3
  have au:((l0.length:Int) != (l1.length:Int))=false:=bne_eq_false_iff_eq.mpr c3
  have av:(l0.length == l1.length)=true:=by first|simpa using c3|(simp at c3 ⊢;omega)
  clear c3
  have H':=qaa.mk H
  clear H
  go_enter Tryd.func22,Tryd.ntmps22
  go_wp2
  repeat (go_quiet (fail);try go_wp2)
  go_loopg [13] k (fun kq aM w'=>∃ (aa:Int),aM=.int .i64 aa∧qaa (api_Bound_22.l0 kq l0 l1 (l0.length:Int) aa=some r)∧qaa (kq≤k)∧qar w w')
  case atStart=>exact⟨(0),(by first|rfl|(simp;done)|(simp [*];done)),H',⟨Nat.le_refl _⟩,by repeat (first|exact qar.refl _|apply qar.step)⟩
  case round=>
   clear H'
   try clear c1
   try clear c2
   try clear p2
   try clear c3
   try clear ar
   try clear au
   try clear av
   obtain⟨aa,rfl,HA,aJ,⟨m1,rfl⟩⟩:=hrel
   cases gk with
   |zero=>exact absurd HA.out (by simp [api_Bound_22.l0])
   |succ k1=>
    have H:=HA.out
    clear HA
    simp only [api_Bound_22.l0] at H
    by_cases c4:aa<(l0.length:Int)
    ·rw [if_pos c4] at H
     have ay:decide (aa<(l0.length:Int))=true:=decide_eq_true c4
     clear c4
     by_cases c5:0≤aa
     ·rw [if_pos c5] at H
      have aN:decide (0≤aa)=true:=decide_eq_true c5
      clear c5
      by_cases c6:aa<(l0.length:Int)
      ·rw [if_pos c6] at H
       have aQ:decide (aa<(l0.length:Int))=true:=decide_eq_true c6
       clear c6
       by_cases c7:aa<(l1.length:Int)
       ·rw [if_pos c7] at H
        have aT:decide (aa<(l1.length:Int))=true:=decide_eq_true c7
        clear c7
        by_cases c8:(!(((qaw l0 aa).f0) == ((qaw l1 aa).f0)) || (!(((qaw l0 aa).f1) == ((qaw l1 aa).f1)) || (!(((qaw l0 aa).f2) == ((qaw l1 aa).f2)) || (!(((qaw l0 aa).f3) == ((qaw l1 aa).f3))))))=true
        ·rw [if_pos c8] at H
         have az:(!(((qaw l0 aa).f0) == ((qaw l1 aa).f0)) || (!(((qaw l0 aa).f1) == ((qaw l1 aa).f1)) || (!(((qaw l0 aa).f2) == ((qaw l1 aa).f2)) || (!(((qaw l0 aa).f3) == ((qaw l1 aa).f3))))))=true:=c8
         clear c8
         obtain rfl:=Option.some.inj H
         have ab:0≤(aa:Int):=of_decide_eq_true sA
         have ac:aa<(l0.length:Int):=of_decide_eq_true sA
         obtain⟨aw,ap,ag,ah,ai,aj⟩:=at_T49 aH.out aa ab ac
         cases ap
         replace ab:=eq_true ab
         replace ac:=eq_true ac
         have ae:0≤(aa:Int):=of_decide_eq_true sA
         have af:aa<(l1.length:Int):=of_decide_eq_true sA
         obtain⟨ax,aq,ak,al,am,an⟩:=at_T49 aI.out aa ae af
         cases aq
         replace ae:=eq_true ae
         replace af:=eq_true af
         go_wp2
         repeat (go_quiet (fail);try go_wp2)
         go_ret
         exact⟨by first|rfl|(simp;done)|(simp [*];done),by repeat (first|exact qar.refl _|apply qar.step)⟩
        ·rw [if_neg c8] at H
         have az:(!(((qaw l0 aa).f0) == ((qaw l1 aa).f0)) || (!(((qaw l0 aa).f1) == ((qaw l1 aa).f1)) || (!(((qaw l0 aa).f2) == ((qaw l1 aa).f2)) || (!(((qaw l0 aa).f3) == ((qaw l1 aa).f3))))))=false:=by simpa using c8
         clear c8
         have H':=qaa.mk H
         clear H
         have ab:0≤(aa:Int):=of_decide_eq_true sA
         have ac:aa<(l0.length:Int):=of_decide_eq_true sA
         obtain⟨aw,ap,ag,ah,ai,aj⟩:=at_T49 aH.out aa ab ac
         cases ap
         replace ab:=eq_true ab
         replace ac:=eq_true ac
         have ae:0≤(aa:Int):=of_decide_eq_true sA
         have af:aa<(l1.length:Int):=of_decide_eq_true sA
         obtain⟨ax,aq,ak,al,am,an⟩:=at_T49 aI.out aa ae af
         cases aq
         replace ae:=eq_true ae
         replace af:=eq_true af
         go_wp2
         repeat (go_quiet (fail);try go_wp2)
         go_roundg k1
         case measure=>have:=aJ.out;omega
         case rel=>exact⟨(aA (aa+1)),(by first|rfl|(simp;done)|(simp [*];done)),H',⟨by have:=aJ.out;omega⟩,by repeat (first|exact qar.refl _|apply qar.step)⟩
       ·rw [if_neg c7] at H
        exact absurd H (by simp)
      ·rw [if_neg c6] at H
       exact absurd H (by simp)
     ·rw [if_neg c5] at H
      exact absurd H (by simp)
    ·rw [if_neg c4] at H
     have ay:decide (aa<(l0.length:Int))=false:=decide_eq_false c4
     clear c4
     obtain rfl:=Option.some.inj H
     go_wp2
     repeat (go_quiet (fail);try go_wp2)
     go_ret
     exact⟨by first|rfl|(simp;done)|(simp [*];done),by repeat (first|exact qar.refl _|apply qar.step)⟩
 ·rw [if_neg c3] at H
  have ar:((l0.length:Int) == (l1.length:Int))=false:=beq_eq_false_iff_ne.mpr c3
  have au:((l0.length:Int) != (l1.length:Int))=true:=bne_iff_ne.mpr c3
  have av:(l0.length == l1.length)=false:=by first|simpa using c3|(simp at c3 ⊢;omega)
  obtain rfl:=Option.some.inj H
  go_enter Tryd.func22,Tryd.ntmps22
  go_wp2
  repeat (go_quiet (fail);try go_wp2)
  go_ret
  exact⟨by first|rfl|(simp;done)|(simp [*];done),by repeat (first|exact qar.refl _|apply qar.step)⟩
end
end Go.Proofs.YtgnaaokhfpfglaaDoor.PCertTold
end
