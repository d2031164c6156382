/- Texts of this claim, one behind the other: PCertTold6, PCertTold7, PCertTold8, PCertTold9, PCertTold10. -/
import Derived.Test.YtgnaaokhfpfglaaDoorZCertTold1
import Derived.Test.YtgnaaokhfpfglaaDoorZCertTold2
import Derived.Test.YtgnaaokhfpfglaaDoorZCertTold3

set_option maxHeartbeats 8000000
set_option maxRecDepth 100000
set_option linter.unusedVariables false
set_option linter.unusedSimpArgs false
section
namespace Go.Proofs.YtgnaaokhfpfglaaDoor.PCertTold
open Go.RowKit Go.Proofs.YtgnaaokhfpfglaaDoorW.PrintWords Go.Proofs.YtgnaaokhfpfglaaDoorW.PrintLast Go.Proofs.YtgnaaokhfpfglaaDoorW.PrintMore
attribute [local go_sem] qaW qaU qa3 qa2 qaN qaM qaV qaT
set_option linter.unusedVariables false
set_option linter.unusedSimpArgs false
noncomputable section
mutual
def ostinatoref05_Num_task.l0:Nat→Int→Int→Int→Int→Int→Int→Int→Int→Int→List Int→Int→Int→Int→Int→Int→List Int→Option (Int × Int × Int × Int × Int × List Int × List Int)
 |0,_,_,_,_,_,_,_,_,_,_,_,_,_,_,_,_=>none
 |k+1,x2,ap,aq,an,ac,ae,af,ag,ab,ah,ai,aj,ak,al,am,aa=>if an<ap then (if 0≤(IntKind.u64.wrap (an)) then (if (Go.bits .and .i64 (shr .i64 ab (IntKind.u64.wrap (an))) 1)=1 then (if aa.length<17592186044416 then (ostinatoref05_Num_task.l0 k x2 ap an (wrap64 (an+1)) ac ae af ag ab ah ai aj ak al am (aa++[wrap64 (an - aq)])) else (none)) else (ostinatoref05_Num_task.l0 k x2 ap aq (wrap64 (an+1)) ac ae af ag ab ah ai aj ak al am aa)) else (none)) else (if aq > 0 then (if aa.length<17592186044416 then (ostinatoref05_Num_task.j1 k x2 ac ae af ag ab ah ai aj ak al am (aa++[wrap64 (ap - aq)])) else (none)) else (ostinatoref05_Num_task.j1 k x2 ac ae af ag ab ah ai aj ak al am aa))
def ostinatoref05_Num_task.j1:Nat→Int→Int→Int→Int→Int→Int→List Int→Int→Int→Int→Int→Int→List Int→Option (Int × Int × Int × Int × Int × List Int × List Int)
 |0,_,_,_,_,_,_,_,_,_,_,_,_,_=>none
 |k+1,x2,aa,ab,ac,ae,af,ag,ah,ai,aj,ak,al,am=>ostinatoref05_Num_task.l1 k x2 0 aa ab ac ae af ag ah ai aj ak al am ([]:List Int)
def ostinatoref05_Num_task.l1:Nat→Int→Int→Int→Int→Int→Int→Int→List Int→Int→Int→Int→Int→Int→List Int→List Int→Option (Int × Int × Int × Int × Int × List Int × List Int)
 |0,_,_,_,_,_,_,_,_,_,_,_,_,_,_,_=>none
 |k+1,x2,ap,aj,ak,al,am,an,ab,ac,ae,af,ag,ah,ai,aa=>if ap<(ab.length:Int) then (if ap<5 then (if 0≤ap then ((ostinatoref05_rest.f (rd ab ap) x2).bind fun t212=>(if aa.length<17592186044416 then (ostinatoref05_Num_task.l1 k x2 (wrap64 (ap+1)) aj ak al am an ab ac ae af ag ah ai (aa++[t212])) else (none))) else (none)) else (some (ac,ae,af,ag,ah,ai,aa))) else (some (ac,ae,af,ag,ah,ai,aa))
end
def ostinatoref05_Num_task.f (k:Nat) (ab:Int) (ac:Int) (aa:Int) (ae:Int) (ah:Int) (ai:List Int) (a1:Int) (a2:Int):Option (Int × Int × Int × Int × Int × List Int × List Int):=if 0≤(Go.bits .and .i64 aa 7) then (if (Go.bits .and .i64 aa 7)<8 then ((ostinatoref05_rest.f ac (rd [4,5,6,8,10,12,20,24] (Go.bits .and .i64 aa 7))).bind fun af=>((ostinatoref05_rest.f ab (wrap64 (1+af))).bind fun ag=>((ostinatoref05_rest.f ae 9).bind fun aj=>(ostinatoref05_Num_task.l0 k a2 (wrap64 (1+ag)) 0 1 ab ac aa ae ah ai (wrap64 (a1+1)) (wrap64 (1+ag)) (wrap64 (1+af)) (rd [4,5,6,8,10,12,20,24] (Go.bits .and .i64 aa 7)) (wrap64 ((wrap64 (10 * (wrap64 (1+aj))))+a1)) ([]:List Int))))) else (none)) else (none)
def ostinatoref05_Num_task.T18:Bool × List (List Nat × List Nat):=(true,[([],[]),([0],[0]),([],[]),([2],[2]),([],[]),([3,4],[3,4]),([5],[5]),([],[]),([6,7],[6,7]),([8],[8]),([1,9,8],[1,9]),([0,1,2,3,4,5,6,7,8,9,10],[]),([11,10,10,0,1,2,3,4,5,6,7,8,9,10],[10,11])])
def ostinatoref05_Num_task.B18:List Nat:=[0,1,0,4,0,28,60,0,252,508,1023,2047,4095]
theorem ostinatoref05_Num_task.tab18:rtab .any (opsOf Tryd.f55 18)=ostinatoref05_Num_task.T18:=by kernel_rfl
theorem ostinatoref05_Num_task.bits18:waitsOk ostinatoref05_Num_task.T18.2 ostinatoref05_Num_task.B18=true:=by kernel_rfl
theorem ostinatoref05_Num_task.calls (k:Nat) (aG:Int) (aI:Int) (af:Int) (aE:Int) (aH:Int) (A0_5:Option Addr) (c0_5:Nat) (az:List Int) (a1:Int) (a2:Int) (r1:Int) (r2:Int) (r3:Int) (r4:Int) (r5:Int) (r6:List Int) (r7:List Int) (w:World) (hr0_5:Kd.C (Kd.int .i64) w A0_5 az.length az) (hc0_5:az.length≤c0_5) (h:ostinatoref05_Num_task.f k aG aI af aE aH az a1 a2=some (r1,r2,r3,r4,r5,r6,r7)) :
  Calls Tryd.prog 55 #[.agg #[.int .i64 aG,.int .i64 aI,.int .i64 af,.int .i64 aE,.int .i64 aH,.slice A0_5 az.length c0_5],.int .i64 a1,.int .i64 a2] w fun e w'=>∃ jk jl:Value,e=.returned (.agg #[.int .i64 r1,.int .i64 r2,.int .i64 r3,.int .i64 r4,.int .i64 r5,jk,jl])∧Kd.R (Kd.int .i64) 2 w' w.heap.size (fun _=>True) jk r6∧Kd.R (Kd.int .i64) 3 w' w.heap.size (fun _=>True) jl r7∧Below w.heap.size w w':=by
 have la:=Tryd.underlying81
 have lb:=Tryd.underlying53
 have jm:=Tryd.underlying112
 have fK:=qaa.mk hr0_5
 have jn:=qaa.mk hc0_5
 clear hr0_5 hc0_5
 have HB:=qaa.mk (Below.refl w.heap.size w)
 have H:(if 0≤(Go.bits .and .i64 af 7) then (if (Go.bits .and .i64 af 7)<8 then ((ostinatoref05_rest.f aI (rd [4,5,6,8,10,12,20,24] (Go.bits .and .i64 af 7))).bind fun aw=>((ostinatoref05_rest.f aG (wrap64 (1+aw))).bind fun ak=>((ostinatoref05_rest.f aE 9).bind fun aA=>(ostinatoref05_Num_task.l0 k a2 (wrap64 (1+ak)) 0 1 aG aI af aE aH az (wrap64 (a1+1)) (wrap64 (1+ak)) (wrap64 (1+aw)) (rd [4,5,6,8,10,12,20,24] (Go.bits .and .i64 af 7)) (wrap64 ((wrap64 (10 * (wrap64 (1+aA))))+a1)) ([]:List Int))))) else (none)) else (none))=some (r1,r2,r3,r4,r5,r6,r7):=h
 clear h
 by_cases c4:0≤(Go.bits .and .i64 af 7)
 ·rw [if_pos c4] at H
  have fu:decide (0≤(Go.bits .and .i64 af 7))=true:=decide_eq_true c4
  clear c4
  by_cases c5:(Go.bits .and .i64 af 7)<8
  ·rw [if_pos c5] at H
   have fv:decide ((Go.bits .and .i64 af 7)<8)=true:=decide_eq_true c5
   clear c5
   replace H:=Option.bind_eq_some_iff.mp H
   obtain⟨aw,jo,H⟩:=H
   replace H:((ostinatoref05_rest.f aG (wrap64 (1+aw))).bind fun ak=>((ostinatoref05_rest.f aE 9).bind fun aA=>(ostinatoref05_Num_task.l0 k a2 (wrap64 (1+ak)) 0 1 aG aI af aE aH az (wrap64 (a1+1)) (wrap64 (1+ak)) (wrap64 (1+aw)) (rd [4,5,6,8,10,12,20,24] (Go.bits .and .i64 af 7)) (wrap64 ((wrap64 (10 * (wrap64 (1+aA))))+a1)) ([]:List Int))))=some (r1,r2,r3,r4,r5,r6,r7):=H
   have A6:=qaa.mk jo
   clear jo
   replace H:=Option.bind_eq_some_iff.mp H
   obtain⟨ak,jp,H⟩:=H
   replace H:((ostinatoref05_rest.f aE 9).bind fun aA=>(ostinatoref05_Num_task.l0 k a2 (wrap64 (1+ak)) 0 1 aG aI af aE aH az (wrap64 (a1+1)) (wrap64 (1+ak)) (wrap64 (1+aw)) (rd [4,5,6,8,10,12,20,24] (Go.bits .and .i64 af 7)) (wrap64 ((wrap64 (10 * (wrap64 (1+aA))))+a1)) ([]:List Int)))=some (r1,r2,r3,r4,r5,r6,r7):=H
   have A7:=qaa.mk jp
   clear jp
   replace H:=Option.bind_eq_some_iff.mp H
   obtain⟨aA,jq,H⟩:=H
   replace H:(ostinatoref05_Num_task.l0 k a2 (wrap64 (1+ak)) 0 1 aG aI af aE aH az (wrap64 (a1+1)) (wrap64 (1+ak)) (wrap64 (1+aw)) (rd [4,5,6,8,10,12,20,24] (Go.bits .and .i64 af 7)) (wrap64 ((wrap64 (10 * (wrap64 (1+aA))))+a1)) ([]:List Int))=some (r1,r2,r3,r4,r5,r6,r7):=H
   have A8:=qaa.mk jq
   clear jq
   have H':=qaa.mk H
   clear H
   go_enter Tryd.func55,Tryd.ntmps55
   go_wp2_with (first|((with_reducible refine qap (N:=3) rfl ?_);refine qao ?hg (N:=3) ?hd (cs:=#[.int .i64 aG,.int .i64 aI,.int .i64 af,.int .i64 aE,.int .i64 aH,.slice A0_5 az.length c0_5]) (t:=81) ?hr ?_;(case hd=>rfl);(case hg=>rfl);(case hr=>first|(go_simp;done)|(go_simp;rfl));intro am hg w9 hbox hb;have aa:=qaa.mk (hbox);have jr:=qaa.mk ((by rw [hg];exact (qac sB):w.heap.size≤am));have aZ:=qaa.mk ((by rw [hg];exact (qac sB):w.heap.size≤am));replace HB:=qaa.mk (qai sB hb);clear hb hbox hg)|((with_reducible refine qap (N:=6) rfl ?_);refine qao ?hg (N:=6) ?hd (cs:=#[.int .i64 0,.int .i64 0,.int .i64 0,.int .i64 0,.int .i64 0,.slice none 0 0,.slice none 0 0]) (t:=53) ?hr ?_;(case hd=>rfl);(case hg=>rfl);(case hr=>first|(go_simp;done)|(go_simp;rfl));intro ah hg lL hbox hb;have ag:=qaa.mk (hbox);have js:=qaa.mk ((by rw [hg];exact (qac sB):w.heap.size≤ah));have a8:=qaa.mk ((by rw [hg];exact (qac sB):w.heap.size≤ah));replace HB:=qaa.mk (qai sB hb);have aT:=qaa.mk ((by rw [hg];exact Nat.ne_of_lt (sLt aa.out):am≠ah));have aU:=qaa.mk ((by rw [hg];exact Nat.ne_of_gt (sLt aa.out):ah≠am));replace aa:=qaa.mk (sKb aa.out hb);clear hb hbox hg)|((with_reducible refine qap (N:=7) rfl ?_);refine qao ?hg (N:=7) ?hd (cs:=#[.int .i64 0,.int .i64 0,.int .i64 0,.int .i64 0,.int .i64 0,.int .i64 0,.int .i64 0,.int .i64 0]) (t:=112) ?hr ?_;(case hd=>rfl);(case hg=>rfl);(case hr=>first|(go_simp;done)|(go_simp;rfl));intro av hg jt hbox hb;have ae:=qaa.mk (hbox);have ju:=qaa.mk ((by rw [hg];exact (qac sB):w.heap.size≤av));have ba:=qaa.mk ((by rw [hg];exact (qac sB):w.heap.size≤av));replace HB:=qaa.mk (qai sB hb);have aq:=qaa.mk ((by rw [hg];exact Nat.ne_of_lt (sLt aa.out):am≠av));have aV:=qaa.mk ((by rw [hg];exact Nat.ne_of_gt (sLt aa.out):av≠am));replace aa:=qaa.mk (sKb aa.out hb);have ay:=qaa.mk ((by rw [hg];exact Nat.ne_of_lt (sLt ag.out):ah≠av));have bg:=qaa.mk ((by rw [hg];exact Nat.ne_of_gt (sLt ag.out):av≠ah));replace ag:=qaa.mk (sKb ag.out hb);clear hb hbox hg;have jv:=aV.out;have jw:=aq.out;have jx:=bg.out;have jy:=ay.out;obtain⟨bi,bj,bm,bn,bp,bq,bt,bv⟩:=sC8 (w:=jt) ae.out;obtain⟨bw,bx,bz,bB,bC,bD,bE,bF⟩:=sF8 ae.out)|((with_reducible refine gate_store (t:=112) (p:=7) rfl ?_);refine store_event (t:=112) (p:=7) (v:=?vo_w15) (w1:=((((((((jt.setCell ⟨av,0,none⟩ (.int .i64 4)).setCell ⟨av,1,none⟩ (.int .i64 5)).setCell ⟨av,2,none⟩ (.int .i64 6)).setCell ⟨av,3,none⟩ (.int .i64 8)).setCell ⟨av,4,none⟩ (.int .i64 10)).setCell ⟨av,5,none⟩ (.int .i64 12)).setCell ⟨av,6,none⟩ (.int .i64 20)).setCell ⟨av,7,none⟩ (.int .i64 24))) ?hg ?ho ?hn ?hr ?_;(case ho=>rfl);(case hg=>rfl);(case hn=>rfl);(case hr=>first|(go_simp;done)|(go_simp;rfl));intro aQ hw;have eQ:qaa (aQ.heap[am]? = some (.cells #[.int .i64 aG,.int .i64 aI,.int .i64 af,.int .i64 aE,.int .i64 aH,.slice A0_5 az.length c0_5] 81 (0,0))):=⟨(by rw [hw];exact (by refine sM ?_;refine qaf ?_ aq.out _;refine sM ?_;refine qaf ?_ aq.out _;refine sM ?_;refine qaf ?_ aq.out _;refine sM ?_;refine qaf ?_ aq.out _;refine sM ?_;refine qaf ?_ aq.out _;refine sM ?_;refine qaf ?_ aq.out _;refine sM ?_;refine qaf ?_ aq.out _;refine sM ?_;refine qaf ?_ aq.out _;refine sM ?_;exact aa.out))⟩;have eR:qaa (aQ.heap[ah]? = some (.cells #[.int .i64 0,.int .i64 0,.int .i64 0,.int .i64 0,.int .i64 0,.slice none 0 0,.slice none 0 0] 53 (0,0))):=⟨(by rw [hw];exact (by refine sM ?_;refine qaf ?_ ay.out _;refine sM ?_;refine qaf ?_ ay.out _;refine sM ?_;refine qaf ?_ ay.out _;refine sM ?_;refine qaf ?_ ay.out _;refine sM ?_;refine qaf ?_ ay.out _;refine sM ?_;refine qaf ?_ ay.out _;refine sM ?_;refine qaf ?_ ay.out _;refine sM ?_;refine qaf ?_ ay.out _;refine sM ?_;exact ag.out))⟩;have eS:qaa (aQ.heap[av]? = some (.cells #[.int .i64 4,.int .i64 5,.int .i64 6,.int .i64 8,.int .i64 10,.int .i64 12,.int .i64 20,.int .i64 24] 112 (0,0))):=⟨(by rw [hw];exact (by refine sM ?_;refine qak (cs:=#[.int .i64 4,.int .i64 5,.int .i64 6,.int .i64 8,.int .i64 10,.int .i64 12,.int .i64 20,.int .i64 0]) ?_ 7 _ rfl;refine sM ?_;refine qak (cs:=#[.int .i64 4,.int .i64 5,.int .i64 6,.int .i64 8,.int .i64 10,.int .i64 12,.int .i64 0,.int .i64 0]) ?_ 6 _ rfl;refine sM ?_;refine qak (cs:=#[.int .i64 4,.int .i64 5,.int .i64 6,.int .i64 8,.int .i64 10,.int .i64 0,.int .i64 0,.int .i64 0]) ?_ 5 _ rfl;refine sM ?_;refine qak (cs:=#[.int .i64 4,.int .i64 5,.int .i64 6,.int .i64 8,.int .i64 0,.int .i64 0,.int .i64 0,.int .i64 0]) ?_ 4 _ rfl;refine sM ?_;refine qak (cs:=#[.int .i64 4,.int .i64 5,.int .i64 6,.int .i64 0,.int .i64 0,.int .i64 0,.int .i64 0,.int .i64 0]) ?_ 3 _ rfl;refine sM ?_;refine qak (cs:=#[.int .i64 4,.int .i64 5,.int .i64 0,.int .i64 0,.int .i64 0,.int .i64 0,.int .i64 0,.int .i64 0]) ?_ 2 _ rfl;refine sM ?_;refine qak (cs:=#[.int .i64 4,.int .i64 0,.int .i64 0,.int .i64 0,.int .i64 0,.int .i64 0,.int .i64 0,.int .i64 0]) ?_ 1 _ rfl;refine sM ?_;refine qak (cs:=#[.int .i64 0,.int .i64 0,.int .i64 0,.int .i64 0,.int .i64 0,.int .i64 0,.int .i64 0,.int .i64 0]) ?_ 0 _ rfl;refine sM ?_;exact ae.out))⟩;have eT:qaa (Below w.heap.size w aQ):=⟨(by rw [hw];exact sB)⟩;clear hw;clear aa;clear ag;clear ae;clear HB;have aa:=eQ;have ag:=eR;have ae:=eS;have HB:=eT;clear eQ eR eS eT;have jz:=aT.out;have jA:=aU.out;have bG:aQ.cell? ⟨am,0,none⟩=some (.int .i64 aG):=(qab aa.out 0).trans rfl;have bH:aQ.cell? ⟨am,1,none⟩=some (.int .i64 aI):=(qab aa.out 1).trans rfl;have bI:aQ.cell? ⟨am,2,none⟩=some (.int .i64 af):=(qab aa.out 2).trans rfl;have bJ:aQ.cell? ⟨am,3,none⟩=some (.int .i64 aE):=(qab aa.out 3).trans rfl;have bK:aQ.cell? ⟨am,4,none⟩=some (.int .i64 aH):=(qab aa.out 4).trans rfl;have bL:aQ.cell? ⟨am,5,none⟩=some (.slice A0_5 az.length c0_5):=(qab aa.out 5).trans rfl;have bM:=qan aa.out 0;have bN:=qan aa.out 1;have bO:=qan aa.out 2;have bP:=qan aa.out 3;have bQ:=qan aa.out 4;have bR:=qan aa.out 5;have bS:aQ.cell? ⟨av,0,none⟩=some (.int .i64 4):=(qab ae.out 0).trans rfl;have bT:aQ.cell? ⟨av,1,none⟩=some (.int .i64 5):=(qab ae.out 1).trans rfl;have bU:aQ.cell? ⟨av,2,none⟩=some (.int .i64 6):=(qab ae.out 2).trans rfl;have bV:aQ.cell? ⟨av,3,none⟩=some (.int .i64 8):=(qab ae.out 3).trans rfl;have bW:aQ.cell? ⟨av,4,none⟩=some (.int .i64 10):=(qab ae.out 4).trans rfl;have bX:aQ.cell? ⟨av,5,none⟩=some (.int .i64 12):=(qab ae.out 5).trans rfl;have bY:aQ.cell? ⟨av,6,none⟩=some (.int .i64 20):=(qab ae.out 6).trans rfl;have bZ:aQ.cell? ⟨av,7,none⟩=some (.int .i64 24):=(qab ae.out 7).trans rfl;have b8:=qan ae.out 0;have b9:=qan ae.out 1;have ca:=qan ae.out 2;have cb:=qan ae.out 3;have ce:=qan ae.out 4;have cf:=qan ae.out 5;have cg:=qan ae.out 6;have cj:=qan ae.out 7;have eO:0≤(Go.bits .and .i64 af 7:Int):=of_decide_eq_true sA;have eP:(Go.bits .and .i64 af 7)<(8:Int):=of_decide_eq_true sA;have jB:aQ.cell? ⟨av,(Go.bits .and .i64 af 7).toNat,none⟩=some (.int .i64 (rd [4,5,6,8,10,12,20,24] (Go.bits .and .i64 af 7))):=arrRead (xs:=[4,5,6,8,10,12,20,24]) ae.out (Go.bits .and .i64 af 7) eO eP;replace eO:=eq_true eO;replace eP:=eq_true eP)|((with_reducible refine qaA (f:=54) rfl ?_);refine qa7 (some 24) rfl rfl Tryd.func54 (by kernel_rfl) rfl #[.int .i64 aI,.int .i64 (rd [4,5,6,8,10,12,20,24] (Go.bits .and .i64 af 7))] rfl (by (try simp only [List.map_toArray,List.map_cons,List.map_nil]);first|done|rfl|(simp only [List.length_drop,List.length_take];rfl)) ?_;(with_reducible refine (ostinatoref05_rest.calls aI (rd [4,5,6,8,10,12,20,24] (Go.bits .and .i64 af 7)) aw _ A6.out).mono ?_);rintro e w' ⟨rfl,⟨nd,rfl⟩⟩;refine⟨_,rfl,?_⟩;(try (rw [drewN_self aQ];generalize hq_:World.drewN aQ _=aQ;have eQ:qaa (aQ.heap[am]? = some (.cells #[.int .i64 aG,.int .i64 aI,.int .i64 af,.int .i64 aE,.int .i64 aH,.slice A0_5 az.length c0_5] 81 (0,0))):=⟨by rw [← hq_];exact (sK aa.out)⟩;have eR:qaa (aQ.heap[ah]? = some (.cells #[.int .i64 0,.int .i64 0,.int .i64 0,.int .i64 0,.int .i64 0,.slice none 0 0,.slice none 0 0] 53 (0,0))):=⟨by rw [← hq_];exact (sK ag.out)⟩;have eS:qaa (aQ.heap[av]? = some (.cells #[.int .i64 4,.int .i64 5,.int .i64 6,.int .i64 8,.int .i64 10,.int .i64 12,.int .i64 20,.int .i64 24] 112 (0,0))):=⟨by rw [← hq_];exact (sK ae.out)⟩;have eT:qaa (Below w.heap.size w aQ):=⟨by rw [← hq_];exact sB⟩;clear aa ag ae HB hq_;have aa:=eQ;have ag:=eR;have ae:=eS;have HB:=eT;clear eQ eR eS eT));have ck:aQ.cell? ⟨am,0,none⟩=some (.int .i64 aG):=(qab aa.out 0).trans rfl;have cm:aQ.cell? ⟨am,1,none⟩=some (.int .i64 aI):=(qab aa.out 1).trans rfl;have co:aQ.cell? ⟨am,2,none⟩=some (.int .i64 af):=(qab aa.out 2).trans rfl;have cp:aQ.cell? ⟨am,3,none⟩=some (.int .i64 aE):=(qab aa.out 3).trans rfl;have cq:aQ.cell? ⟨am,4,none⟩=some (.int .i64 aH):=(qab aa.out 4).trans rfl;have cr:aQ.cell? ⟨am,5,none⟩=some (.slice A0_5 az.length c0_5):=(qab aa.out 5).trans rfl;have ct:=qan aa.out 0;have cu:=qan aa.out 1;have cv:=qan aa.out 2;have cw:=qan aa.out 3;have cx:=qan aa.out 4;have cy:=qan aa.out 5)|((with_reducible refine qaA (f:=54) rfl ?_);refine qa7 (some 29) rfl rfl Tryd.func54 (by kernel_rfl) rfl #[.int .i64 aG,.int .i64 (wrap64 (1+aw))] rfl (by (try simp only [List.map_toArray,List.map_cons,List.map_nil]);first|done|rfl|(simp only [List.length_drop,List.length_take];rfl)) ?_;(with_reducible refine (ostinatoref05_rest.calls aG (wrap64 (1+aw)) ak _ A7.out).mono ?_);rintro e w' ⟨rfl,⟨nd,rfl⟩⟩;refine⟨_,rfl,?_⟩;(try (rw [drewN_self aQ];generalize hq_:World.drewN aQ _=aQ;have eQ:qaa (aQ.heap[am]? = some (.cells #[.int .i64 aG,.int .i64 aI,.int .i64 af,.int .i64 aE,.int .i64 aH,.slice A0_5 az.length c0_5] 81 (0,0))):=⟨by rw [← hq_];exact (sK aa.out)⟩;have eR:qaa (aQ.heap[ah]? = some (.cells #[.int .i64 0,.int .i64 0,.int .i64 0,.int .i64 0,.int .i64 0,.slice none 0 0,.slice none 0 0] 53 (0,0))):=⟨by rw [← hq_];exact (sK ag.out)⟩;have eS:qaa (aQ.heap[av]? = some (.cells #[.int .i64 4,.int .i64 5,.int .i64 6,.int .i64 8,.int .i64 10,.int .i64 12,.int .i64 20,.int .i64 24] 112 (0,0))):=⟨by rw [← hq_];exact (sK ae.out)⟩;have eT:qaa (Below w.heap.size w aQ):=⟨by rw [← hq_];exact sB⟩;clear aa ag ae HB hq_;have aa:=eQ;have ag:=eR;have ae:=eS;have HB:=eT;clear eQ eR eS eT));have cz:aQ.cell? ⟨am,0,none⟩=some (.int .i64 aG):=(qab aa.out 0).trans rfl;have cA:aQ.cell? ⟨am,1,none⟩=some (.int .i64 aI):=(qab aa.out 1).trans rfl;have cB:aQ.cell? ⟨am,2,none⟩=some (.int .i64 af):=(qab aa.out 2).trans rfl;have cC:aQ.cell? ⟨am,3,none⟩=some (.int .i64 aE):=(qab aa.out 3).trans rfl;have cD:aQ.cell? ⟨am,4,none⟩=some (.int .i64 aH):=(qab aa.out 4).trans rfl;have cE:aQ.cell? ⟨am,5,none⟩=some (.slice A0_5 az.length c0_5):=(qab aa.out 5).trans rfl;have cF:=qan aa.out 0;have cG:=qan aa.out 1;have cH:=qan aa.out 2;have cI:=qan aa.out 3;have cJ:=qan aa.out 4;have cK:=qan aa.out 5)|((with_reducible refine qaA (f:=54) rfl ?_);refine qa7 (some 38) rfl rfl Tryd.func54 (by kernel_rfl) rfl #[.int .i64 aE,.int .i64 9] rfl (by (try simp only [List.map_toArray,List.map_cons,List.map_nil]);first|done|rfl|(simp only [List.length_drop,List.length_take];rfl)) ?_;(with_reducible refine (ostinatoref05_rest.calls aE 9 aA _ A8.out).mono ?_);rintro e w' ⟨rfl,⟨nd,rfl⟩⟩;refine⟨_,rfl,?_⟩;(try (rw [drewN_self aQ];generalize hq_:World.drewN aQ _=aQ;have eQ:qaa (aQ.heap[am]? = some (.cells #[.int .i64 aG,.int .i64 aI,.int .i64 af,.int .i64 aE,.int .i64 aH,.slice A0_5 az.length c0_5] 81 (0,0))):=⟨by rw [← hq_];exact (sK aa.out)⟩;have eR:qaa (aQ.heap[ah]? = some (.cells #[.int .i64 0,.int .i64 0,.int .i64 0,.int .i64 0,.int .i64 0,.slice none 0 0,.slice none 0 0] 53 (0,0))):=⟨by rw [← hq_];exact (sK ag.out)⟩;have eS:qaa (aQ.heap[av]? = some (.cells #[.int .i64 4,.int .i64 5,.int .i64 6,.int .i64 8,.int .i64 10,.int .i64 12,.int .i64 20,.int .i64 24] 112 (0,0))):=⟨by rw [← hq_];exact (sK ae.out)⟩;have eT:qaa (Below w.heap.size w aQ):=⟨by rw [← hq_];exact sB⟩;clear aa ag ae HB hq_;have aa:=eQ;have ag:=eR;have ae:=eS;have HB:=eT;clear eQ eR eS eT)))|((with_reducible refine qap (N:=11) rfl ?_);refine qao ?hg (N:=11) ?hd (cs:=#[.int .i64 0,.int .i64 0,.int .i64 0,.int .i64 0,.int .i64 0,.slice none 0 0,.slice none 0 0]) (t:=53) ?hr ?_;(case hd=>rfl);(case hg=>rfl);(case hr=>first|(go_simp;done)|(go_simp;rfl));intro aC hg ld hbox hb;have ab:=qaa.mk (hbox);have jC:=qaa.mk ((by rw [hg];exact (qac sB):w.heap.size≤aC));have be:=qaa.mk ((by rw [hg];exact (qac sB):w.heap.size≤aC));replace HB:=qaa.mk (qai sB hb);have ai:=qaa.mk ((by rw [hg];exact Nat.ne_of_lt (sLt aa.out):am≠aC));have aK:=qaa.mk ((by rw [hg];exact Nat.ne_of_gt (sLt aa.out):aC≠am));replace aa:=qaa.mk (sKb aa.out hb);have an:=qaa.mk ((by rw [hg];exact Nat.ne_of_lt (sLt ag.out):ah≠aC));have aW:=qaa.mk ((by rw [hg];exact Nat.ne_of_gt (sLt ag.out):aC≠ah));replace ag:=qaa.mk (sKb ag.out hb);have ap:=qaa.mk ((by rw [hg];exact Nat.ne_of_lt (sLt ae.out):av≠aC));have aX:=qaa.mk ((by rw [hg];exact Nat.ne_of_gt (sLt ae.out):aC≠av));replace ae:=qaa.mk (sKb ae.out hb);clear hb hbox hg;have jD:=aK.out;have jE:=ai.out;have jF:=aW.out;have jG:=an.out;have jH:=aX.out;have jI:=ap.out;obtain⟨cL,cM,cN,cO,cP,cQ,cR⟩:=sC7 (w:=ld) ab.out;obtain⟨cS,cT,cU,cV,cW,cX,cY⟩:=sF7 ab.out))
   go_loopg [12,13] k (fun kq le lf w'=>∃ (aN:Int) (aD:Int) (al:List Int) (ax:Value),le=.int .i64 aN∧lf=.int .i64 aD∧qaa (ostinatoref05_Num_task.l0 kq a2 (wrap64 (1+ak)) aN aD aG aI af aE aH az (wrap64 (a1+1)) (wrap64 (1+ak)) (wrap64 (1+aw)) (rd [4,5,6,8,10,12,20,24] (Go.bits .and .i64 af 7)) (wrap64 ((wrap64 (10 * (wrap64 (1+aA))))+a1)) al=some (r1,r2,r3,r4,r5,r6,r7))∧qaa (kq≤k)∧qaa (Kd.R (Kd.int .i64) 2 w' w.heap.size (fun _=>True) ax al)∧qaa (w'.heap[am]? = some (.cells #[.int .i64 aG,.int .i64 aI,.int .i64 af,.int .i64 aE,.int .i64 aH,(.slice A0_5 az.length c0_5)] 81 (0,0)))∧qaa (w'.heap[ah]? = some (.cells #[.int .i64 0,.int .i64 0,.int .i64 0,.int .i64 0,.int .i64 0,(.slice none 0 0),(.slice none 0 0)] 53 (0,0)))∧qaa (w'.heap[av]? = some (.cells #[.int .i64 4,.int .i64 5,.int .i64 6,.int .i64 8,.int .i64 10,.int .i64 12,.int .i64 20,.int .i64 24] 112 (0,0)))∧qaa (w'.heap[aC]? = some (.cells #[.int .i64 (wrap64 (a1+1)),.int .i64 (wrap64 (1+ak)),.int .i64 (wrap64 (1+aw)),.int .i64 (rd [4,5,6,8,10,12,20,24] (Go.bits .and .i64 af 7)),.int .i64 (wrap64 ((wrap64 (10 * (wrap64 (1+aA))))+a1)),ax,(.slice none 0 0)] 53 (0,0)))∧qaa (Below w.heap.size w w'))
   case atStart=>exact⟨(0),(1),(([]:List Int)),(.slice none 0 0),(by first|rfl|(simp;done)|(simp [*];done)),(by first|rfl|(simp;done)|(simp [*];done)),H',⟨Nat.le_refl _⟩,⟨by first|exact Kd.R_nil _ _ _ _ _|exact Kd.N_nil _ _ _ _ _|exact Kd.V_nil _ _ _ _ _|exact Kd.Q_nil _ _ _ _ _|exact Kd.S_nil _ _ _ _ _⟩,⟨by refine sM ?_;refine qaf ?_ ai.out _;refine sM ?_;refine qaf ?_ ai.out _;refine sM ?_;refine qaf ?_ ai.out _;refine sM ?_;refine qaf ?_ ai.out _;refine sM ?_;refine qaf ?_ ai.out _;refine sM ?_;refine qaf ?_ ai.out _;refine sM ?_;refine qaf ?_ ai.out _;refine sM ?_;exact aa.out⟩,⟨by refine sM ?_;refine qaf ?_ an.out _;refine sM ?_;refine qaf ?_ an.out _;refine sM ?_;refine qaf ?_ an.out _;refine sM ?_;refine qaf ?_ an.out _;refine sM ?_;refine qaf ?_ an.out _;refine sM ?_;refine qaf ?_ an.out _;refine sM ?_;refine qaf ?_ an.out _;refine sM ?_;exact ag.out⟩,⟨by refine sM ?_;refine qaf ?_ ap.out _;refine sM ?_;refine qaf ?_ ap.out _;refine sM ?_;refine qaf ?_ ap.out _;refine sM ?_;refine qaf ?_ ap.out _;refine sM ?_;refine qaf ?_ ap.out _;refine sM ?_;refine qaf ?_ ap.out _;refine sM ?_;refine qaf ?_ ap.out _;refine sM ?_;exact ae.out⟩,⟨by refine sM ?_;refine qak (cs:=#[.int .i64 (wrap64 (a1+1)),.int .i64 (wrap64 (1+ak)),.int .i64 (wrap64 (1+aw)),.int .i64 (rd [4,5,6,8,10,12,20,24] (Go.bits .and .i64 af 7)),.int .i64 (wrap64 ((wrap64 (10 * (wrap64 (1+aA))))+a1)),.slice none 0 0,.slice none 0 0]) ?_ 6 _ rfl;refine sM ?_;refine qak (cs:=#[.int .i64 (wrap64 (a1+1)),.int .i64 (wrap64 (1+ak)),.int .i64 (wrap64 (1+aw)),.int .i64 (rd [4,5,6,8,10,12,20,24] (Go.bits .and .i64 af 7)),.int .i64 (wrap64 ((wrap64 (10 * (wrap64 (1+aA))))+a1)),.slice none 0 0,.slice none 0 0]) ?_ 5 _ rfl;refine sM ?_;refine qak (cs:=#[.int .i64 (wrap64 (a1+1)),.int .i64 (wrap64 (1+ak)),.int .i64 (wrap64 (1+aw)),.int .i64 (rd [4,5,6,8,10,12,20,24] (Go.bits .and .i64 af 7)),.int .i64 0,.slice none 0 0,.slice none 0 0]) ?_ 4 _ rfl;refine sM ?_;refine qak (cs:=#[.int .i64 (wrap64 (a1+1)),.int .i64 (wrap64 (1+ak)),.int .i64 (wrap64 (1+aw)),.int .i64 0,.int .i64 0,.slice none 0 0,.slice none 0 0]) ?_ 3 _ rfl;refine sM ?_;refine qak (cs:=#[.int .i64 (wrap64 (a1+1)),.int .i64 (wrap64 (1+ak)),.int .i64 0,.int .i64 0,.int .i64 0,.slice none 0 0,.slice none 0 0]) ?_ 2 _ rfl;refine sM ?_;refine qak (cs:=#[.int .i64 (wrap64 (a1+1)),.int .i64 0,.int .i64 0,.int .i64 0,.int .i64 0,.slice none 0 0,.slice none 0 0]) ?_ 1 _ rfl;refine sM ?_;refine qak (cs:=#[.int .i64 0,.int .i64 0,.int .i64 0,.int .i64 0,.int .i64 0,.slice none 0 0,.slice none 0 0]) ?_ 0 _ rfl;refine sM ?_;exact ab.out⟩,⟨by repeat (first|(with_reducible first|exact HB.out|apply qah|apply qae|apply qag|refine qad ?_ aZ.out|refine qad ?_ a8.out|refine qad ?_ ba.out|refine qad ?_ be.out)|exact HB.out)⟩⟩
   case round=>
    clear H'
    try clear c1
    try clear c2
    try clear p2
    try clear q2
    try clear jJ
    try clear c4
    try clear fu
    try clear c5
    try clear fv
    try clear p6
    try clear jK
    try clear jL
    try clear jM
    try clear gc
    try clear ge
    try clear fL
    try clear jN
    try clear jO
    try clear jP
    try clear bi bj bm bn bp bq bt bv
    try clear bG bH bI bJ bK bL
    try clear bS bT bU bV bW bX bY bZ
    try clear ck cm co cp cq cr
    try clear cz cA cB cC cD cE
    try clear cL cM cN cO cP cQ cR
    try clear bw bx bz bB bC bD bE bF
    try clear bM bN bO bP bQ bR
    try clear b8 b9 ca cb ce cf cg cj
    try clear ct cu cv cw cx cy
    try clear cF cG cH cI cJ cK
    try clear cS cT cU cV cW cX cY
    try clear eO
    try clear eP
    obtain⟨aN,aD,al,ax,rfl,rfl,HA,fh,ac,aa,ag,ae,ab,HB⟩:=hrel
    cases gk with
    |zero=>exact absurd HA.out (by simp [ostinatoref05_Num_task.l0])
    |succ k1=>
     have H:=HA.out
     clear HA
     simp only [ostinatoref05_Num_task.l0] at H
     by_cases fi:aD<(wrap64 (1+ak))
     ·rw [if_pos fi] at H
      have eU:decide (aD<(wrap64 (1+ak)))=true:=decide_eq_true fi
      clear fi
      obtain⟨cZ,fj⟩:∃ j_:Int,(IntKind.u64.wrap (aD))=j_:=⟨_,rfl⟩
      replace H:(if 0≤(cZ) then (if (Go.bits .and .i64 (shr .i64 aH (cZ)) 1)=1 then (if al.length<17592186044416 then (ostinatoref05_Num_task.l0 k1 a2 (wrap64 (1+ak)) aD (wrap64 (aD+1)) aG aI af aE aH az (wrap64 (a1+1)) (wrap64 (1+ak)) (wrap64 (1+aw)) (rd [4,5,6,8,10,12,20,24] (Go.bits .and .i64 af 7)) (wrap64 ((wrap64 (10 * (wrap64 (1+aA))))+a1)) (al++[wrap64 (aD - aN)])) else (none)) else (ostinatoref05_Num_task.l0 k1 a2 (wrap64 (1+ak)) aN (wrap64 (aD+1)) aG aI af aE aH az (wrap64 (a1+1)) (wrap64 (1+ak)) (wrap64 (1+aw)) (rd [4,5,6,8,10,12,20,24] (Go.bits .and .i64 af 7)) (wrap64 ((wrap64 (10 * (wrap64 (1+aA))))+a1)) al)) else (none))=some (r1,r2,r3,r4,r5,r6,r7):=by first|(rw [fj] at H;exact H)|(simp only [fj] at H ⊢;exact H)
      by_cases fw:0≤(cZ)
      ·rw [if_pos fw] at H
       have fk:=eq_true fw
       have fl:decide (0≤(cZ))=true:=decide_eq_true fw
       clear fw
       obtain⟨da,de⟩:∃ j_:Int,(shr .i64 aH (cZ))=j_:=⟨_,rfl⟩
       replace H:(if (Go.bits .and .i64 (da) 1)=1 then (if al.length<17592186044416 then (ostinatoref05_Num_task.l0 k1 a2 (wrap64 (1+ak)) aD (wrap64 (aD+1)) aG aI af aE aH az (wrap64 (a1+1)) (wrap64 (1+ak)) (wrap64 (1+aw)) (rd [4,5,6,8,10,12,20,24] (Go.bits .and .i64 af 7)) (wrap64 ((wrap64 (10 * (wrap64 (1+aA))))+a1)) (al++[wrap64 (aD - aN)])) else (none)) else (ostinatoref05_Num_task.l0 k1 a2 (wrap64 (1+ak)) aN (wrap64 (aD+1)) aG aI af aE aH az (wrap64 (a1+1)) (wrap64 (1+ak)) (wrap64 (1+aw)) (rd [4,5,6,8,10,12,20,24] (Go.bits .and .i64 af 7)) (wrap64 ((wrap64 (10 * (wrap64 (1+aA))))+a1)) al))=some (r1,r2,r3,r4,r5,r6,r7):=by first|(rw [de] at H;exact H)|(simp only [de] at H ⊢;exact H)
       have jc:(aH / 2 ^ min (cZ).toNat 64)=da:=de
       have hji29z:(cZ)≤64→(aH / 2 ^ (cZ).toNat)=da:=shr_small de
       by_cases eZ:(Go.bits .and .i64 (da) 1)=1
       ·rw [if_pos eZ] at H
        have eV:((Go.bits .and .i64 (da) 1) == 1)=true:=beq_iff_eq.mpr eZ
        have eW:((Go.bits .and .i64 (da) 1) != 1)=false:=bne_eq_false_iff_eq.mpr eZ
        clear eZ
        by_cases fG:al.length<17592186044416
        ·rw [if_pos fG] at H
         have fM:=qaa.mk fG
         clear fG
         obtain⟨fa,db⟩:∃ y_:List Int,y_=(al++[wrap64 (aD - aN)]):=⟨_,rfl⟩
         replace H:(ostinatoref05_Num_task.l0 k1 a2 (wrap64 (1+ak)) aD (wrap64 (aD+1)) aG aI af aE aH az (wrap64 (a1+1)) (wrap64 (1+ak)) (wrap64 (1+aw)) (rd [4,5,6,8,10,12,20,24] (Go.bits .and .i64 af 7)) (wrap64 ((wrap64 (10 * (wrap64 (1+aA))))+a1)) fa)=some (r1,r2,r3,r4,r5,r6,r7):=by first|(rw [db];with_reducible exact H)|(have eX:=(Option.bind_some _ _).symm.trans H;rw [db];with_reducible exact eX)|(have eX:=(Option.bind_some _ _).symm.trans H;with_reducible exact eX)|with_reducible exact H|(rw [db];exact H)|exact H
         have fN:=qaa.mk db
         clear db
         have H':=qaa.mk H
         clear H
         have jQ:=aT.out
         have jR:=aU.out
         have jS:=aq.out
         have jT:=aV.out
         have jU:=ai.out
         have jV:=aK.out
         obtain⟨df,dg,dh,di,dj,dk⟩:=sC6 (w:=wr) aa.out
         obtain⟨dl,dm,dn,dp,dq,dr⟩:=sF6 aa.out
         have jW:=aW.out
         have jX:=an.out
         have jY:=aX.out
         have jZ:=ap.out
         obtain⟨du,dv,dw,dx,dy,dz,dA⟩:=sC7 (w:=wr) ab.out
         obtain⟨dB,dC,dD,dE,dF,dG,dH⟩:=sF7 ab.out
         go_wp2_with (first|((with_reducible refine qaB (b:=.append) (xs:=#[.tmp 57,.tmp 61]) rfl ?_);at_builtin;refine Kd.R_append (Kd.int .i64) (w0:=w) w.heap.size rfl (.tmp 57) (.tmp 61) 34 2 (.int .i64 0) 8 rfl Tryd.underlying34 info2 rfl (by decide) (by omega) ax al (wrap64 (aD - aN)) [.int .i64 (wrap64 (aD - aN))] (fun _=>True) (fun _=>False) rfl rfl ?aP (fun _ hk=>hk.elim) ?aF ?aO ?aB ?aS ?aL ?_;(case aP=>exact rfl);(case aB=>exact sB);(case aF=>exact (fun _ _=>trivial));(case aO=>exact (sR ac.out));(case aS=>exact (qac sB));(case aL=>have:=fM.out;omega);intro lg lh ho hb hg hat;rw [← fN.out] at ho;replace aa:=qaa.mk (sKg aa.out hg (Kd.R_ne ac.out aa.out (by decide)));replace ag:=qaa.mk (sKg ag.out hg (Kd.R_ne ac.out ag.out (by decide)));replace ae:=qaa.mk (sKg ae.out hg (Kd.R_ne ac.out ae.out (by decide)));replace ab:=qaa.mk (sKg ab.out hg (Kd.R_ne ac.out ab.out (by decide)));replace HB:=qaa.mk (hb);have fm:=qaa.mk (ho);clear ac ho hb hg hat;obtain⟨fO,fP,jd⟩:=Kd.R_slice fm.out;subst jd;obtain⟨dI,dJ,dK,dL,dM,dN,dO⟩:=sC7 (w:=lh) ab.out;obtain⟨dP,dQ,dT,dU,dV,dW,dX⟩:=sF7 ab.out))
         go_roundg k1
         case measure=>have:=fh.out;omega
         case rel=>exact⟨(aD),(wrap64 (aD+1)),(fa),(.slice fO fa.length fP),(by first|rfl|(simp;done)|(simp [*];done)),(by first|rfl|(simp;done)|(simp [*];done)),H',⟨by have:=fh.out;omega⟩,⟨by refine sRm ?_;exact Kd.R_mono (Kd.R_far (p:=⟨aC,5,none⟩) (Kd.R_types fm.out ab.out (by decide)) (fun _ hk=>hk.2) (.slice fO fa.length fP)) (fun _ hk=>trivial)⟩,⟨by refine sM ?_;refine qaf ?_ ai.out _;refine sM ?_;exact aa.out⟩,⟨by refine sM ?_;refine qaf ?_ an.out _;refine sM ?_;exact ag.out⟩,⟨by refine sM ?_;refine qaf ?_ ap.out _;refine sM ?_;exact ae.out⟩,⟨by refine sM ?_;refine qak (cs:=#[.int .i64 (wrap64 (a1+1)),.int .i64 (wrap64 (1+ak)),.int .i64 (wrap64 (1+aw)),.int .i64 (rd [4,5,6,8,10,12,20,24] (Go.bits .and .i64 af 7)),.int .i64 (wrap64 ((wrap64 (10 * (wrap64 (1+aA))))+a1)),ax,.slice none 0 0]) ?_ 5 _ rfl;refine sM ?_;exact ab.out⟩,⟨by repeat (first|(with_reducible first|exact HB.out|apply qah|apply qae|apply qag|refine qad ?_ aZ.out|refine qad ?_ a8.out|refine qad ?_ ba.out|refine qad ?_ be.out)|exact HB.out)⟩⟩
        ·rw [if_neg fG] at H
         exact absurd H (by simp)
       ·rw [if_neg eZ] at H
        have eV:((Go.bits .and .i64 (da) 1) == 1)=false:=beq_eq_false_iff_ne.mpr eZ
        have eW:((Go.bits .and .i64 (da) 1) != 1)=true:=bne_iff_ne.mpr eZ
        have H':=qaa.mk H
        clear H
        have j9:=aT.out
        have ka:=aU.out
        have kb:=aq.out
        have kc:=aV.out
        have kd:=ai.out
        have ke:=aK.out
        obtain⟨dY,dZ,d7,d8,d9,ea⟩:=sC6 (w:=wr) aa.out
        obtain⟨eb,ec,ed,ef,eg,eh⟩:=sF6 aa.out
        go_wp2
        go_roundg k1
        case measure=>have:=fh.out;omega
        case rel=>exact⟨(aN),(wrap64 (aD+1)),(al),(ax),(by first|rfl|(simp;done)|(simp [*];done)),(by first|rfl|(simp;done)|(simp [*];done)),H',⟨by have:=fh.out;omega⟩,⟨by refine sRm ?_;exact ac.out⟩,⟨by refine sM ?_;exact aa.out⟩,⟨by refine sM ?_;exact ag.out⟩,⟨by refine sM ?_;exact ae.out⟩,⟨by refine sM ?_;exact ab.out⟩,⟨by repeat (first|(with_reducible first|exact HB.out|apply qah|apply qae|apply qag|refine qad ?_ aZ.out|refine qad ?_ a8.out|refine qad ?_ ba.out|refine qad ?_ be.out)|exact HB.out)⟩⟩
      ·rw [if_neg fw] at H
       exact absurd H (by simp)
     ·rw [if_neg fi] at H
      have eU:decide (aD<(wrap64 (1+ak)))=false:=decide_eq_false fi
      clear fi
      have fx:=qaa.mk H
      clear H
      go_upto_if 66 with (fail)
      go_cut [] (fun wc=>∃ (kq:Nat) (aj:List Int) (ax:Value),qaa (ostinatoref05_Num_task.j1 kq a2 aG aI af aE aH az (wrap64 (a1+1)) (wrap64 (1+ak)) (wrap64 (1+aw)) (rd [4,5,6,8,10,12,20,24] (Go.bits .and .i64 af 7)) (wrap64 ((wrap64 (10 * (wrap64 (1+aA))))+a1)) aj=some (r1,r2,r3,r4,r5,r6,r7))∧qaa (kq≤k1)∧qaa (Kd.R (Kd.int .i64) 2 wc w.heap.size (fun _=>True) ax aj)∧qaa (wc.heap[am]? = some (.cells #[.int .i64 aG,.int .i64 aI,.int .i64 af,.int .i64 aE,.int .i64 aH,(.slice A0_5 az.length c0_5)] 81 (0,0)))∧qaa (wc.heap[ah]? = some (.cells #[.int .i64 0,.int .i64 0,.int .i64 0,.int .i64 0,.int .i64 0,(.slice none 0 0),(.slice none 0 0)] 53 (0,0)))∧qaa (wc.heap[av]? = some (.cells #[.int .i64 4,.int .i64 5,.int .i64 6,.int .i64 8,.int .i64 10,.int .i64 12,.int .i64 20,.int .i64 24] 112 (0,0)))∧qaa (wc.heap[aC]? = some (.cells #[.int .i64 (wrap64 (a1+1)),.int .i64 (wrap64 (1+ak)),.int .i64 (wrap64 (1+aw)),.int .i64 (rd [4,5,6,8,10,12,20,24] (Go.bits .and .i64 af 7)),.int .i64 (wrap64 ((wrap64 (10 * (wrap64 (1+aA))))+a1)),ax,(.slice none 0 0)] 53 (0,0)))∧qaa (Below w.heap.size w wc))
      case first=>
       have H:=fx.out
       clear fx
       by_cases fo:aN > 0
       ·rw [if_pos fo] at H
        have bh:decide (0<aN)=true:=decide_eq_true fo
        clear fo
        (first|rw [bh]|(simp only [qaC,qaE];rw [bh])|skip)
        by_cases fH:al.length<17592186044416
        ·rw [if_pos fH] at H
         have fQ:=qaa.mk fH
         clear fH
         obtain⟨fb,dc⟩:∃ y_:List Int,y_=(al++[wrap64 ((wrap64 (1+ak)) - aN)]):=⟨_,rfl⟩
         replace H:(ostinatoref05_Num_task.j1 k1 a2 aG aI af aE aH az (wrap64 (a1+1)) (wrap64 (1+ak)) (wrap64 (1+aw)) (rd [4,5,6,8,10,12,20,24] (Go.bits .and .i64 af 7)) (wrap64 ((wrap64 (10 * (wrap64 (1+aA))))+a1)) fb)=some (r1,r2,r3,r4,r5,r6,r7):=by first|(rw [dc];with_reducible exact H)|(have eX:=(Option.bind_some _ _).symm.trans H;rw [dc];with_reducible exact eX)|(have eX:=(Option.bind_some _ _).symm.trans H;with_reducible exact eX)|with_reducible exact H|(rw [dc];exact H)|exact H
         have fR:=qaa.mk dc
         clear dc
         have H':=qaa.mk H
         clear H
         have kf:=aK.out
         have kg:=ai.out
         have ki:=aW.out
         have kj:=an.out
         have km:=aX.out
         have kn:=ap.out
         obtain⟨ek,el,en,ep,eq,er,es⟩:=sC7 (w:=wr) ab.out
         obtain⟨et,eu,ev,ew,ex,ey,ez⟩:=sF7 ab.out
         go_wp2_with (first|((with_reducible refine qaB (b:=.append) (xs:=#[.tmp 68,.tmp 72]) rfl ?_);at_builtin;refine Kd.R_append (Kd.int .i64) (w0:=w) w.heap.size rfl (.tmp 68) (.tmp 72) 34 2 (.int .i64 0) 8 rfl Tryd.underlying34 info2 rfl (by decide) (by omega) ax al (wrap64 ((wrap64 (1+ak)) - aN)) [.int .i64 (wrap64 ((wrap64 (1+ak)) - aN))] (fun _=>True) (fun _=>False) rfl rfl ?aP (fun _ hk=>hk.elim) ?aF ?aO ?aB ?aS ?aL ?_;(case aP=>exact rfl);(case aB=>exact sB);(case aF=>exact (fun _ _=>trivial));(case aO=>exact (sR ac.out));(case aS=>exact (qac sB));(case aL=>have:=fQ.out;omega);intro ll lm ho hb hg hat;rw [← fR.out] at ho;replace aa:=qaa.mk (sKg aa.out hg (Kd.R_ne ac.out aa.out (by decide)));replace ag:=qaa.mk (sKg ag.out hg (Kd.R_ne ac.out ag.out (by decide)));replace ae:=qaa.mk (sKg ae.out hg (Kd.R_ne ac.out ae.out (by decide)));replace ab:=qaa.mk (sKg ab.out hg (Kd.R_ne ac.out ab.out (by decide)));replace HB:=qaa.mk (hb);have fp:=qaa.mk (ho);clear ac ho hb hg hat;obtain⟨fS,fT,je⟩:=Kd.R_slice fp.out;subst je;obtain⟨eA,eB,eC,eD,eE,eF,eG⟩:=sC7 (w:=lm) ab.out;obtain⟨eH,eI,eJ,eK,eL,eM,eN⟩:=sF7 ab.out))
         go_meet
         case rel=>exact⟨_,(fb),(.slice fS fb.length fT),H',⟨by have:=fh.out;first|omega|exact Nat.le_refl _⟩,⟨by refine sRm ?_;exact Kd.R_mono (Kd.R_far (p:=⟨aC,5,none⟩) (Kd.R_types fp.out ab.out (by decide)) (fun _ hk=>hk.2) (.slice fS fb.length fT)) (fun _ hk=>trivial)⟩,⟨by refine sM ?_;refine qaf ?_ ai.out _;refine sM ?_;exact aa.out⟩,⟨by refine sM ?_;refine qaf ?_ an.out _;refine sM ?_;exact ag.out⟩,⟨by refine sM ?_;refine qaf ?_ ap.out _;refine sM ?_;exact ae.out⟩,⟨by refine sM ?_;refine qak (cs:=#[.int .i64 (wrap64 (a1+1)),.int .i64 (wrap64 (1+ak)),.int .i64 (wrap64 (1+aw)),.int .i64 (rd [4,5,6,8,10,12,20,24] (Go.bits .and .i64 af 7)),.int .i64 (wrap64 ((wrap64 (10 * (wrap64 (1+aA))))+a1)),ax,.slice none 0 0]) ?_ 5 _ rfl;refine sM ?_;exact ab.out⟩,⟨by repeat (first|(with_reducible first|exact HB.out|apply qah|apply qae|apply qag|refine qad ?_ aZ.out|refine qad ?_ a8.out|refine qad ?_ ba.out|refine qad ?_ be.out)|exact HB.out)⟩⟩
        ·rw [if_neg fH] at H
         exact absurd H (by simp)
       ·rw [if_neg fo] at H
        have bh:decide (0<aN)=false:=decide_eq_false fo
        clear fo
        (first|rw [bh]|(simp only [qaC,qaE];rw [bh])|skip)
        have H':=qaa.mk H
        clear H
        go_wp2
        go_meet
        case rel=>exact⟨_,(al),(ax),H',⟨by have:=fh.out;first|omega|exact Nat.le_refl _⟩,⟨by refine sRm ?_;exact ac.out⟩,⟨by refine sM ?_;exact aa.out⟩,⟨by refine sM ?_;exact ag.out⟩,⟨by refine sM ?_;exact ae.out⟩,⟨by refine sM ?_;exact ab.out⟩,⟨by repeat (first|(with_reducible first|exact HB.out|apply qah|apply qae|apply qag|refine qad ?_ aZ.out|refine qad ?_ a8.out|refine qad ?_ ba.out|refine qad ?_ be.out)|exact HB.out)⟩⟩
      case rest=>
       clear fx
       try clear c1
       try clear c2
       try clear p2
       try clear q2
       try clear jJ
       try clear c3
       try clear c4
       try clear fu
       try clear c5
       try clear fv
       try clear p6
       try clear jK
       try clear jL
       try clear jM
       try clear gc
       try clear ge
       try clear fL
       try clear jN
       try clear jO
       try clear jP
       try clear fi
       try clear eU
       try clear fw
       try clear fk
       try clear fl
       try clear eZ
       try clear eV
       try clear eW
       try clear fG
       try clear ln
       try clear lp
       try clear lq
       try clear lr
       try clear ls
       try clear lv
       try clear lw
       try clear lx
       try clear fo
       try clear bh
       try clear fH
       try clear ly
       try clear lz
       try clear lA
       try clear lB
       try clear lC
       try clear bi bj bm bn bp bq bt bv
       try clear bG bH bI bJ bK bL
       try clear bS bT bU bV bW bX bY bZ
       try clear ck cm co cp cq cr
       try clear cz cA cB cC cD cE
       try clear cL cM cN cO cP cQ cR
       try clear df dg dh di dj dk
       try clear du dv dw dx dy dz dA
       try clear dI dJ dK dL dM dN dO
       try clear dY dZ d7 d8 d9 ea
       try clear ek el en ep eq er es
       try clear eA eB eC eD eE eF eG
       try clear bw bx bz bB bC bD bE bF
       try clear bM bN bO bP bQ bR
       try clear b8 b9 ca cb ce cf cg cj
       try clear ct cu cv cw cx cy
       try clear cF cG cH cI cJ cK
       try clear cS cT cU cV cW cX cY
       try clear dl dm dn dp dq dr
       try clear dB dC dD dE dF dG dH
       try clear dP dQ dT dU dV dW dX
       try clear eb ec ed ef eg eh
       try clear et eu ev ew ex ey ez
       try clear eH eI eJ eK eL eM eN
       try clear p2
       try clear gc
       try clear eO
       try clear p6
       try clear q2
       try clear ge
       try clear eP
       obtain⟨kq,aj,ax,HA,fU,ac,aa,ag,ae,ab,HB⟩:=hcut
       cases kq with
       |zero=>exact absurd HA.out (by simp [ostinatoref05_Num_task.j1])
       |succ fV=>
        have H:=HA.out
        clear HA
        simp only [ostinatoref05_Num_task.j1] at H
        have H':=qaa.mk H
        clear H
        go_wp2
        go_loopg [14] fV (fun kq lD w'=>∃ (aJ:Int) (ar:List Int) (aY:Value),lD=.int .i64 aJ∧qaa (ostinatoref05_Num_task.l1 kq a2 aJ aG aI af aE aH az (wrap64 (a1+1)) (wrap64 (1+ak)) (wrap64 (1+aw)) (rd [4,5,6,8,10,12,20,24] (Go.bits .and .i64 af 7)) (wrap64 ((wrap64 (10 * (wrap64 (1+aA))))+a1)) aj ar=some (r1,r2,r3,r4,r5,r6,r7))∧qaa (kq≤fV)∧qaa (Kd.R (Kd.int .i64) 2 w' w.heap.size (fun _=>True) ax aj)∧qaa (Kd.R (Kd.int .i64) 3 w' w.heap.size (fun _=>True) aY ar)∧qaa (w'.heap[am]? = some (.cells #[.int .i64 aG,.int .i64 aI,.int .i64 af,.int .i64 aE,.int .i64 aH,(.slice A0_5 az.length c0_5)] 81 (0,0)))∧qaa (w'.heap[ah]? = some (.cells #[.int .i64 0,.int .i64 0,.int .i64 0,.int .i64 0,.int .i64 0,(.slice none 0 0),(.slice none 0 0)] 53 (0,0)))∧qaa (w'.heap[av]? = some (.cells #[.int .i64 4,.int .i64 5,.int .i64 6,.int .i64 8,.int .i64 10,.int .i64 12,.int .i64 20,.int .i64 24] 112 (0,0)))∧qaa (w'.heap[aC]? = some (.cells #[.int .i64 (wrap64 (a1+1)),.int .i64 (wrap64 (1+ak)),.int .i64 (wrap64 (1+aw)),.int .i64 (rd [4,5,6,8,10,12,20,24] (Go.bits .and .i64 af 7)),.int .i64 (wrap64 ((wrap64 (10 * (wrap64 (1+aA))))+a1)),ax,aY] 53 (0,0)))∧qaa (Below w.heap.size w w'))
        case atStart=>exact⟨(0),(([]:List Int)),(.slice none 0 0),(by first|rfl|(simp;done)|(simp [*];done)),H',⟨Nat.le_refl _⟩,⟨by refine sRm ?_;exact ac.out⟩,⟨by first|exact Kd.R_nil _ _ _ _ _|exact Kd.N_nil _ _ _ _ _|exact Kd.V_nil _ _ _ _ _|exact Kd.Q_nil _ _ _ _ _|exact Kd.S_nil _ _ _ _ _⟩,⟨by refine sM ?_;exact aa.out⟩,⟨by refine sM ?_;exact ag.out⟩,⟨by refine sM ?_;exact ae.out⟩,⟨by refine sM ?_;exact ab.out⟩,⟨by repeat (first|(with_reducible first|exact HB.out|apply qah|apply qae|apply qag|refine qad ?_ aZ.out|refine qad ?_ a8.out|refine qad ?_ ba.out|refine qad ?_ be.out)|exact HB.out)⟩⟩
        case round=>
         clear H'
         try clear c1
         try clear c2
         try clear p2
         try clear q2
         try clear jJ
         try clear c3
         try clear c4
         try clear fu
         try clear c5
         try clear fv
         try clear p6
         try clear jK
         try clear jL
         try clear jM
         try clear gc
         try clear ge
         try clear fL
         try clear jN
         try clear jO
         try clear jP
         try clear fi
         try clear eU
         try clear fw
         try clear fk
         try clear fl
         try clear eZ
         try clear eV
         try clear eW
         try clear fG
         try clear ln
         try clear lp
         try clear lq
         try clear lr
         try clear ls
         try clear lv
         try clear lw
         try clear lx
         try clear fo
         try clear bh
         try clear fH
         try clear ly
         try clear lz
         try clear lA
         try clear lB
         try clear lC
         try clear bi bj bm bn bp bq bt bv
         try clear bG bH bI bJ bK bL
         try clear bS bT bU bV bW bX bY bZ
         try clear ck cm co cp cq cr
         try clear cz cA cB cC cD cE
         try clear cL cM cN cO cP cQ cR
         try clear df dg dh di dj dk
         try clear du dv dw dx dy dz dA
         try clear dI dJ dK dL dM dN dO
         try clear dY dZ d7 d8 d9 ea
         try clear ek el en ep eq er es
         try clear eA eB eC eD eE eF eG
         try clear bw bx bz bB bC bD bE bF
         try clear bM bN bO bP bQ bR
         try clear b8 b9 ca cb ce cf cg cj
         try clear ct cu cv cw cx cy
         try clear cF cG cH cI cJ cK
         try clear cS cT cU cV cW cX cY
         try clear dl dm dn dp dq dr
         try clear dB dC dD dE dF dG dH
         try clear dP dQ dT dU dV dW dX
         try clear eb ec ed ef eg eh
         try clear et eu ev ew ex ey ez
         try clear eH eI eJ eK eL eM eN
         try clear p2
         try clear gc
         try clear eO
         try clear p6
         try clear q2
         try clear ge
         try clear eP
         obtain⟨aJ,ar,aY,rfl,HA,ko,ac,au,aa,ag,ae,ab,HB⟩:=hrel
         cases gk with
         |zero=>exact absurd HA.out (by simp [ostinatoref05_Num_task.l1])
         |succ k3=>
          have H:=HA.out
          clear HA
          simp only [ostinatoref05_Num_task.l1] at H
          by_cases fI:aJ<(az.length:Int)
          ·rw [if_pos fI] at H
           have fW:decide (aJ<(az.length:Int))=true:=decide_eq_true fI
           clear fI
           by_cases fJ:aJ<5
           ·rw [if_pos fJ] at H
            have fX:decide (aJ<5)=true:=decide_eq_true fJ
            clear fJ
            by_cases gf:0≤aJ
            ·rw [if_pos gf] at H
             have kp:decide (0≤aJ)=true:=decide_eq_true gf
             clear gf
             replace H:=Option.bind_eq_some_iff.mp H
             obtain⟨t212,fY,H⟩:=H
             replace H:(if ar.length<17592186044416 then (ostinatoref05_Num_task.l1 k3 a2 (wrap64 (aJ+1)) aG aI af aE aH az (wrap64 (a1+1)) (wrap64 (1+ak)) (wrap64 (1+aw)) (rd [4,5,6,8,10,12,20,24] (Go.bits .and .i64 af 7)) (wrap64 ((wrap64 (10 * (wrap64 (1+aA))))+a1)) aj (ar++[t212])) else (none))=some (r1,r2,r3,r4,r5,r6,r7):=H
             have lE:=qaa.mk fY
             clear fY
             by_cases gg:ar.length<17592186044416
             ·rw [if_pos gg] at H
              have fZ:=qaa.mk gg
              clear gg
              obtain⟨eY,dd⟩:∃ y_:List Int,y_=(ar++[t212]):=⟨_,rfl⟩
              replace H:(ostinatoref05_Num_task.l1 k3 a2 (wrap64 (aJ+1)) aG aI af aE aH az (wrap64 (a1+1)) (wrap64 (1+ak)) (wrap64 (1+aw)) (rd [4,5,6,8,10,12,20,24] (Go.bits .and .i64 af 7)) (wrap64 ((wrap64 (10 * (wrap64 (1+aA))))+a1)) aj eY)=some (r1,r2,r3,r4,r5,r6,r7):=by first|(rw [dd];with_reducible exact H)|(have eX:=(Option.bind_some _ _).symm.trans H;rw [dd];with_reducible exact eX)|(have eX:=(Option.bind_some _ _).symm.trans H;with_reducible exact eX)|with_reducible exact H|(rw [dd];exact H)|exact H
              have ga:=qaa.mk dd
              clear dd
              have H':=qaa.mk H
              clear H
              have kr:=aT.out
              have ks:=aU.out
              have kt:=aq.out
              have ku:=aV.out
              have kv:=ai.out
              have kx:=aK.out
              obtain⟨gh,gi,gj,gl,gm,gn⟩:=sC6 (w:=wr) aa.out
              obtain⟨go,gp,gq,gr,gt,gu⟩:=sF6 aa.out
              try go_wp2
              replace ac:=qaa.mk (Kd.R_drew ac.out)
              replace au:=qaa.mk (Kd.R_drew au.out)
              replace aa:=qaa.mk (qax aa.out)
              replace ag:=qaa.mk (qax ag.out)
              replace ae:=qaa.mk (qax ae.out)
              replace ab:=qaa.mk (qax ab.out)
              replace HB:=qaa.mk (qag HB.out)
              have fy:0≤(aJ:Int):=of_decide_eq_true sA
              have fz:aJ<(az.length:Int):=of_decide_eq_true sA
              obtain⟨fq,jf,bf⟩:=Kd.at_int fK.out aJ fy fz
              have aM:=bf
              cases jf
              replace bf:=(HB.out.cell (bLt w _ bf)).trans bf
              replace fy:=eq_true fy
              replace fz:=eq_true fz
              refine start_ (n:=13) (S:=fun w'=>w'.cell? ⟨aC,0,none⟩=some (.int .i64 (wrap64 (a1+1)))∧w'.cell? ⟨aC,1,none⟩=some (.int .i64 (wrap64 (1+ak)))∧w'.cell? ⟨aC,2,none⟩=some (.int .i64 (wrap64 (1+aw)))∧w'.cell? ⟨aC,3,none⟩=some (.int .i64 (rd [4,5,6,8,10,12,20,24] (Go.bits .and .i64 af 7)))∧w'.cell? ⟨aC,4,none⟩=some (.int .i64 (wrap64 ((wrap64 (10 * (wrap64 (1+aA))))+a1)))∧w'.cell? ⟨aC,5,none⟩=some (ax)∧w'.cell? ⟨aC,6,none⟩=some (aY)∧w'.cell? ⟨am,0,none⟩=some (.int .i64 aG)∧w'.cell? ⟨am,1,none⟩=some (.int .i64 aI)∧w'.cell? ⟨am,2,none⟩=some (.int .i64 af)∧w'.cell? ⟨am,3,none⟩=some (.int .i64 aE)∧w'.cell? ⟨am,4,none⟩=some (.int .i64 aH)∧w'.cell? ⟨am,5,none⟩=some (.slice (some fq) az.length c0_5)∧w'.cell? (fq.add (aJ).toNat)=some (.int .i64 (rd az aJ))) (ds:=[12]) #[false,false,false,false,false,false,false,false,false,false,false,false,false] (by kernel_rfl) rfl rfl ⟨(qab ab.out 0).trans rfl,(qab ab.out 1).trans rfl,(qab ab.out 2).trans rfl,(qab ab.out 3).trans rfl,(qab ab.out 4).trans rfl,(qab ab.out 5).trans rfl,(qab ab.out 6).trans rfl,(qab aa.out 0).trans rfl,(qab aa.out 1).trans rfl,(qab aa.out 2).trans rfl,(qab aa.out 3).trans rfl,(qab aa.out 4).trans rfl,(qab aa.out 5).trans rfl,((HB.out.cell (bLt w _ aM)).trans aM)⟩ (fun hHeld=>?_);refine qaX ostinatoref05_Num_task.tab18 ostinatoref05_Num_task.bits18 (fun HT_ HW_=>?_)
              generalize wr.drew=lM at ac au aa ag ae ab HB bf hHeld ⊢
              refine sP 0 (some 86) rfl rfl ?_
              refine sP 2 (some 88) rfl rfl ?_
              refine sP 4 (some 90) rfl rfl ?_
              refine sP 7 (some 93) rfl rfl ?_
              refine qaZ (i:=1) (N:=some 87) (v:=?_) (a':=?_) #[true,true,true,false,true,false,false,true,false,false,false,false,false] rfl rfl (qay HT_.out HW_.out (by kernel_rfl)) (fun _ _ _ h=>h) (Or.inl ⟨by rfl,?_⟩) hHeld ?_ ?_
              rotate_left
              ·rintro w' ⟨s0,s1,s2,s3,s4,s5,s6,s7,s8,s9,ky,kz,kA,kB⟩
               go_simp
               with_reducible rfl
              rotate_left
              ·simp only [Act.put,List.setIfInBounds_toArray,List.set_cons_zero,List.set_cons_succ,qaC,qaE]
               rfl
              refine qaZ (i:=3) (N:=some 89) (v:=?_) (a':=?_) #[true,true,true,true,true,false,false,true,false,false,false,false,false] rfl rfl (qay HT_.out HW_.out (by kernel_rfl)) (fun _ _ _ h=>h) (Or.inl ⟨by rfl,?_⟩) hHeld ?_ ?_
              rotate_left
              ·rintro w' ⟨s0,s1,s2,s3,s4,s5,s6,s7,s8,s9,ky,kz,kA,kB⟩
               go_simp
               with_reducible rfl
              rotate_left
              ·simp only [Act.put,List.setIfInBounds_toArray,List.set_cons_zero,List.set_cons_succ,qaC,qaE]
               rfl
              refine sP 5 (some 91) rfl rfl ?_
              refine qaZ (i:=6) (N:=some 92) (v:=?_) (a':=?_) #[true,true,true,true,true,true,true,true,false,false,false,false,false] rfl rfl (qay HT_.out HW_.out (by kernel_rfl)) (fun _ _ _ h=>h) (Or.inl ⟨by rfl,?_⟩) hHeld ?_ ?_
              rotate_left
              ·rintro w' ⟨s0,s1,s2,s3,s4,s5,s6,s7,s8,s9,ky,kz,kA,kB⟩
               go_simp
               with_reducible rfl
              rotate_left
              ·simp only [Act.put,List.setIfInBounds_toArray,List.set_cons_zero,List.set_cons_succ,qaC,qaE]
               rfl
              refine one_ (i:=8) (N:=some 94) #[true,true,true,true,true,true,true,true,true,false,false,false,false] rfl rfl (qaO HT_.out (by kernel_rfl)) (by decide) (fun K hK=>?_)
              refine goes_ Tryd.func54 (by kernel_rfl) rfl #[.int .i64 (rd az aJ),.int .i64 a2] (by rfl) rfl rfl (by (try simp only [List.map_toArray,List.map_cons,List.map_nil]);first|done|rfl|(simp only [List.length_drop,List.length_take];rfl)) ?_
              with_reducible refine (ostinatoref05_rest.calls (rd az aJ) a2 t212 _ lE.out).mono ?_
              rintro e w' ⟨rfl,⟨nd,rfl⟩⟩
              refine⟨_,rfl,?_⟩
              refine hK.out _ _ ⟨(qab ab.out 0).trans rfl,(qab ab.out 1).trans rfl,(qab ab.out 2).trans rfl,(qab ab.out 3).trans rfl,(qab ab.out 4).trans rfl,(qab ab.out 5).trans rfl,(qab ab.out 6).trans rfl,(qab aa.out 0).trans rfl,(qab aa.out 1).trans rfl,(qab aa.out 2).trans rfl,(qab aa.out 3).trans rfl,(qab aa.out 4).trans rfl,(qab aa.out 5).trans rfl,((HB.out.cell (bLt w _ aM)).trans aM)⟩ (fun hHeld=>?_)
              clear hK K
              refine qa0 (a':=?_) ?_ ?_
              rotate_left
              ·show Act.put _ (some 94) _=_
               simp only [Act.put,List.setIfInBounds_toArray,List.set_cons_zero,List.set_cons_succ,qaC,qaE]
               rfl
              refine one_ (i:=9) (N:=some 95) #[true,true,true,true,true,true,true,true,true,true,false,false,false] rfl rfl (qaO HT_.out (by kernel_rfl)) (by decide) (fun K hK=>?_)
              refine value_ (w1:=?_) (v:=?_) (by rfl) rfl ?_ ?_
              rotate_left 2
              ·go_simp
               constructor
               ·rfl
               ·rfl
              refine hK.out _ _ ⟨(qab (qas ab.out _) 0).trans rfl,(qab (qas ab.out _) 1).trans rfl,(qab (qas ab.out _) 2).trans rfl,(qab (qas ab.out _) 3).trans rfl,(qab (qas ab.out _) 4).trans rfl,(qab (qas ab.out _) 5).trans rfl,(qab (qas ab.out _) 6).trans rfl,(qab (qas aa.out _) 0).trans rfl,(qab (qas aa.out _) 1).trans rfl,(qab (qas aa.out _) 2).trans rfl,(qab (qas aa.out _) 3).trans rfl,(qab (qas aa.out _) 4).trans rfl,(qab (qas aa.out _) 5).trans rfl,(World.cell?_alloc_lt _ _ _ (bLt _ _ (((HB.out.cell (bLt w _ aM)).trans aM)))).trans (((HB.out.cell (bLt w _ aM)).trans aM))⟩ (fun hHeld=>?_)
              clear hK K
              refine qa0 (a':=?_) ?_ ?_
              rotate_left
              ·show Act.put _ (some 95) _=_
               simp only [Act.put,List.setIfInBounds_toArray,List.set_cons_zero,List.set_cons_succ,qaC,qaE]
               rfl
              refine one_ (i:=10) (N:=some 96) #[true,true,true,true,true,true,true,true,true,true,true,false,false] rfl rfl (qaO HT_.out (by kernel_rfl)) (by decide) (fun K hK=>?_)
              refine Kd.R_append_step (Kd.int .i64) (w0:=w) w.heap.size (by rfl) (.tmp 87) (.tmp 95) 25 3 (.int .i64 0) 8 rfl Tryd.underlying25 info3 rfl (by decide) (by omega) aY ar t212 [.int .i64 t212] (fun _=>True) (fun _=>False) rfl rfl ?aP (fun _ hk=>hk.elim) ?aF ?aO ?aB ?aS ?aL ?_
              (case aP=>exact rfl)
              (case aB=>exact sB)
              (case aF=>exact (fun _ _=>trivial))
              (case aO=>exact (sR au.out))
              (case aS=>exact (qac sB))
              (case aL=>have:=fZ.out;omega)
              intro lF lG ho hb hg hat
              rw [← ga.out] at ho
              replace ac:=qaa.mk (Kd.R_over' (sR ac.out) (Kd.R_typed (sR au.out)) (by decide) hg)
              replace aa:=qaa.mk (sKg aa.out hg (Kd.R_ne au.out aa.out (by decide)))
              replace ag:=qaa.mk (sKg ag.out hg (Kd.R_ne au.out ag.out (by decide)))
              replace ae:=qaa.mk (sKg ae.out hg (Kd.R_ne au.out ae.out (by decide)))
              replace ab:=qaa.mk (sKg ab.out hg (Kd.R_ne au.out ab.out (by decide)))
              replace HB:=qaa.mk (hb)
              have ft:=qaa.mk (ho)
              clear au ho hb hg hat
              obtain⟨fA,fB,gb⟩:=Kd.R_slice ft.out
              (first|subst gb|(injection gb with kC lH kD;have lI:=kC.symm;have lJ:=kD.symm;clear kC lH kD;subst lI;subst lJ))
              refine hK.out _ _ ⟨(qab ab.out 0).trans rfl,(qab ab.out 1).trans rfl,(qab ab.out 2).trans rfl,(qab ab.out 3).trans rfl,(qab ab.out 4).trans rfl,(qab ab.out 5).trans rfl,(qab ab.out 6).trans rfl,(qab aa.out 0).trans rfl,(qab aa.out 1).trans rfl,(qab aa.out 2).trans rfl,(qab aa.out 3).trans rfl,(qab aa.out 4).trans rfl,(qab aa.out 5).trans rfl,((HB.out.cell (bLt w _ aM)).trans aM)⟩ (fun hHeld=>?_)
              clear hK K
              refine qa0 (a':=?_) ?_ ?_
              rotate_left
              ·show Act.put _ (some 96) _=_
               simp only [Act.put,List.setIfInBounds_toArray,List.set_cons_zero,List.set_cons_succ,qaC,qaE]
               rfl
              refine sP 11 (some 97) rfl rfl ?_
              refine last_ (i:=12) (N:=none) #[true,true,true,true,true,true,true,true,true,true,true,true,true] rfl rfl (qaO HT_.out (by kernel_rfl)) (by decide) (fun K hK=>?_)
              have lK:lG.cell? ⟨aC,6,none⟩=some (aY):=(qab ab.out 6).trans rfl
              have kE:=qan ab.out 6
              have gv:=ai.out
              have gw:=an.out
              have gx:=ap.out
              have gy:=aK.out
              have gz:=aW.out
              have gA:=aX.out
              refine skip_ (w1:=?_) (by rfl) rfl ?_ ?_
              rotate_left
              ·go_simp
               rfl
              refine hK.out _ _ ?_
              clear hK K
              refine done_ (done_of HT_.out (by kernel_rfl)) ?_
              try go_wp2
              go_roundg k3
              case measure=>have:=fh.out;have:=fU.out;have:=ko.out;omega
              case rel=>exact⟨(wrap64 (aJ+1)),(eY),(.slice fA eY.length fB),(by first|rfl|(simp;done)|(simp [*];done)),H',⟨by have:=fh.out;have:=fU.out;have:=ko.out;omega⟩,⟨by refine sRm ?_;exact Kd.R_mono (Kd.R_far (p:=⟨aC,6,none⟩) (Kd.R_types ac.out ab.out (by decide)) (fun _ hk=>hk.2) (.slice fA eY.length fB)) (fun _ hk=>trivial)⟩,⟨by refine sRm ?_;exact Kd.R_mono (Kd.R_far (p:=⟨aC,6,none⟩) (Kd.R_types ft.out ab.out (by decide)) (fun _ hk=>hk.2) (.slice fA eY.length fB)) (fun _ hk=>trivial)⟩,⟨by refine sM ?_;refine qaf ?_ ai.out _;refine sM ?_;exact aa.out⟩,⟨by refine sM ?_;refine qaf ?_ an.out _;refine sM ?_;exact ag.out⟩,⟨by refine sM ?_;refine qaf ?_ ap.out _;refine sM ?_;exact ae.out⟩,⟨by refine sM ?_;refine qak (cs:=#[.int .i64 (wrap64 (a1+1)),.int .i64 (wrap64 (1+ak)),.int .i64 (wrap64 (1+aw)),.int .i64 (rd [4,5,6,8,10,12,20,24] (Go.bits .and .i64 af 7)),.int .i64 (wrap64 ((wrap64 (10 * (wrap64 (1+aA))))+a1)),ax,aY]) ?_ 6 _ rfl;refine sM ?_;exact ab.out⟩,⟨by repeat (first|(with_reducible first|exact HB.out|apply qah|apply qae|apply qag|refine qad ?_ aZ.out|refine qad ?_ a8.out|refine qad ?_ ba.out|refine qad ?_ be.out)|exact HB.out)⟩⟩
             ·rw [if_neg gg] at H
              exact absurd H (by simp)
            ·rw [if_neg gf] at H
             exact absurd H (by simp)
           ·rw [if_neg fJ] at H
            have fX:decide (aJ<5)=false:=decide_eq_false fJ
            clear fJ
            simp only [Option.some.injEq,Prod.mk.injEq] at H
            obtain⟨rfl,rfl,rfl,rfl,rfl,rfl,rfl⟩:=H
            have kF:=aT.out
            have kG:=aU.out
            have kH:=aq.out
            have kI:=aV.out
            have kJ:=ai.out
            have kK:=aK.out
            obtain⟨gB,gC,gD,gE,gF,gG⟩:=sC6 (w:=wr) aa.out
            obtain⟨gH,gI,gJ,gK,gL,gM⟩:=sF6 aa.out
            have kL:=aW.out
            have kM:=an.out
            have kN:=aX.out
            have kO:=ap.out
            obtain⟨gN,gO,gP,gQ,gR,gS,gT⟩:=sC7 (w:=wr) ab.out
            obtain⟨gU,gV,gW,gX,gY,gZ,hH⟩:=sF7 ab.out
            have kP:=ay.out
            have kQ:=bg.out
            obtain⟨hJ,hO,hX,hY,ia,ib,ic⟩:=sC7 (w:=wr) ag.out
            obtain⟨ie,ig,ii,ij,ik,il,im⟩:=sF7 ag.out
            obtain⟨fc,fe,jg⟩:=Kd.R_slice ac.out
            subst jg
            obtain⟨fC,fD,jh⟩:=Kd.R_slice au.out
            subst jh
            go_wp2
            refine bodyPost_ret (results_cell_row rfl _ _ ah 53 #[.int .i64 (wrap64 (a1+1)),.int .i64 (wrap64 (1+ak)),.int .i64 (wrap64 (1+aw)),.int .i64 (rd [4,5,6,8,10,12,20,24] (Go.bits .and .i64 af 7)),.int .i64 (wrap64 ((wrap64 (10 * (wrap64 (1+aA))))+a1)),.slice fc aj.length fe,.slice fC ar.length fD] (0,0) _ rfl (by refine sM ?_;refine qak (cs:=#[.int .i64 (wrap64 (a1+1)),.int .i64 (wrap64 (1+ak)),.int .i64 (wrap64 (1+aw)),.int .i64 (rd [4,5,6,8,10,12,20,24] (Go.bits .and .i64 af 7)),.int .i64 (wrap64 ((wrap64 (10 * (wrap64 (1+aA))))+a1)),.slice fc aj.length fe,.slice none 0 0]) ?_ 6 _ rfl;refine sM ?_;refine qak (cs:=#[.int .i64 (wrap64 (a1+1)),.int .i64 (wrap64 (1+ak)),.int .i64 (wrap64 (1+aw)),.int .i64 (rd [4,5,6,8,10,12,20,24] (Go.bits .and .i64 af 7)),.int .i64 (wrap64 ((wrap64 (10 * (wrap64 (1+aA))))+a1)),.slice none 0 0,.slice none 0 0]) ?_ 5 _ rfl;refine sM ?_;refine qak (cs:=#[.int .i64 (wrap64 (a1+1)),.int .i64 (wrap64 (1+ak)),.int .i64 (wrap64 (1+aw)),.int .i64 (rd [4,5,6,8,10,12,20,24] (Go.bits .and .i64 af 7)),.int .i64 0,.slice none 0 0,.slice none 0 0]) ?_ 4 _ rfl;refine sM ?_;refine qak (cs:=#[.int .i64 (wrap64 (a1+1)),.int .i64 (wrap64 (1+ak)),.int .i64 (wrap64 (1+aw)),.int .i64 0,.int .i64 0,.slice none 0 0,.slice none 0 0]) ?_ 3 _ rfl;refine sM ?_;refine qak (cs:=#[.int .i64 (wrap64 (a1+1)),.int .i64 (wrap64 (1+ak)),.int .i64 0,.int .i64 0,.int .i64 0,.slice none 0 0,.slice none 0 0]) ?_ 2 _ rfl;refine sM ?_;refine qak (cs:=#[.int .i64 (wrap64 (a1+1)),.int .i64 0,.int .i64 0,.int .i64 0,.int .i64 0,.slice none 0 0,.slice none 0 0]) ?_ 1 _ rfl;refine sM ?_;refine qak (cs:=#[.int .i64 0,.int .i64 0,.int .i64 0,.int .i64 0,.int .i64 0,.slice none 0 0,.slice none 0 0]) ?_ 0 _ rfl;refine sM ?_;exact ag.out) Tryd.underlying53 rfl (by kernel_rfl)) rfl ?_
            exact⟨_,_,by first|rfl|(simp [qam,qal]<;>rfl)|(simp [bneNil,bneNilU]<;>rfl)|(simp [*,qam,qal]<;>rfl),by refine sRm ?_;exact Kd.R_mono (Kd.R_far (p:=⟨ah,6,none⟩) (Kd.R_far (p:=⟨ah,5,none⟩) (Kd.R_far (p:=⟨ah,4,none⟩) (Kd.R_far (p:=⟨ah,3,none⟩) (Kd.R_far (p:=⟨ah,2,none⟩) (Kd.R_far (p:=⟨ah,1,none⟩) (Kd.R_far (p:=⟨ah,0,none⟩) (Kd.R_types ac.out ag.out (by decide)) (fun _ hk=>hk.2) (.int .i64 (wrap64 (a1+1)))) (fun _ hk=>hk.2) (.int .i64 (wrap64 (1+ak)))) (fun _ hk=>hk.2) (.int .i64 (wrap64 (1+aw)))) (fun _ hk=>hk.2) (.int .i64 (rd [4,5,6,8,10,12,20,24] (Go.bits .and .i64 af 7)))) (fun _ hk=>hk.2) (.int .i64 (wrap64 ((wrap64 (10 * (wrap64 (1+aA))))+a1)))) (fun _ hk=>hk.2) (.slice fc aj.length fe)) (fun _ hk=>hk.2) (.slice fC ar.length fD)) (fun _ hk=>trivial),by refine sRm ?_;exact Kd.R_mono (Kd.R_far (p:=⟨ah,6,none⟩) (Kd.R_far (p:=⟨ah,5,none⟩) (Kd.R_far (p:=⟨ah,4,none⟩) (Kd.R_far (p:=⟨ah,3,none⟩) (Kd.R_far (p:=⟨ah,2,none⟩) (Kd.R_far (p:=⟨ah,1,none⟩) (Kd.R_far (p:=⟨ah,0,none⟩) (Kd.R_types au.out ag.out (by decide)) (fun _ hk=>hk.2) (.int .i64 (wrap64 (a1+1)))) (fun _ hk=>hk.2) (.int .i64 (wrap64 (1+ak)))) (fun _ hk=>hk.2) (.int .i64 (wrap64 (1+aw)))) (fun _ hk=>hk.2) (.int .i64 (rd [4,5,6,8,10,12,20,24] (Go.bits .and .i64 af 7)))) (fun _ hk=>hk.2) (.int .i64 (wrap64 ((wrap64 (10 * (wrap64 (1+aA))))+a1)))) (fun _ hk=>hk.2) (.slice fc aj.length fe)) (fun _ hk=>hk.2) (.slice fC ar.length fD)) (fun _ hk=>trivial),by repeat (first|(with_reducible first|exact HB.out|apply qah|apply qae|apply qag|refine qad ?_ aZ.out|refine qad ?_ a8.out|refine qad ?_ ba.out|refine qad ?_ be.out)|exact HB.out)⟩
          ·rw [if_neg fI] at H
           have fW:decide (aJ<(az.length:Int))=false:=decide_eq_false fI
           clear fI
           simp only [Option.some.injEq,Prod.mk.injEq] at H
           obtain⟨rfl,rfl,rfl,rfl,rfl,rfl,rfl⟩:=H
           have kR:=aT.out
           have kS:=aU.out
           have kT:=aq.out
           have kU:=aV.out
           have kV:=ai.out
           have kW:=aK.out
           obtain⟨io,ip,iq,ir,iu,iv⟩:=sC6 (w:=wr) aa.out
           obtain⟨iw,ix,iy,iz,iA,iB⟩:=sF6 aa.out
           have kX:=aW.out
           have kY:=an.out
           have kZ:=aX.out
           have k7:=ap.out
           obtain⟨iC,iD,iE,iF,iG,iH,iI⟩:=sC7 (w:=wr) ab.out
           obtain⟨iJ,iK,iL,iM,iN,iO,iP⟩:=sF7 ab.out
           have k8:=ay.out
           have k9:=bg.out
           obtain⟨iQ,iR,iS,iT,iU,iV,iW⟩:=sC7 (w:=wr) ag.out
           obtain⟨iX,iY,iZ,i7,i8,ja,jb⟩:=sF7 ag.out
           obtain⟨ff,fg,ji⟩:=Kd.R_slice ac.out
           subst ji
           obtain⟨fE,fF,jj⟩:=Kd.R_slice au.out
           subst jj
           go_wp2
           refine bodyPost_ret (results_cell_row rfl _ _ ah 53 #[.int .i64 (wrap64 (a1+1)),.int .i64 (wrap64 (1+ak)),.int .i64 (wrap64 (1+aw)),.int .i64 (rd [4,5,6,8,10,12,20,24] (Go.bits .and .i64 af 7)),.int .i64 (wrap64 ((wrap64 (10 * (wrap64 (1+aA))))+a1)),.slice ff aj.length fg,.slice fE ar.length fF] (0,0) _ rfl (by refine sM ?_;refine qak (cs:=#[.int .i64 (wrap64 (a1+1)),.int .i64 (wrap64 (1+ak)),.int .i64 (wrap64 (1+aw)),.int .i64 (rd [4,5,6,8,10,12,20,24] (Go.bits .and .i64 af 7)),.int .i64 (wrap64 ((wrap64 (10 * (wrap64 (1+aA))))+a1)),.slice ff aj.length fg,.slice none 0 0]) ?_ 6 _ rfl;refine sM ?_;refine qak (cs:=#[.int .i64 (wrap64 (a1+1)),.int .i64 (wrap64 (1+ak)),.int .i64 (wrap64 (1+aw)),.int .i64 (rd [4,5,6,8,10,12,20,24] (Go.bits .and .i64 af 7)),.int .i64 (wrap64 ((wrap64 (10 * (wrap64 (1+aA))))+a1)),.slice none 0 0,.slice none 0 0]) ?_ 5 _ rfl;refine sM ?_;refine qak (cs:=#[.int .i64 (wrap64 (a1+1)),.int .i64 (wrap64 (1+ak)),.int .i64 (wrap64 (1+aw)),.int .i64 (rd [4,5,6,8,10,12,20,24] (Go.bits .and .i64 af 7)),.int .i64 0,.slice none 0 0,.slice none 0 0]) ?_ 4 _ rfl;refine sM ?_;refine qak (cs:=#[.int .i64 (wrap64 (a1+1)),.int .i64 (wrap64 (1+ak)),.int .i64 (wrap64 (1+aw)),.int .i64 0,.int .i64 0,.slice none 0 0,.slice none 0 0]) ?_ 3 _ rfl;refine sM ?_;refine qak (cs:=#[.int .i64 (wrap64 (a1+1)),.int .i64 (wrap64 (1+ak)),.int .i64 0,.int .i64 0,.int .i64 0,.slice none 0 0,.slice none 0 0]) ?_ 2 _ rfl;refine sM ?_;refine qak (cs:=#[.int .i64 (wrap64 (a1+1)),.int .i64 0,.int .i64 0,.int .i64 0,.int .i64 0,.slice none 0 0,.slice none 0 0]) ?_ 1 _ rfl;refine sM ?_;refine qak (cs:=#[.int .i64 0,.int .i64 0,.int .i64 0,.int .i64 0,.int .i64 0,.slice none 0 0,.slice none 0 0]) ?_ 0 _ rfl;refine sM ?_;exact ag.out) Tryd.underlying53 rfl (by kernel_rfl)) rfl ?_
           exact⟨_,_,by first|rfl|(simp [qam,qal]<;>rfl)|(simp [bneNil,bneNilU]<;>rfl)|(simp [*,qam,qal]<;>rfl),by refine sRm ?_;exact Kd.R_mono (Kd.R_far (p:=⟨ah,6,none⟩) (Kd.R_far (p:=⟨ah,5,none⟩) (Kd.R_far (p:=⟨ah,4,none⟩) (Kd.R_far (p:=⟨ah,3,none⟩) (Kd.R_far (p:=⟨ah,2,none⟩) (Kd.R_far (p:=⟨ah,1,none⟩) (Kd.R_far (p:=⟨ah,0,none⟩) (Kd.R_types ac.out ag.out (by decide)) (fun _ hk=>hk.2) (.int .i64 (wrap64 (a1+1)))) (fun _ hk=>hk.2) (.int .i64 (wrap64 (1+ak)))) (fun _ hk=>hk.2) (.int .i64 (wrap64 (1+aw)))) (fun _ hk=>hk.2) (.int .i64 (rd [4,5,6,8,10,12,20,24] (Go.bits .and .i64 af 7)))) (fun _ hk=>hk.2) (.int .i64 (wrap64 ((wrap64 (10 * (wrap64 (1+aA))))+a1)))) (fun _ hk=>hk.2) (.slice ff aj.length fg)) (fun _ hk=>hk.2) (.slice fE ar.length fF)) (fun _ hk=>trivial),by refine sRm ?_;exact Kd.R_mono (Kd.R_far (p:=⟨ah,6,none⟩) (Kd.R_far (p:=⟨ah,5,none⟩) (Kd.R_far (p:=⟨ah,4,none⟩) (Kd.R_far (p:=⟨ah,3,none⟩) (Kd.R_far (p:=⟨ah,2,none⟩) (Kd.R_far (p:=⟨ah,1,none⟩) (Kd.R_far (p:=⟨ah,0,none⟩) (Kd.R_types au.out ag.out (by decide)) (fun _ hk=>hk.2) (.int .i64 (wrap64 (a1+1)))) (fun _ hk=>hk.2) (.int .i64 (wrap64 (1+ak)))) (fun _ hk=>hk.2) (.int .i64 (wrap64 (1+aw)))) (fun _ hk=>hk.2) (.int .i64 (rd [4,5,6,8,10,12,20,24] (Go.bits .and .i64 af 7)))) (fun _ hk=>hk.2) (.int .i64 (wrap64 ((wrap64 (10 * (wrap64 (1+aA))))+a1)))) (fun _ hk=>hk.2) (.slice ff aj.length fg)) (fun _ hk=>hk.2) (.slice fE ar.length fF)) (fun _ hk=>trivial),by repeat (first|(with_reducible first|exact HB.out|apply qah|apply qae|apply qag|refine qad ?_ aZ.out|refine qad ?_ a8.out|refine qad ?_ ba.out|refine qad ?_ be.out)|exact HB.out)⟩
  ·rw [if_neg c5] at H
   exact absurd H (by simp)
 ·rw [if_neg c4] at H
  exact absurd H (by simp)
end
end Go.Proofs.YtgnaaokhfpfglaaDoor.PCertTold
end
section
namespace Go.Proofs.YtgnaaokhfpfglaaDoor.PCertTold
open Go.RowKit Go.Proofs.YtgnaaokhfpfglaaDoorW.PrintWords Go.Proofs.YtgnaaokhfpfglaaDoorW.PrintLast Go.Proofs.YtgnaaokhfpfglaaDoorW.PrintMore
attribute [local go_sem] qaW qaU qa3 qa2 qaN qaM qaV qaT
set_option linter.unusedVariables false
set_option linter.unusedSimpArgs false
noncomputable section
def ostinatoref05_System_Made.l0:Nat→Int→Int→Int→List (S81)→Int→Int→List (S53)→Option (Int × Int × (List (S53)))
 |0,_,_,_,_,_,_,_=>none
 |k+1,x4,ag,ah,aa,ab,ae,ac=>if x4<(aa.length:Int) then (if x4<6 then (if 0≤x4 then ((ostinatoref05_Num_task.f k ((qaJ aa x4).f0) ((qaJ aa x4).f1) ((qaJ aa x4).f2) ((qaJ aa x4).f3) ((qaJ aa x4).f4) ((qaJ aa x4).f5) x4 ab).bind fun af=>(if ac.length<1599289640401 then (ostinatoref05_System_Made.l0 k (wrap64 (x4+1)) ag ah aa ab ae (ac++[(⟨af.1,af.2.1,af.2.2.1,af.2.2.2.1,af.2.2.2.2.1,af.2.2.2.2.2.1,af.2.2.2.2.2.2⟩:S53)])) else (none))) else (none)) else (if (ac.length:Int)=0 then (some (ab,ae,(([(⟨1,1,4,4,10,([]:List Int),([]:List Int)⟩:S53)]:List (S53))))) else (some (ab,ae,ac)))) else (if (ac.length:Int)=0 then (some (ab,ae,(([(⟨1,1,4,4,10,([]:List Int),([]:List Int)⟩:S53)]:List (S53))))) else (some (ab,ae,ac)))
def ostinatoref05_System_Made.f (k:Nat) (aa:Int) (ab:Int) (ac:List (S81)):Option (Int × Int × (List (S53))):=(ostinatoref05_rest.f aa 8).bind fun ae=>(ostinatoref05_System_Made.l0 k 0 aa ab ac (wrap64 (1+ae)) (Go.bits .and .i64 ab 3) ([]:List (S53)))
def ostinatoref05_System_Made.T1:Bool × List (List Nat × List Nat):=(true,[([],[]),([0],[0]),([1],[1]),([2],[2]),([],[]),([4],[4]),([5],[5]),([3,6],[3,6]),([],[]),([8,7,2,0,1,2,3,4,5,6,7,8],[7,8])])
def ostinatoref05_System_Made.B1:List Nat:=[0,1,3,7,0,16,48,127,0,511]
theorem ostinatoref05_System_Made.tab1:rtab .any (opsOf Tryd.f35 1)=ostinatoref05_System_Made.T1:=by kernel_rfl
theorem ostinatoref05_System_Made.bits1:waitsOk ostinatoref05_System_Made.T1.2 ostinatoref05_System_Made.B1=true:=by kernel_rfl
def ostinatoref05_System_Made.T5:Bool × List (List Nat × List Nat):=(true,[([],[]),([0],[0]),([],[]),([2],[2]),([],[]),([3,4],[3,4]),([5],[5]),([],[]),([],[]),([8],[8]),([6,7,9],[6,7,9]),([10],[10]),([1,11,10],[1,11]),([0,1,2,3,4,5,6,7,8,9,10,11,12],[]),([13,12,12,0,1,2,3,4,5,6,7,8,9,10,11,12],[12,13])])
def ostinatoref05_System_Made.B5:List Nat:=[0,1,0,4,0,28,60,0,0,256,1020,2044,4095,8191,16383]
theorem ostinatoref05_System_Made.tab5:rtab .any (opsOf Tryd.f35 5)=ostinatoref05_System_Made.T5:=by kernel_rfl
theorem ostinatoref05_System_Made.bits5:waitsOk ostinatoref05_System_Made.T5.2 ostinatoref05_System_Made.B5=true:=by kernel_rfl
theorem ostinatoref05_System_Made.calls (k:Nat) (aC:Int) (aq:Int) (A0_2:Option Addr) (c0_2:Nat) (ap:List (S81)) (r1:Int) (r2:Int) (r3:List (S53)) (w:World) (hr0_2:Kd.C k81 w A0_2 ap.length ap) (hc0_2:ap.length≤c0_2) (h:ostinatoref05_System_Made.f k aC aq ap=some (r1,r2,r3)) :
  Calls Tryd.prog 35 #[.agg #[.int .i64 aC,.int .i64 aq,.slice A0_2 ap.length c0_2]] w fun e w'=>∃ eY:Value,e=.returned (.agg #[.int .i64 r1,.int .i64 r2,eY])∧Kd.S k53 53 w' w.heap.size (fun _=>True) eY r3∧Below w.heap.size w w':=by
 have gn:=Tryd.underlying79
 have go:=Tryd.underlying33
 have gp:=Tryd.underlying81
 have gq:=Tryd.underlying53
 have bV:=qaa.mk hr0_2
 have eZ:=qaa.mk hc0_2
 clear hr0_2 hc0_2
 have HB:=qaa.mk (Below.refl w.heap.size w)
 have H:((ostinatoref05_rest.f aC 8).bind fun ar=>(ostinatoref05_System_Made.l0 k 0 aC aq ap (wrap64 (1+ar)) (Go.bits .and .i64 aq 3) ([]:List (S53))))=some (r1,r2,r3):=h
 clear h
 replace H:=Option.bind_eq_some_iff.mp H
 obtain⟨ar,fa,H⟩:=H
 replace H:(ostinatoref05_System_Made.l0 k 0 aC aq ap (wrap64 (1+ar)) (Go.bits .and .i64 aq 3) ([]:List (S53)))=some (r1,r2,r3):=H
 have A2:=qaa.mk fa
 clear fa
 have H':=qaa.mk H
 clear H
 go_enter Tryd.func35,Tryd.ntmps35
 try go_wp2_with (first|((with_reducible refine qap (N:=1) rfl ?_);refine qao ?hg (N:=1) ?hd (cs:=#[.int .i64 aC,.int .i64 aq,.slice A0_2 ap.length c0_2]) (t:=79) ?hr ?_;(case hd=>rfl);(case hg=>rfl);(case hr=>first|(go_simp;done)|(go_simp;rfl));intro an hg w3 hbox hb;have aa:=qaa.mk (hbox);have fb:=qaa.mk ((by rw [hg];exact (qac sB):w.heap.size≤an));have aT:=qaa.mk ((by rw [hg];exact (qac sB):w.heap.size≤an));replace HB:=qaa.mk (qai sB hb);clear hb hbox hg)|((with_reducible refine qap (N:=2) rfl ?_);refine qao ?hg (N:=2) ?hd (cs:=#[.int .i64 0,.int .i64 0,.slice none 0 0]) (t:=33) ?hr ?_;(case hd=>rfl);(case hg=>rfl);(case hr=>first|(go_simp;done)|(go_simp;rfl));intro al hg w4 hbox hb;have ag:=qaa.mk (hbox);have fc:=qaa.mk ((by rw [hg];exact (qac sB):w.heap.size≤al));have aU:=qaa.mk ((by rw [hg];exact (qac sB):w.heap.size≤al));replace HB:=qaa.mk (qai sB hb);have aD:=qaa.mk ((by rw [hg];exact Nat.ne_of_lt (sLt aa.out):an≠al));have aE:=qaa.mk ((by rw [hg];exact Nat.ne_of_gt (sLt aa.out):al≠an));replace aa:=qaa.mk (sKb aa.out hb);clear hb hbox hg))
 replace aa:=qaa.mk (qax aa.out)
 replace ag:=qaa.mk (qax ag.out)
 replace HB:=qaa.mk (qag HB.out)
 refine start_ (n:=10) (S:=fun w'=>w'.cell? ⟨an,0,none⟩=some (.int .i64 aC)∧w'.cell? ⟨an,1,none⟩=some (.int .i64 aq)∧w'.cell? ⟨an,2,none⟩=some (.slice A0_2 ap.length c0_2)) (ds:=[]) #[false,false,false,false,false,false,false,false,false,false] (by kernel_rfl) rfl rfl ⟨(qab aa.out 0).trans rfl,(qab aa.out 1).trans rfl,(qab aa.out 2).trans rfl⟩ (fun hHeld=>?_);refine qaX ostinatoref05_System_Made.tab1 ostinatoref05_System_Made.bits1 (fun HT_ HW_=>?_)
 generalize w4.drew=w5 at aa ag HB hHeld ⊢
 refine sP 0 (some 5) rfl rfl ?_
 refine sP 4 (some 9) rfl rfl ?_
 refine qaZ (i:=1) (N:=some 6) (v:=?_) (a':=?_) #[true,true,false,false,true,false,false,false,false,false] rfl rfl (qay HT_.out HW_.out (by kernel_rfl)) (fun _ _ _ h=>h) (Or.inl ⟨by rfl,?_⟩) hHeld ?_ ?_
 rotate_left
 ·rintro w' ⟨s0,s1,s2⟩
  go_simp
  with_reducible rfl
 rotate_left
 ·simp only [Act.put,List.setIfInBounds_toArray,List.set_cons_zero,List.set_cons_succ,qaC,qaE]
  rfl
 refine qaZ (i:=5) (N:=some 10) (v:=?_) (a':=?_) #[true,true,false,false,true,true,false,false,false,false] rfl rfl (qay HT_.out HW_.out (by kernel_rfl)) (fun _ _ _ h=>h) (Or.inl ⟨by rfl,?_⟩) hHeld ?_ ?_
 rotate_left
 ·rintro w' ⟨s0,s1,s2⟩
  go_simp
  with_reducible rfl
 rotate_left
 ·simp only [Act.put,List.setIfInBounds_toArray,List.set_cons_zero,List.set_cons_succ,qaC,qaE]
  rfl
 refine sP 6 (some 11) rfl rfl ?_
 refine join_ (σ:=Nat) 1 #[true,true,true,true,true,true,true,true,true,false] (fun s_=>[(7,.int .i64 ar),(3,.pointer (some ⟨s_,0,none⟩)),(8,.int .i64 (wrap64 (1+ar))),(12,.agg #[.int .i64 (wrap64 (1+ar)),.int .i64 (Go.bits .and .i64 aq 3),.slice none 0 0])]) (fun s_ w'=>(w'.cell? ⟨an,0,none⟩=some (.int .i64 aC)∧w'.cell? ⟨an,1,none⟩=some (.int .i64 aq)∧w'.cell? ⟨an,2,none⟩=some (.slice A0_2 ap.length c0_2))∧(w'.heap[an]? = some (.cells #[.int .i64 aC,.int .i64 aq,.slice A0_2 ap.length c0_2] 79 (0,0)))∧(w'.heap[al]? = some (.cells #[.int .i64 0,.int .i64 0,.slice none 0 0] 33 (0,0)))∧(w'.heap[s_]? = some (.cells #[.int .i64 0,.int .i64 0,.slice none 0 0] 33 (0,0)))∧(w.heap.size≤s_)∧(w.heap.size≤s_)∧(an≠s_)∧(s_≠an)∧(al≠s_)∧(s_≠al)∧(Below w.heap.size w w')) ?_ ?_
 rotate_left
 ·intro hCont
  refine two_ (i:=2) (j:=8) (Ni:=some 7) (Nj:=some 3) #[true,true,true,false,true,true,true,false,false,false] #[true,true,false,false,true,true,true,false,true,false] rfl rfl rfl rfl (two_of HT_.out (by kernel_rfl)) (by decide) (by decide) (fun K hK=>?_) (fun K hK=>?_)
  ·skip
   refine goes_ Tryd.func54 (by kernel_rfl) rfl #[.int .i64 aC,.int .i64 8] (by rfl) rfl rfl (by (try simp only [List.map_toArray,List.map_cons,List.map_nil]);first|done|rfl|(simp only [List.length_drop,List.length_take];rfl)) ?_
   with_reducible refine (ostinatoref05_rest.calls aC 8 ar _ A2.out).mono ?_
   rintro e w' ⟨rfl,⟨nd,rfl⟩⟩
   refine⟨_,rfl,?_⟩
   refine hK.out _ _ ⟨(qab aa.out 0).trans rfl,(qab aa.out 1).trans rfl,(qab aa.out 2).trans rfl⟩ (fun hHeld=>?_)
   clear hK K
   refine qa0 (a':=?_) ?_ ?_
   rotate_left
   ·show Act.put _ (some 7) _=_
    simp only [Act.put,List.setIfInBounds_toArray,List.set_cons_zero,List.set_cons_succ,qaC,qaE]
    rfl
   refine sP 3 (some 8) rfl rfl ?_
   refine sP 7 (some 12) rfl rfl ?_
   refine one_ (i:=8) (N:=some 3) #[true,true,true,true,true,true,true,true,true,false] rfl rfl (qaO HT_.out (by kernel_rfl)) (by decide) (fun K hK=>?_)
   refine box_step ?hg (N:=3) ?hd (cs:=#[.int .i64 0,.int .i64 0,.slice none 0 0]) (t:=33) ?hr ?_;(case hd=>rfl);(case hg=>rfl);(case hr=>first|(go_simp;done)|(go_simp;rfl))
   intro ai hg w6 hbox hb
   have af:=qaa.mk (hbox)
   have a8:=qaa.mk ((by rw [hg];exact (qac sB):w.heap.size≤ai))
   have aH:=qaa.mk ((by rw [hg];exact (qac sB):w.heap.size≤ai))
   replace HB:=qaa.mk (qai sB hb)
   have ab:=qaa.mk ((by rw [hg];exact Nat.ne_of_lt (sLt aa.out):an≠ai))
   have aj:=qaa.mk ((by rw [hg];exact Nat.ne_of_gt (sLt aa.out):ai≠an))
   replace aa:=qaa.mk (sKb aa.out hb)
   have ah:=qaa.mk ((by rw [hg];exact Nat.ne_of_lt (sLt ag.out):al≠ai))
   have am:=qaa.mk ((by rw [hg];exact Nat.ne_of_gt (sLt ag.out):ai≠al))
   replace ag:=qaa.mk (sKb ag.out hb)
   clear hb hbox hg
   refine hK.out _ _ ⟨(qab aa.out 0).trans rfl,(qab aa.out 1).trans rfl,(qab aa.out 2).trans rfl⟩ (fun hHeld=>?_)
   clear hK K
   refine qa0 (a':=?_) ?_ ?_
   rotate_left
   ·show Act.put _ (some 3) _=_
    simp only [Act.put,List.setIfInBounds_toArray,List.set_cons_zero,List.set_cons_succ,qaC,qaE]
    rfl
   exact qa0 (by simp only [putAll,Act.put,List.setIfInBounds_toArray,List.set_cons_zero,List.set_cons_succ]) (hCont (ai) _ ⟨hHeld,(sK aa.out),(sK ag.out),(sK af.out),a8.out,aH.out,ab.out,aj.out,ah.out,am.out,sB⟩)
  ·skip
   refine box_step ?hg (N:=3) ?hd (cs:=#[.int .i64 0,.int .i64 0,.slice none 0 0]) (t:=33) ?hr ?_;(case hd=>rfl);(case hg=>rfl);(case hr=>first|(go_simp;done)|(go_simp;rfl))
   intro ai hg w6 hbox hb
   have af:=qaa.mk (hbox)
   have a8:=qaa.mk ((by rw [hg];exact (qac sB):w.heap.size≤ai))
   have aH:=qaa.mk ((by rw [hg];exact (qac sB):w.heap.size≤ai))
   replace HB:=qaa.mk (qai sB hb)
   have ab:=qaa.mk ((by rw [hg];exact Nat.ne_of_lt (sLt aa.out):an≠ai))
   have aj:=qaa.mk ((by rw [hg];exact Nat.ne_of_gt (sLt aa.out):ai≠an))
   replace aa:=qaa.mk (sKb aa.out hb)
   have ah:=qaa.mk ((by rw [hg];exact Nat.ne_of_lt (sLt ag.out):al≠ai))
   have am:=qaa.mk ((by rw [hg];exact Nat.ne_of_gt (sLt ag.out):ai≠al))
   replace ag:=qaa.mk (sKb ag.out hb)
   clear hb hbox hg
   refine hK.out _ _ ⟨(qab aa.out 0).trans rfl,(qab aa.out 1).trans rfl,(qab aa.out 2).trans rfl⟩ (fun hHeld=>?_)
   clear hK K
   refine qa0 (a':=?_) ?_ ?_
   rotate_left
   ·show Act.put _ (some 3) _=_
    simp only [Act.put,List.setIfInBounds_toArray,List.set_cons_zero,List.set_cons_succ,qaC,qaE]
    rfl
   refine one_ (i:=2) (N:=some 7) #[true,true,true,false,true,true,true,false,true,false] rfl rfl (qaO HT_.out (by kernel_rfl)) (by decide) (fun K hK=>?_)
   refine goes_ Tryd.func54 (by kernel_rfl) rfl #[.int .i64 aC,.int .i64 8] (by rfl) rfl rfl (by (try simp only [List.map_toArray,List.map_cons,List.map_nil]);first|done|rfl|(simp only [List.length_drop,List.length_take];rfl)) ?_
   with_reducible refine (ostinatoref05_rest.calls aC 8 ar _ A2.out).mono ?_
   rintro e w' ⟨rfl,⟨nd,rfl⟩⟩
   refine⟨_,rfl,?_⟩
   refine hK.out _ _ ⟨(qab aa.out 0).trans rfl,(qab aa.out 1).trans rfl,(qab aa.out 2).trans rfl⟩ (fun hHeld=>?_)
   clear hK K
   refine qa0 (a':=?_) ?_ ?_
   rotate_left
   ·show Act.put _ (some 7) _=_
    simp only [Act.put,List.setIfInBounds_toArray,List.set_cons_zero,List.set_cons_succ,qaC,qaE]
    rfl
   refine sP 3 (some 8) rfl rfl ?_
   refine sP 7 (some 12) rfl rfl ?_
   exact qa0 (by simp only [putAll,Act.put,List.setIfInBounds_toArray,List.set_cons_zero,List.set_cons_succ]) (hCont (ai) _ ⟨hHeld,(sK aa.out),(sK ag.out),(sK af.out),a8.out,aH.out,ab.out,aj.out,ah.out,am.out,sB⟩)
 rintro ai w7 ⟨hS_,fe,ff,fg,fh,fi,fj,fk,fl,fm,fo⟩
 have fp:qaa (w7.heap[an]? = some (.cells #[.int .i64 aC,.int .i64 aq,.slice A0_2 ap.length c0_2] 79 (0,0))):=⟨fe⟩
 have fq:qaa (w7.heap[al]? = some (.cells #[.int .i64 0,.int .i64 0,.slice none 0 0] 33 (0,0))):=⟨ff⟩
 have ft:qaa (w7.heap[ai]? = some (.cells #[.int .i64 0,.int .i64 0,.slice none 0 0] 33 (0,0))):=⟨fg⟩
 have fu:qaa (w.heap.size≤ai):=⟨fh⟩
 have fv:qaa (w.heap.size≤ai):=⟨fi⟩
 have fw:qaa (an≠ai):=⟨fj⟩
 have fx:qaa (ai≠an):=⟨fk⟩
 have fy:qaa (al≠ai):=⟨fl⟩
 have fz:qaa (ai≠al):=⟨fm⟩
 have fA:qaa (Below w.heap.size w w7):=⟨fo⟩
 clear aa ag HB fe ff fg fh fi fj fk fl fm fo
 have aa:=fp
 have ag:=fq
 have af:=ft
 have a8:=fu
 have aH:=fv
 have ab:=fw
 have aj:=fx
 have ah:=fy
 have am:=fz
 have HB:=fA
 clear fp fq ft fu fv fw fx fy fz fA
 have hHeld:w7.cell? ⟨an,0,none⟩=some (.int .i64 aC)∧w7.cell? ⟨an,1,none⟩=some (.int .i64 aq)∧w7.cell? ⟨an,2,none⟩=some (.slice A0_2 ap.length c0_2):=hS_
 refine qa0 (a':=?_) ?_ ?_
 rotate_left
 ·simp only [putAll,Act.put,List.setIfInBounds_toArray,List.set_cons_zero,List.set_cons_succ]
  rfl
 refine one_ (i:=9) (N:=none) #[true,true,true,true,true,true,true,true,true,true] rfl rfl (qaO HT_.out (by kernel_rfl)) (by decide) (fun K hK=>?_)
 have gG:w7.cell? ⟨ai,0,none⟩=some (.int .i64 0):=(qab af.out 0).trans rfl
 have gr:=qan af.out 0
 have eF:=ab.out
 have eG:=ah.out
 have eH:=aj.out
 have eI:=am.out
 have gH:w7.cell? ⟨ai,1,none⟩=some (.int .i64 0):=(qab af.out 1).trans rfl
 have gt:=qan af.out 1
 have eJ:=ab.out
 have eK:=ah.out
 have eL:=aj.out
 have eM:=am.out
 have gu:w7.cell? ⟨ai,2,none⟩=some (.slice none 0 0):=(qab af.out 2).trans rfl
 have fB:=qan af.out 2
 have cC:=ab.out
 have cD:=ah.out
 have cE:=aj.out
 have cF:=am.out
 refine skip_ (w1:=?_) (by rfl) rfl ?_ ?_
 rotate_left
 ·go_simp
  rfl
 refine hK.out _ _ ⟨((qaq (p:=⟨ai,_,none⟩) ab.out _).trans (((qaq (p:=⟨ai,_,none⟩) ab.out _).trans (((qaq (p:=⟨ai,_,none⟩) ab.out _).trans (hHeld.1)))))),((qaq (p:=⟨ai,_,none⟩) ab.out _).trans (((qaq (p:=⟨ai,_,none⟩) ab.out _).trans (((qaq (p:=⟨ai,_,none⟩) ab.out _).trans (hHeld.2.1)))))),((qaq (p:=⟨ai,_,none⟩) ab.out _).trans (((qaq (p:=⟨ai,_,none⟩) ab.out _).trans (((qaq (p:=⟨ai,_,none⟩) ab.out _).trans (hHeld.2.2))))))⟩ (fun hHeld=>?_)
 clear hK K
 refine done_ (done_of HT_.out (by kernel_rfl)) ?_
 try go_wp2
 go_loopg [4] k (fun kq v4 w'=>∃ (ak:Int) (ae:List (S53)) (au:Value),v4=.int .i64 ak∧qaa (ostinatoref05_System_Made.l0 kq ak aC aq ap (wrap64 (1+ar)) (Go.bits .and .i64 aq 3) ae=some (r1,r2,r3))∧qaa (kq≤k)∧qaa (Kd.S k53 53 w' w.heap.size (fun _=>True) au ae)∧qaa (w'.heap[an]? = some (.cells #[.int .i64 aC,.int .i64 aq,(.slice A0_2 ap.length c0_2)] 79 (0,0)))∧qaa (w'.heap[al]? = some (.cells #[.int .i64 0,.int .i64 0,(.slice none 0 0)] 33 (0,0)))∧qaa (w'.heap[ai]? = some (.cells #[.int .i64 (wrap64 (1+ar)),.int .i64 (Go.bits .and .i64 aq 3),au] 33 (0,0)))∧qaa (Below w.heap.size w w'))
 case atStart=>exact⟨(0),(([]:List (S53))),(.slice none 0 0),(by first|rfl|(simp;done)|(simp [*];done)),H',⟨Nat.le_refl _⟩,⟨by first|exact Kd.S_nil _ _ _ _ _|exact Kd.N_nil _ _ _ _ _|exact Kd.V_nil _ _ _ _ _|exact Kd.Q_nil _ _ _ _ _|exact Kd.R_nil _ _ _ _ _⟩,⟨by refine sM ?_;refine qaf ?_ ab.out _;refine sM ?_;refine qaf ?_ ab.out _;refine sM ?_;refine qaf ?_ ab.out _;refine sM ?_;exact aa.out⟩,⟨by refine sM ?_;refine qaf ?_ ah.out _;refine sM ?_;refine qaf ?_ ah.out _;refine sM ?_;refine qaf ?_ ah.out _;refine sM ?_;exact ag.out⟩,⟨by refine sM ?_;refine qak (cs:=#[.int .i64 (wrap64 (1+ar)),.int .i64 (Go.bits .and .i64 aq 3),.slice none 0 0]) ?_ 2 _ rfl;refine sM ?_;refine qak (cs:=#[.int .i64 (wrap64 (1+ar)),.int .i64 0,.slice none 0 0]) ?_ 1 _ rfl;refine sM ?_;refine qak (cs:=#[.int .i64 0,.int .i64 0,.slice none 0 0]) ?_ 0 _ rfl;refine sM ?_;exact af.out⟩,⟨by repeat (first|(with_reducible first|exact HB.out|apply qah|apply qae|apply qag|refine qad ?_ aT.out|refine qad ?_ aU.out|refine qad ?_ aH.out)|exact HB.out)⟩⟩
 case round=>
  clear H'
  try clear p2
  try clear c3
  try clear c5
  try clear p6
  obtain⟨ak,ae,au,rfl,HA,fC,ac,aa,ag,af,HB⟩:=hrel
  cases gk with
  |zero=>exact absurd HA.out (by simp [ostinatoref05_System_Made.l0])
  |succ k1=>
   have H:=HA.out
   clear HA
   simp only [ostinatoref05_System_Made.l0] at H
   by_cases bT:ak<(ap.length:Int)
   ·rw [if_pos bT] at H
    have bW:decide (ak<(ap.length:Int))=true:=decide_eq_true bT
    clear bT
    by_cases bU:ak<6
    ·rw [if_pos bU] at H
     have bX:decide (ak<6)=true:=decide_eq_true bU
     clear bU
     by_cases cG:0≤ak
     ·rw [if_pos cG] at H
      have fD:decide (0≤ak)=true:=decide_eq_true cG
      clear cG
      replace H:=Option.bind_eq_some_iff.mp H
      obtain⟨⟨bi,bj,bm,bn,bp,aY,aZ⟩,bY,H⟩:=H
      replace H:(if ae.length<1599289640401 then (ostinatoref05_System_Made.l0 k1 (wrap64 (ak+1)) aC aq ap (wrap64 (1+ar)) (Go.bits .and .i64 aq 3) (ae++[(⟨bi,bj,bm,bn,bp,aY,aZ⟩:S53)])) else (none))=some (r1,r2,r3):=H
      have gv:=qaa.mk bY
      clear bY
      by_cases cH:ae.length<1599289640401
      ·rw [if_pos cH] at H
       have bZ:=qaa.mk cH
       clear cH
       obtain⟨bz,aV⟩:∃ y_:List (S53),y_=(ae++[(⟨bi,bj,bm,bn,bp,aY,aZ⟩:S53)]):=⟨_,rfl⟩
       replace H:(ostinatoref05_System_Made.l0 k1 (wrap64 (ak+1)) aC aq ap (wrap64 (1+ar)) (Go.bits .and .i64 aq 3) bz)=some (r1,r2,r3):=by first|(rw [aV];with_reducible exact H)|(have bv:=(Option.bind_some _ _).symm.trans H;rw [aV];with_reducible exact bv)|(have bv:=(Option.bind_some _ _).symm.trans H;with_reducible exact bv)|with_reducible exact H|(rw [aV];exact H)|exact H
       have b8:=qaa.mk aV
       clear aV
       have H':=qaa.mk H
       clear H
       have fE:=aD.out
       have fF:=aE.out
       have fG:=ab.out
       have fH:=aj.out
       obtain⟨cI,cJ,cK⟩:=sC3 (w:=wr) aa.out
       obtain⟨cL,cM,cN⟩:=sF3 aa.out
       try go_wp2
       replace ac:=qaa.mk (Kd.S_drew ac.out)
       replace aa:=qaa.mk (qax aa.out)
       replace ag:=qaa.mk (qax ag.out)
       replace af:=qaa.mk (qax af.out)
       replace HB:=qaa.mk (qag HB.out)
       have bN:0≤(ak:Int):=of_decide_eq_true sA
       have bO:ak<(ap.length:Int):=of_decide_eq_true sA
       obtain⟨aG,bw,bx,eN,aI,aJ,aK,aM,aN,aQ,ba,be⟩:=at_T81 bV.out ak bN bO
       have av:=aQ
       have aw:=aN
       have ax:=aM
       have ay:=aK
       have az:=aJ
       have aA:=aI
       cases eN
       replace aI:=(HB.out.cell (bLt w _ aI)).trans aI
       replace aJ:=(HB.out.cell (bLt w _ aJ)).trans aJ
       replace aK:=(HB.out.cell (bLt w _ aK)).trans aK
       replace aM:=(HB.out.cell (bLt w _ aM)).trans aM
       replace aN:=(HB.out.cell (bLt w _ aN)).trans aN
       replace aQ:=(HB.out.cell (bLt w _ aQ)).trans aQ
       have bf:=qaa.mk be
       have bB:=qaa.mk ba
       clear be ba
       replace bN:=eq_true bN
       replace bO:=eq_true bO
       refine start_ (n:=15) (S:=fun w'=>w'.cell? ⟨ai,0,none⟩=some (.int .i64 (wrap64 (1+ar)))∧w'.cell? ⟨ai,1,none⟩=some (.int .i64 (Go.bits .and .i64 aq 3))∧w'.cell? ⟨ai,2,none⟩=some (au)∧w'.cell? ⟨an,0,none⟩=some (.int .i64 aC)∧w'.cell? ⟨an,1,none⟩=some (.int .i64 aq)∧w'.cell? ⟨an,2,none⟩=some (.slice (some aG) ap.length c0_2)∧w'.cell? (aG.add ((ak).toNat * 6))=some (.int .i64 ((qaJ ap ak).f0))∧w'.cell? ⟨(aG.add ((ak).toNat * 6)).block,(aG.add ((ak).toNat * 6)).off+1,none⟩=some (.int .i64 ((qaJ ap ak).f1))∧w'.cell? ⟨(aG.add ((ak).toNat * 6)).block,(aG.add ((ak).toNat * 6)).off+2,none⟩=some (.int .i64 ((qaJ ap ak).f2))∧w'.cell? ⟨(aG.add ((ak).toNat * 6)).block,(aG.add ((ak).toNat * 6)).off+3,none⟩=some (.int .i64 ((qaJ ap ak).f3))∧w'.cell? ⟨(aG.add ((ak).toNat * 6)).block,(aG.add ((ak).toNat * 6)).off+4,none⟩=some (.int .i64 ((qaJ ap ak).f4))∧w'.cell? ⟨(aG.add ((ak).toNat * 6)).block,(aG.add ((ak).toNat * 6)).off+5,none⟩=some (.slice bw ((qaJ ap ak).f5).length bx)) (ds:=[14]) #[false,false,false,false,false,false,false,false,false,false,false,false,false,false,false] (by kernel_rfl) rfl rfl ⟨(qab af.out 0).trans rfl,(qab af.out 1).trans rfl,(qab af.out 2).trans rfl,(qab aa.out 0).trans rfl,(qab aa.out 1).trans rfl,(qab aa.out 2).trans rfl,((HB.out.cell (bLt w _ aA)).trans aA),((HB.out.cell (bLt w _ az)).trans az),((HB.out.cell (bLt w _ ay)).trans ay),((HB.out.cell (bLt w _ ax)).trans ax),((HB.out.cell (bLt w _ aw)).trans aw),((HB.out.cell (bLt w _ av)).trans av)⟩ (fun hHeld=>?_);refine qaX ostinatoref05_System_Made.tab5 ostinatoref05_System_Made.bits5 (fun HT_ HW_=>?_)
       generalize wr.drew=gI at ac aa ag af HB bf aI aJ aK aM aN aQ hHeld ⊢
       refine sP 0 (some 24) rfl rfl ?_
       refine sP 2 (some 26) rfl rfl ?_
       refine sP 4 (some 28) rfl rfl ?_
       refine sP 7 (some 31) rfl rfl ?_
       refine sP 8 (some 32) rfl rfl ?_
       refine qaZ (i:=1) (N:=some 25) (v:=?_) (a':=?_) #[true,true,true,false,true,false,false,true,true,false,false,false,false,false,false] rfl rfl (qay HT_.out HW_.out (by kernel_rfl)) (fun _ _ _ h=>h) (Or.inl ⟨by rfl,?_⟩) hHeld ?_ ?_
       rotate_left
       ·rintro w' ⟨s0,s1,s2,s3,s4,s5,s6,s7,s8,s9,eO,eP⟩
        go_simp
        with_reducible rfl
       rotate_left
       ·simp only [Act.put,List.setIfInBounds_toArray,List.set_cons_zero,List.set_cons_succ,qaC,qaE]
        rfl
       refine qaZ (i:=3) (N:=some 27) (v:=?_) (a':=?_) #[true,true,true,true,true,false,false,true,true,false,false,false,false,false,false] rfl rfl (qay HT_.out HW_.out (by kernel_rfl)) (fun _ _ _ h=>h) (Or.inl ⟨by rfl,?_⟩) hHeld ?_ ?_
       rotate_left
       ·rintro w' ⟨s0,s1,s2,s3,s4,s5,s6,s7,s8,s9,eO,eP⟩
        go_simp
        with_reducible rfl
       rotate_left
       ·simp only [Act.put,List.setIfInBounds_toArray,List.set_cons_zero,List.set_cons_succ,qaC,qaE]
        rfl
       refine sP 5 (some 29) rfl rfl ?_
       refine qaZ (i:=6) (N:=some 30) (v:=?_) (a':=?_) #[true,true,true,true,true,true,true,true,true,false,false,false,false,false,false] rfl rfl (qay HT_.out HW_.out (by kernel_rfl)) (fun _ _ _ h=>h) (Or.inl ⟨by rfl,?_⟩) hHeld ?_ ?_
       rotate_left
       ·rintro w' ⟨s0,s1,s2,s3,s4,s5,s6,s7,s8,s9,eO,eP⟩
        go_simp
        with_reducible rfl
       rotate_left
       ·simp only [Act.put,List.setIfInBounds_toArray,List.set_cons_zero,List.set_cons_succ,qaC,qaE]
        rfl
       refine qaZ (i:=9) (N:=some 33) (v:=?_) (a':=?_) #[true,true,true,true,true,true,true,true,true,true,false,false,false,false,false] rfl rfl (qay HT_.out HW_.out (by kernel_rfl)) (fun _ _ _ h=>h) (Or.inl ⟨by rfl,?_⟩) hHeld ?_ ?_
       rotate_left
       ·rintro w' ⟨s0,s1,s2,s3,s4,s5,s6,s7,s8,s9,eO,eP⟩
        go_simp
        with_reducible rfl
       rotate_left
       ·simp only [Act.put,List.setIfInBounds_toArray,List.set_cons_zero,List.set_cons_succ,qaC,qaE]
        rfl
       refine one_ (i:=10) (N:=some 34) #[true,true,true,true,true,true,true,true,true,true,true,false,false,false,false] rfl rfl (qaO HT_.out (by kernel_rfl)) (by decide) (fun K hK=>?_)
       refine goes_ Tryd.func55 (by kernel_rfl) rfl #[.agg #[.int .i64 ((qaJ ap ak).f0),.int .i64 ((qaJ ap ak).f1),.int .i64 ((qaJ ap ak).f2),.int .i64 ((qaJ ap ak).f3),.int .i64 ((qaJ ap ak).f4),.slice bw ((qaJ ap ak).f5).length bx],.int .i64 ak,.int .i64 (wrap64 (1+ar))] (by rfl) rfl rfl (by (try simp only [List.map_toArray,List.map_cons,List.map_nil]);first|done|rfl|(simp only [List.length_drop,List.length_take];rfl)) ?_
       with_reducible refine (ostinatoref05_Num_task.calls k1 ((qaJ ap ak).f0) ((qaJ ap ak).f1) ((qaJ ap ak).f2) ((qaJ ap ak).f3) ((qaJ ap ak).f4) _ _ ((qaJ ap ak).f5) ak (wrap64 (1+ar)) bi bj bm bn bp aY aZ _ ?b9 ?ca gv.out).mono ?_
       (case b9=>repeat (first|exact (Kd.C_below bf.out HB.out)|(with_reducible refine Kd.C_alloc ?_ _)|(with_reducible refine Kd.C_drewN ?_ _)|(with_reducible refine Kd.C_drew ?_)))
       (case ca=>exact bB.out)
       rintro e gJ ⟨gw,gx,rfl,eQ,eR,hb⟩
       refine⟨_,rfl,?_⟩
       replace ac:=qaa.mk (Kd.S_mono (Kd.S_told (Kd.S_told (Kd.S_old (by (with_reducible repeat (first|apply Kd.S_alloc|apply Kd.S_drewN|apply Kd.S_drew));exact ac.out) hb) (Kd.R_base eQ)) (Kd.R_base eR)) (fun _ h_=>h_.1))
       have bg:=qaa.mk (Kd.R_lower eQ (qac sB))
       have bh:=qaa.mk (Kd.R_lower eR (qac sB))
       replace aa:=qaa.mk (sKb aa.out hb)
       replace ag:=qaa.mk (sKb ag.out hb)
       replace af:=qaa.mk (sKb af.out hb)
       replace HB:=qaa.mk (qai sB hb)
       (try clear hb)
       (try clear gK)
       (try clear hk)
       (try clear hi)
       (try clear eQ)
       (try clear eR)
       obtain⟨cb,ce,cf⟩:=Kd.R_slice bg.out
       (first|subst cf|(injection cf with bE cg bF;have cj:=bE.symm;have ck:=bF.symm;clear bE cg bF;subst cj;subst ck))
       obtain⟨cm,co,cp⟩:=Kd.R_slice bh.out
       (first|subst cp|(injection cp with bE cg bF;have cj:=bE.symm;have ck:=bF.symm;clear bE cg bF;subst cj;subst ck))
       refine hK.out _ _ ⟨(qab af.out 0).trans rfl,(qab af.out 1).trans rfl,(qab af.out 2).trans rfl,(qab aa.out 0).trans rfl,(qab aa.out 1).trans rfl,(qab aa.out 2).trans rfl,((HB.out.cell (bLt w _ aA)).trans aA),((HB.out.cell (bLt w _ az)).trans az),((HB.out.cell (bLt w _ ay)).trans ay),((HB.out.cell (bLt w _ ax)).trans ax),((HB.out.cell (bLt w _ aw)).trans aw),((HB.out.cell (bLt w _ av)).trans av)⟩ (fun hHeld=>?_)
       clear hK K
       refine qa0 (a':=?_) ?_ ?_
       rotate_left
       ·show Act.put _ (some 34) _=_
        simp only [Act.put,List.setIfInBounds_toArray,List.set_cons_zero,List.set_cons_succ,qaC,qaE]
        rfl
       refine one_ (i:=11) (N:=some 35) #[true,true,true,true,true,true,true,true,true,true,true,true,false,false,false] rfl rfl (qaO HT_.out (by kernel_rfl)) (by decide) (fun K hK=>?_)
       refine value_ (w1:=?_) (v:=?_) (by rfl) rfl ?_ ?_
       rotate_left 2
       ·go_simp
        constructor
        ·rfl
        ·rfl
       refine hK.out _ _ ⟨(qab (qas af.out _) 0).trans rfl,(qab (qas af.out _) 1).trans rfl,(qab (qas af.out _) 2).trans rfl,(qab (qas aa.out _) 0).trans rfl,(qab (qas aa.out _) 1).trans rfl,(qab (qas aa.out _) 2).trans rfl,(World.cell?_alloc_lt _ _ _ (bLt _ _ (((HB.out.cell (bLt w _ aA)).trans aA)))).trans (((HB.out.cell (bLt w _ aA)).trans aA)),(World.cell?_alloc_lt _ _ _ (bLt _ _ (((HB.out.cell (bLt w _ az)).trans az)))).trans (((HB.out.cell (bLt w _ az)).trans az)),(World.cell?_alloc_lt _ _ _ (bLt _ _ (((HB.out.cell (bLt w _ ay)).trans ay)))).trans (((HB.out.cell (bLt w _ ay)).trans ay)),(World.cell?_alloc_lt _ _ _ (bLt _ _ (((HB.out.cell (bLt w _ ax)).trans ax)))).trans (((HB.out.cell (bLt w _ ax)).trans ax)),(World.cell?_alloc_lt _ _ _ (bLt _ _ (((HB.out.cell (bLt w _ aw)).trans aw)))).trans (((HB.out.cell (bLt w _ aw)).trans aw)),(World.cell?_alloc_lt _ _ _ (bLt _ _ (((HB.out.cell (bLt w _ av)).trans av)))).trans (((HB.out.cell (bLt w _ av)).trans av))⟩ (fun hHeld=>?_)
       clear hK K
       refine qa0 (a':=?_) ?_ ?_
       rotate_left
       ·show Act.put _ (some 35) _=_
        simp only [Act.put,List.setIfInBounds_toArray,List.set_cons_zero,List.set_cons_succ,qaC,qaE]
        rfl
       refine one_ (i:=12) (N:=some 36) #[true,true,true,true,true,true,true,true,true,true,true,true,true,false,false] rfl rfl (qaO HT_.out (by kernel_rfl)) (by decide) (fun K hK=>?_)
       refine Kd.S_append_step k53 (w0:=w) w.heap.size (by rfl) (.tmp 25) (.tmp 35) 31 53 (.agg #[(.int .i64 0),(.int .i64 0),(.int .i64 0),(.int .i64 0),(.int .i64 0),(.slice none 0 0),(.slice none 0 0)]) 88 rfl Tryd.underlying31 info53 rfl (by decide) (by omega) au ae (⟨bi,bj,bm,bn,bp,aY,aZ⟩:S53) [.int .i64 bi,.int .i64 bj,.int .i64 bm,.int .i64 bn,.int .i64 bp,.slice cb aY.length ce,.slice cm aZ.length co] (fun _=>True) (fun k_=>some k_=(.slice cb aY.length ce:Value).ownBlock∨some k_=(.slice cm aZ.length co:Value).ownBlock) rfl rfl ?aP (fun k_ hk_=>hk_.elim (fun h_=>((Kd.R_mono (ok':=fun k_=>((fun _=>True)) k_∧some k_≠(au:Value).ownBlock) (Kd.R_apart' (bg.out) (Kd.S_typed ac.out) (by decide)) (fun k_ hk=>⟨trivial,hk.2⟩))).1 k_ h_.symm) (fun h_=>((Kd.R_mono (ok':=fun k_=>((fun _=>True)) k_∧some k_≠(au:Value).ownBlock) (Kd.R_apart' (bh.out) (Kd.S_typed ac.out) (by decide)) (fun k_ hk=>⟨trivial,hk.2⟩))).1 k_ h_.symm)) ?aF ?aO ?aB ?aS ?aL ?_
       (case aP=>exact k53_mkM _ _ _ (⟨bi,bj,bm,bn,bp,aY,aZ⟩:S53) (Kd.R_mono (Kd.R_tight rfl (Kd.R_mono (ok':=fun k_=>((fun _=>True)) k_∧some k_≠(au:Value).ownBlock) (Kd.R_apart' (bg.out) (Kd.S_typed ac.out) (by decide)) (fun k_ hk=>⟨trivial,hk.2⟩))) (fun _ h_=>Or.inl h_)) (Kd.R_mono (Kd.R_tight rfl (Kd.R_mono (ok':=fun k_=>((fun _=>True)) k_∧some k_≠(au:Value).ownBlock) (Kd.R_apart' (bh.out) (Kd.S_typed ac.out) (by decide)) (fun k_ hk=>⟨trivial,hk.2⟩))) (fun _ h_=>Or.inr (h_))))
       (case aB=>exact sB)
       (case aF=>exact (fun _ _=>trivial))
       (case aO=>exact (by (with_reducible repeat (first|apply Kd.S_alloc|apply Kd.S_drewN|apply Kd.S_drew));exact Kd.S_mono ac.out (fun k_ hk=>⟨trivial,fun e_=>e_.elim (fun h_=>hk.1.2 h_) (fun h_=>hk.2 h_)⟩)))
       (case aS=>exact (qac sB))
       (case aL=>have:=bZ.out;omega)
       intro v233 gy ho hb hg hat
       rw [← b8.out] at ho
       replace aa:=qaa.mk (sKg aa.out hg (Kd.S_ne ac.out aa.out (by decide)))
       replace ag:=qaa.mk (sKg ag.out hg (Kd.S_ne ac.out ag.out (by decide)))
       replace af:=qaa.mk (sKg af.out hg (Kd.S_ne ac.out af.out (by decide)))
       replace HB:=qaa.mk (hb)
       have bG:=qaa.mk (ho)
       clear ac bg bh ho hb hg hat
       obtain⟨cq,cr,ct⟩:=Kd.S_slice bG.out
       (first|subst ct|(injection ct with bE cg bF;have cj:=bE.symm;have ck:=bF.symm;clear bE cg bF;subst cj;subst ck))
       refine hK.out _ _ ⟨(qab af.out 0).trans rfl,(qab af.out 1).trans rfl,(qab af.out 2).trans rfl,(qab aa.out 0).trans rfl,(qab aa.out 1).trans rfl,(qab aa.out 2).trans rfl,((HB.out.cell (bLt w _ aA)).trans aA),((HB.out.cell (bLt w _ az)).trans az),((HB.out.cell (bLt w _ ay)).trans ay),((HB.out.cell (bLt w _ ax)).trans ax),((HB.out.cell (bLt w _ aw)).trans aw),((HB.out.cell (bLt w _ av)).trans av)⟩ (fun hHeld=>?_)
       clear hK K
       refine qa0 (a':=?_) ?_ ?_
       rotate_left
       ·show Act.put _ (some 36) _=_
        simp only [Act.put,List.setIfInBounds_toArray,List.set_cons_zero,List.set_cons_succ,qaC,qaE]
        rfl
       refine sP 13 (some 37) rfl rfl ?_
       refine last_ (i:=14) (N:=none) #[true,true,true,true,true,true,true,true,true,true,true,true,true,true,true] rfl rfl (qaO HT_.out (by kernel_rfl)) (by decide) (fun K hK=>?_)
       have gz:gy.cell? ⟨ai,2,none⟩=some (au):=(qab af.out 2).trans rfl
       have fI:=qan af.out 2
       have cO:=ab.out
       have cP:=ah.out
       have cQ:=aj.out
       have cR:=am.out
       refine skip_ (w1:=?_) (by rfl) rfl ?_ ?_
       rotate_left
       ·go_simp
        rfl
       refine hK.out _ _ ?_
       clear hK K
       refine done_ (done_of HT_.out (by kernel_rfl)) ?_
       try go_wp2
       go_roundg k1
       case measure=>have:=fC.out;omega
       case rel=>exact⟨(wrap64 (ak+1)),(bz),(.slice cq bz.length cr),(by first|rfl|(simp;done)|(simp [*];done)),H',⟨by have:=fC.out;omega⟩,⟨by (with_reducible repeat (first|apply Kd.S_alloc|apply Kd.S_drewN|apply Kd.S_drew));exact Kd.S_mono (Kd.S_far (p:=⟨ai,2,none⟩) (Kd.S_types bG.out af.out (by decide)) (fun _ hk=>hk.2) (.slice cq bz.length cr)) (fun _ hk=>trivial)⟩,⟨by refine sM ?_;refine qaf ?_ ab.out _;refine sM ?_;exact aa.out⟩,⟨by refine sM ?_;refine qaf ?_ ah.out _;refine sM ?_;exact ag.out⟩,⟨by refine sM ?_;refine qak (cs:=#[.int .i64 (wrap64 (1+ar)),.int .i64 (Go.bits .and .i64 aq 3),au]) ?_ 2 _ rfl;refine sM ?_;exact af.out⟩,⟨by repeat (first|(with_reducible first|exact HB.out|apply qah|apply qae|apply qag|refine qad ?_ aT.out|refine qad ?_ aU.out|refine qad ?_ aH.out)|exact HB.out)⟩⟩
      ·rw [if_neg cH] at H
       exact absurd H (by simp)
     ·rw [if_neg cG] at H
      exact absurd H (by simp)
    ·rw [if_neg bU] at H
     have bX:decide (ak<6)=false:=decide_eq_false bU
     clear bU
     by_cases bH:(ae.length:Int)=0
     ·rw [if_pos bH] at H
      have cu:((ae.length:Int) == 0)=true:=beq_iff_eq.mpr bH
      have cv:((ae.length:Int) != 0)=false:=bne_eq_false_iff_eq.mpr bH
      clear bH
      obtain⟨bC,aW⟩:∃ y_:List (S53),y_=(([(⟨1,1,4,4,10,([]:List Int),([]:List Int)⟩:S53)]:List (S53))):=⟨_,rfl⟩
      replace H:(some ((wrap64 (1+ar)),(Go.bits .and .i64 aq 3),bC))=some (r1,r2,r3):=by first|(rw [aW];with_reducible exact H)|(have bv:=(Option.bind_some _ _).symm.trans H;rw [aW];with_reducible exact bv)|(have bv:=(Option.bind_some _ _).symm.trans H;with_reducible exact bv)|with_reducible exact H|(rw [aW];exact H)|exact H
      have bI:=qaa.mk aW
      clear aW
      simp only [Option.some.injEq,Prod.mk.injEq] at H
      obtain⟨rfl,rfl,rfl⟩:=H
      have fJ:=aD.out
      have fK:=aE.out
      have fL:=ab.out
      have fM:=aj.out
      obtain⟨cS,cT,cU⟩:=sC3 (w:=wr) aa.out
      obtain⟨cV,cW,cX⟩:=sF3 aa.out
      have fN:=am.out
      have fO:=ah.out
      obtain⟨cY,cZ,da⟩:=sC3 (w:=wr) af.out
      obtain⟨db,dc,dd⟩:=sF3 af.out
      obtain⟨gA,gB,eS⟩:=Kd.S_slice ac.out
      subst eS
      go_wp2_with (first|((with_reducible refine qap (N:=43) rfl ?_);refine Kd.S_lit k53 _ 53 ?hg (N:=43) ?hd (xs:=([(⟨1,1,4,4,10,([]:List Int),([]:List Int)⟩:S53)]:List (S53))) (inner:=[.int .i64 1,.int .i64 1,.int .i64 4,.int .i64 4,.int .i64 10,.slice none 0 0,.slice none 0 0]) (ok:=fun _=>True) (okp:=fun _=>True) ?hr ?hp (fun _ hk=>hk) trivial (Below.refl _ _) (Nat.le_refl _) (by simp) ?_;(case hd=>rfl);(case hg=>rfl);(case hr=>first|(go_simp;done)|(go_simp;rfl));(case hp=>exact (Reps.c7 (show Kd.M k53 _ _ _ (⟨1,1,4,4,10,([]:List Int),([]:List Int)⟩:S53) [.int .i64 1,.int .i64 1,.int .i64 4,.int .i64 4,.int .i64 10,.slice none 0 0,.slice none 0 0] from (k53_mkM _ _ _ (⟨1,1,4,4,10,([]:List Int),([]:List Int)⟩:S53) (Kd.R_nil _ _ _ _ _) (Kd.R_nil _ _ _ _ _))) (Reps.none _ _)));intro gC fP bq hb hg_ hnew_;clear hg_ hnew_;(first|rw [← bI.out] at bq|(simp only [Int.reduceToNat] at bq;rw [← bI.out] at bq));have bJ:=qaa.mk (Kd.S_lower (Kd.S_new' bq (Kd.S_lt (by (with_reducible repeat (first|apply Kd.S_alloc|apply Kd.S_drewN|apply Kd.S_drew));exact ac.out))) (qac sB));replace ac:=qaa.mk (Kd.S_elder' (by (with_reducible repeat (first|apply Kd.S_alloc|apply Kd.S_drewN|apply Kd.S_drew));exact ac.out) (Kd.S_base bq) hb);replace aa:=qaa.mk (sKb aa.out hb);replace ag:=qaa.mk (sKb ag.out hb);replace af:=qaa.mk (sKb af.out hb);replace HB:=qaa.mk (qai sB hb);clear hb bq;obtain⟨bP,bQ,eT⟩:=Kd.S_slice bJ.out;subst eT;obtain⟨de,df,dg⟩:=sC3 (w:=fP) af.out;obtain⟨dh,di,dj⟩:=sF3 af.out;obtain⟨dk,dl,dm⟩:=sC3 (w:=fP) ag.out;obtain⟨dn,dp,dq⟩:=sF3 ag.out))
      refine bodyPost_ret (results_cell_row rfl _ _ al 33 #[.int .i64 (wrap64 (1+ar)),.int .i64 (Go.bits .and .i64 aq 3),.slice bP bC.length bQ] (0,0) _ rfl (by refine sM ?_;refine qak (cs:=#[.int .i64 (wrap64 (1+ar)),.int .i64 (Go.bits .and .i64 aq 3),.slice none 0 0]) ?_ 2 _ rfl;refine sM ?_;refine qak (cs:=#[.int .i64 (wrap64 (1+ar)),.int .i64 0,.slice none 0 0]) ?_ 1 _ rfl;refine sM ?_;refine qak (cs:=#[.int .i64 0,.int .i64 0,.slice none 0 0]) ?_ 0 _ rfl;refine sM ?_;refine qaf ?_ ah.out _;refine sM ?_;exact ag.out) Tryd.underlying33 rfl (by kernel_rfl)) rfl ?_
      exact⟨_,by first|rfl|(simp [qam,qal]<;>rfl)|(simp [bneNil,bneNilU]<;>rfl)|(simp [*,qam,qal]<;>rfl),by (with_reducible repeat (first|apply Kd.S_alloc|apply Kd.S_drewN|apply Kd.S_drew));exact Kd.S_mono (Kd.S_far (p:=⟨al,2,none⟩) (Kd.S_far (p:=⟨al,1,none⟩) (Kd.S_far (p:=⟨al,0,none⟩) (Kd.S_far (p:=⟨ai,2,none⟩) (Kd.S_types (Kd.S_types bJ.out af.out (by decide)) ag.out (by decide)) (fun _ hk=>hk.1.2) (.slice bP bC.length bQ)) (fun _ hk=>hk.2) (.int .i64 (wrap64 (1+ar)))) (fun _ hk=>hk.2) (.int .i64 (Go.bits .and .i64 aq 3))) (fun _ hk=>hk.2) (.slice bP bC.length bQ)) (fun _ hk=>trivial),by repeat (first|(with_reducible first|exact HB.out|apply qah|apply qae|apply qag|refine qad ?_ aT.out|refine qad ?_ aU.out|refine qad ?_ aH.out)|exact HB.out)⟩
     ·rw [if_neg bH] at H
      have cu:((ae.length:Int) == 0)=false:=beq_eq_false_iff_ne.mpr bH
      have cv:((ae.length:Int) != 0)=true:=bne_iff_ne.mpr bH
      have fQ:¬ (ae=[]):=fun h_=>bH (by rw [h_];rfl)
      simp only [Option.some.injEq,Prod.mk.injEq] at H
      obtain⟨rfl,rfl,rfl⟩:=H
      have fR:=aD.out
      have fS:=aE.out
      have fT:=ab.out
      have fU:=aj.out
      obtain⟨dr,du,dv⟩:=sC3 (w:=wr) aa.out
      obtain⟨dw,dx,dy⟩:=sF3 aa.out
      have fV:=am.out
      have fW:=ah.out
      obtain⟨dz,dA,dB⟩:=sC3 (w:=wr) af.out
      obtain⟨dC,dD,dE⟩:=sF3 af.out
      obtain⟨cw,cx,eU⟩:=Kd.S_slice ac.out
      subst eU
      obtain⟨dF,dG,dH⟩:=sC3 (w:=wr) ag.out
      obtain⟨dI,dJ,dK⟩:=sF3 ag.out
      go_wp2
      refine bodyPost_ret (results_cell_row rfl _ _ al 33 #[.int .i64 (wrap64 (1+ar)),.int .i64 (Go.bits .and .i64 aq 3),.slice cw ae.length cx] (0,0) _ rfl (by refine sM ?_;refine qak (cs:=#[.int .i64 (wrap64 (1+ar)),.int .i64 (Go.bits .and .i64 aq 3),.slice none 0 0]) ?_ 2 _ rfl;refine sM ?_;refine qak (cs:=#[.int .i64 (wrap64 (1+ar)),.int .i64 0,.slice none 0 0]) ?_ 1 _ rfl;refine sM ?_;refine qak (cs:=#[.int .i64 0,.int .i64 0,.slice none 0 0]) ?_ 0 _ rfl;refine sM ?_;exact ag.out) Tryd.underlying33 rfl (by kernel_rfl)) rfl ?_
      exact⟨_,by first|rfl|(simp [qam,qal]<;>rfl)|(simp [bneNil,bneNilU]<;>rfl)|(simp [*,qam,qal]<;>rfl),by (with_reducible repeat (first|apply Kd.S_alloc|apply Kd.S_drewN|apply Kd.S_drew));exact Kd.S_mono (Kd.S_far (p:=⟨al,2,none⟩) (Kd.S_far (p:=⟨al,1,none⟩) (Kd.S_far (p:=⟨al,0,none⟩) (Kd.S_types ac.out ag.out (by decide)) (fun _ hk=>hk.2) (.int .i64 (wrap64 (1+ar)))) (fun _ hk=>hk.2) (.int .i64 (Go.bits .and .i64 aq 3))) (fun _ hk=>hk.2) (.slice cw ae.length cx)) (fun _ hk=>trivial),by repeat (first|(with_reducible first|exact HB.out|apply qah|apply qae|apply qag|refine qad ?_ aT.out|refine qad ?_ aU.out|refine qad ?_ aH.out)|exact HB.out)⟩
   ·rw [if_neg bT] at H
    have bW:decide (ak<(ap.length:Int))=false:=decide_eq_false bT
    clear bT
    by_cases bK:(ae.length:Int)=0
    ·rw [if_pos bK] at H
     have cy:((ae.length:Int) == 0)=true:=beq_iff_eq.mpr bK
     have cz:((ae.length:Int) != 0)=false:=bne_eq_false_iff_eq.mpr bK
     clear bK
     obtain⟨bD,aX⟩:∃ y_:List (S53),y_=(([(⟨1,1,4,4,10,([]:List Int),([]:List Int)⟩:S53)]:List (S53))):=⟨_,rfl⟩
     replace H:(some ((wrap64 (1+ar)),(Go.bits .and .i64 aq 3),bD))=some (r1,r2,r3):=by first|(rw [aX];with_reducible exact H)|(have bv:=(Option.bind_some _ _).symm.trans H;rw [aX];with_reducible exact bv)|(have bv:=(Option.bind_some _ _).symm.trans H;with_reducible exact bv)|with_reducible exact H|(rw [aX];exact H)|exact H
     have bL:=qaa.mk aX
     clear aX
     simp only [Option.some.injEq,Prod.mk.injEq] at H
     obtain⟨rfl,rfl,rfl⟩:=H
     have fX:=aD.out
     have fY:=aE.out
     have fZ:=ab.out
     have ga:=aj.out
     obtain⟨dL,dM,dN⟩:=sC3 (w:=wr) aa.out
     obtain⟨dO,dP,dQ⟩:=sF3 aa.out
     have gb:=am.out
     have gc:=ah.out
     obtain⟨dT,dU,dV⟩:=sC3 (w:=wr) af.out
     obtain⟨dW,dX,dY⟩:=sF3 af.out
     obtain⟨gD,gE,eV⟩:=Kd.S_slice ac.out
     subst eV
     go_wp2_with (first|((with_reducible refine qap (N:=43) rfl ?_);refine Kd.S_lit k53 _ 53 ?hg (N:=43) ?hd (xs:=([(⟨1,1,4,4,10,([]:List Int),([]:List Int)⟩:S53)]:List (S53))) (inner:=[.int .i64 1,.int .i64 1,.int .i64 4,.int .i64 4,.int .i64 10,.slice none 0 0,.slice none 0 0]) (ok:=fun _=>True) (okp:=fun _=>True) ?hr ?hp (fun _ hk=>hk) trivial (Below.refl _ _) (Nat.le_refl _) (by simp) ?_;(case hd=>rfl);(case hg=>rfl);(case hr=>first|(go_simp;done)|(go_simp;rfl));(case hp=>exact (Reps.c7 (show Kd.M k53 _ _ _ (⟨1,1,4,4,10,([]:List Int),([]:List Int)⟩:S53) [.int .i64 1,.int .i64 1,.int .i64 4,.int .i64 4,.int .i64 10,.slice none 0 0,.slice none 0 0] from (k53_mkM _ _ _ (⟨1,1,4,4,10,([]:List Int),([]:List Int)⟩:S53) (Kd.R_nil _ _ _ _ _) (Kd.R_nil _ _ _ _ _))) (Reps.none _ _)));intro gF ge bt hb hg_ hnew_;clear hg_ hnew_;(first|rw [← bL.out] at bt|(simp only [Int.reduceToNat] at bt;rw [← bL.out] at bt));have bM:=qaa.mk (Kd.S_lower (Kd.S_new' bt (Kd.S_lt (by (with_reducible repeat (first|apply Kd.S_alloc|apply Kd.S_drewN|apply Kd.S_drew));exact ac.out))) (qac sB));replace ac:=qaa.mk (Kd.S_elder' (by (with_reducible repeat (first|apply Kd.S_alloc|apply Kd.S_drewN|apply Kd.S_drew));exact ac.out) (Kd.S_base bt) hb);replace aa:=qaa.mk (sKb aa.out hb);replace ag:=qaa.mk (sKb ag.out hb);replace af:=qaa.mk (sKb af.out hb);replace HB:=qaa.mk (qai sB hb);clear hb bt;obtain⟨bR,bS,eW⟩:=Kd.S_slice bM.out;subst eW;obtain⟨dZ,d7,d8⟩:=sC3 (w:=ge) af.out;obtain⟨d9,ea,eb⟩:=sF3 af.out;obtain⟨ec,ed,ef⟩:=sC3 (w:=ge) ag.out;obtain⟨eg,eh,ek⟩:=sF3 ag.out))
     refine bodyPost_ret (results_cell_row rfl _ _ al 33 #[.int .i64 (wrap64 (1+ar)),.int .i64 (Go.bits .and .i64 aq 3),.slice bR bD.length bS] (0,0) _ rfl (by refine sM ?_;refine qak (cs:=#[.int .i64 (wrap64 (1+ar)),.int .i64 (Go.bits .and .i64 aq 3),.slice none 0 0]) ?_ 2 _ rfl;refine sM ?_;refine qak (cs:=#[.int .i64 (wrap64 (1+ar)),.int .i64 0,.slice none 0 0]) ?_ 1 _ rfl;refine sM ?_;refine qak (cs:=#[.int .i64 0,.int .i64 0,.slice none 0 0]) ?_ 0 _ rfl;refine sM ?_;refine qaf ?_ ah.out _;refine sM ?_;exact ag.out) Tryd.underlying33 rfl (by kernel_rfl)) rfl ?_
     exact⟨_,by first|rfl|(simp [qam,qal]<;>rfl)|(simp [bneNil,bneNilU]<;>rfl)|(simp [*,qam,qal]<;>rfl),by (with_reducible repeat (first|apply Kd.S_alloc|apply Kd.S_drewN|apply Kd.S_drew));exact Kd.S_mono (Kd.S_far (p:=⟨al,2,none⟩) (Kd.S_far (p:=⟨al,1,none⟩) (Kd.S_far (p:=⟨al,0,none⟩) (Kd.S_far (p:=⟨ai,2,none⟩) (Kd.S_types (Kd.S_types bM.out af.out (by decide)) ag.out (by decide)) (fun _ hk=>hk.1.2) (.slice bR bD.length bS)) (fun _ hk=>hk.2) (.int .i64 (wrap64 (1+ar)))) (fun _ hk=>hk.2) (.int .i64 (Go.bits .and .i64 aq 3))) (fun _ hk=>hk.2) (.slice bR bD.length bS)) (fun _ hk=>trivial),by repeat (first|(with_reducible first|exact HB.out|apply qah|apply qae|apply qag|refine qad ?_ aT.out|refine qad ?_ aU.out|refine qad ?_ aH.out)|exact HB.out)⟩
    ·rw [if_neg bK] at H
     have cy:((ae.length:Int) == 0)=false:=beq_eq_false_iff_ne.mpr bK
     have cz:((ae.length:Int) != 0)=true:=bne_iff_ne.mpr bK
     have gf:¬ (ae=[]):=fun h_=>bK (by rw [h_];rfl)
     simp only [Option.some.injEq,Prod.mk.injEq] at H
     obtain⟨rfl,rfl,rfl⟩:=H
     have gg:=aD.out
     have gh:=aE.out
     have gi:=ab.out
     have gj:=aj.out
     obtain⟨el,en,ep⟩:=sC3 (w:=wr) aa.out
     obtain⟨eq,er,es⟩:=sF3 aa.out
     have gl:=am.out
     have gm:=ah.out
     obtain⟨et,eu,ev⟩:=sC3 (w:=wr) af.out
     obtain⟨ew,ex,ey⟩:=sF3 af.out
     obtain⟨cA,cB,eX⟩:=Kd.S_slice ac.out
     subst eX
     obtain⟨ez,eA,eB⟩:=sC3 (w:=wr) ag.out
     obtain⟨eC,eD,eE⟩:=sF3 ag.out
     go_wp2
     refine bodyPost_ret (results_cell_row rfl _ _ al 33 #[.int .i64 (wrap64 (1+ar)),.int .i64 (Go.bits .and .i64 aq 3),.slice cA ae.length cB] (0,0) _ rfl (by refine sM ?_;refine qak (cs:=#[.int .i64 (wrap64 (1+ar)),.int .i64 (Go.bits .and .i64 aq 3),.slice none 0 0]) ?_ 2 _ rfl;refine sM ?_;refine qak (cs:=#[.int .i64 (wrap64 (1+ar)),.int .i64 0,.slice none 0 0]) ?_ 1 _ rfl;refine sM ?_;refine qak (cs:=#[.int .i64 0,.int .i64 0,.slice none 0 0]) ?_ 0 _ rfl;refine sM ?_;exact ag.out) Tryd.underlying33 rfl (by kernel_rfl)) rfl ?_
     exact⟨_,by first|rfl|(simp [qam,qal]<;>rfl)|(simp [bneNil,bneNilU]<;>rfl)|(simp [*,qam,qal]<;>rfl),by (with_reducible repeat (first|apply Kd.S_alloc|apply Kd.S_drewN|apply Kd.S_drew));exact Kd.S_mono (Kd.S_far (p:=⟨al,2,none⟩) (Kd.S_far (p:=⟨al,1,none⟩) (Kd.S_far (p:=⟨al,0,none⟩) (Kd.S_types ac.out ag.out (by decide)) (fun _ hk=>hk.2) (.int .i64 (wrap64 (1+ar)))) (fun _ hk=>hk.2) (.int .i64 (Go.bits .and .i64 aq 3))) (fun _ hk=>hk.2) (.slice cA ae.length cB)) (fun _ hk=>trivial),by repeat (first|(with_reducible first|exact HB.out|apply qah|apply qae|apply qag|refine qad ?_ aT.out|refine qad ?_ aU.out|refine qad ?_ aH.out)|exact HB.out)⟩
end
end Go.Proofs.YtgnaaokhfpfglaaDoor.PCertTold
end
section
namespace Go.Proofs.YtgnaaokhfpfglaaDoor.PCertTold
open Go.RowKit Go.Proofs.YtgnaaokhfpfglaaDoorW.PrintWords Go.Proofs.YtgnaaokhfpfglaaDoorW.PrintLast Go.Proofs.YtgnaaokhfpfglaaDoorW.PrintMore
attribute [local go_sem] qaW qaU qa3 qa2 qaN qaM qaV qaT
set_option linter.unusedVariables false
set_option linter.unusedSimpArgs false
noncomputable section
def ostinatolaw21_Sys_made.l0:Nat→Int→Int→Int→List (S82)→Int→Int→List (S81)→Option (Int × Int × (List (S53)))
 |0,_,_,_,_,_,_,_=>none
 |k+1,x4,ah,ai,aa,ac,ae,ab=>if x4<(aa.length:Int) then (if x4<6 then (if 0≤x4 then (if ab.length<2199023255552 then (ostinatolaw21_Sys_made.l0 k (wrap64 (x4+1)) ah ai aa ac ae (ab++[(⟨(qaF aa x4).f0,(qaF aa x4).f1,(qaF aa x4).f2,(qaF aa x4).f3,(qaF aa x4).f4,(qaF aa x4).f5⟩:S81)])) else (none)) else (none)) else ((ostinatoref05_System_Made.f k ac ae ab).bind fun af=>(some (af.1,af.2.1,af.2.2)))) else ((ostinatoref05_System_Made.f k ac ae ab).bind fun ag=>(some (ag.1,ag.2.1,ag.2.2)))
def ostinatolaw21_Sys_made.f (k:Nat) (aa:Int) (ab:Int) (ac:List (S82)):Option (Int × Int × (List (S53))):=ostinatolaw21_Sys_made.l0 k 0 aa ab ac aa ab ([]:List (S81))
def ostinatolaw21_Sys_made.T5:Bool × List (List Nat × List Nat):=(true,[([],[]),([0],[0]),([],[]),([2],[2]),([],[]),([3,4],[3,4]),([5],[5]),([6],[6]),([1,7],[1,7]),([0,1,2,3,4,5,6,7,8],[]),([9,8,8,0,1,2,3,4,5,6,7,8],[8,9])])
def ostinatolaw21_Sys_made.B5:List Nat:=[0,1,0,4,0,28,60,124,255,511,1023]
theorem ostinatolaw21_Sys_made.tab5:rtab .any (opsOf Tryd.f17 5)=ostinatolaw21_Sys_made.T5:=by kernel_rfl
theorem ostinatolaw21_Sys_made.bits5:waitsOk ostinatolaw21_Sys_made.T5.2 ostinatolaw21_Sys_made.B5=true:=by kernel_rfl
theorem ostinatolaw21_Sys_made.calls (k:Nat) (aq:Int) (ar:Int) (au:Nat→Prop) (A0_2:Option Addr) (c0_2:Nat) (ae:List (S82)) (r1:Int) (r2:Int) (r3:List (S53)) (w:World) (bX:Kd.V k82 82 w w.heap.size (fun k_=>au k_) (.slice A0_2 ae.length c0_2) ae) (h:ostinatolaw21_Sys_made.f k aq ar ae=some (r1,r2,r3)) :
  Calls Tryd.prog 17 #[.agg #[.int .i64 aq,.int .i64 ar,.slice A0_2 ae.length c0_2]] w fun e w'=>∃ dw:Value,e=.returned (.agg #[.int .i64 r1,.int .i64 r2,dw])∧Kd.N k53 53 w' w.heap.size (fun k_=>(au k_∨w.heap.size≤k_)) dw r3∧Below w.heap.size w w':=by
 have d7:=Tryd.underlying24
 have d8:=Tryd.underlying33
 have d9:=Tryd.underlying79
 have ea:=Tryd.underlying82
 have aD:=qaa.mk (show Kd.V k82 82 w w.heap.size (fun k_=>(au k_∨w.heap.size≤k_)) (.slice A0_2 ae.length c0_2) ae from Kd.V_mono bX (fun k_ hk=>.inl hk))
 have HB:=qaa.mk (Below.refl w.heap.size w)
 have H:(ostinatolaw21_Sys_made.l0 k 0 aq ar ae aq ar ([]:List (S81)))=some (r1,r2,r3):=h
 clear h
 have H':=qaa.mk H
 clear H
 go_enter Tryd.func17,Tryd.ntmps17
 go_wp2_with (first|((with_reducible refine qap (N:=1) rfl ?_);refine qao ?hg (N:=1) ?hd (cs:=#[.int .i64 aq,.int .i64 ar,.slice A0_2 ae.length c0_2]) (t:=24) ?hr ?_;(case hd=>rfl);(case hg=>rfl);(case hr=>first|(go_simp;done)|(go_simp;rfl));intro al hg w2 hbox hb;replace aD:=qaa.mk (Kd.V_below (Kd.V_elderB (sV aD.out) al (Nat.le_of_eq hg.symm)) hb);have ac:=qaa.mk (hbox);have dx:=qaa.mk ((by rw [hg];exact (qac sB):w.heap.size≤al));have aJ:=qaa.mk ((by rw [hg];exact (qac sB):w.heap.size≤al));replace HB:=qaa.mk (qai sB hb);clear hb hbox hg)|((with_reducible refine qap (N:=2) rfl ?_);refine qao ?hg (N:=2) ?hd (cs:=#[.int .i64 0,.int .i64 0,.slice none 0 0]) (t:=33) ?hr ?_;(case hd=>rfl);(case hg=>rfl);(case hr=>first|(go_simp;done)|(go_simp;rfl));intro ai hg w3 hbox hb;replace aD:=qaa.mk (Kd.V_below (Kd.V_elderB (sV aD.out) ai (Nat.le_of_eq hg.symm)) hb);have ak:=qaa.mk (hbox);have dy:=qaa.mk ((by rw [hg];exact (qac sB):w.heap.size≤ai));have aK:=qaa.mk ((by rw [hg];exact (qac sB):w.heap.size≤ai));replace HB:=qaa.mk (qai sB hb);have ax:=qaa.mk ((by rw [hg];exact Nat.ne_of_lt (sLt ac.out):al≠ai));have ay:=qaa.mk ((by rw [hg];exact Nat.ne_of_gt (sLt ac.out):ai≠al));replace ac:=qaa.mk (sKb ac.out hb);clear hb hbox hg;have eb:=ax.out;have ec:=ay.out;obtain⟨bB,bC,bD⟩:=sC3 (w:=w3) ac.out;obtain⟨bE,bF,bG⟩:=sF3 ac.out)|((with_reducible refine qap (N:=3) rfl ?_);refine qao ?hg (N:=3) ?hd (cs:=#[.int .i64 0,.int .i64 0,.slice none 0 0]) (t:=79) ?hr ?_;(case hd=>rfl);(case hg=>rfl);(case hr=>first|(go_simp;done)|(go_simp;rfl));intro ag hg w6 hbox hb;replace aD:=qaa.mk (Kd.V_below (Kd.V_elderB (sV aD.out) ag (Nat.le_of_eq hg.symm)) hb);have aj:=qaa.mk (hbox);have dz:=qaa.mk ((by rw [hg];exact (qac sB):w.heap.size≤ag));have aM:=qaa.mk ((by rw [hg];exact (qac sB):w.heap.size≤ag));replace HB:=qaa.mk (qai sB hb);have am:=qaa.mk ((by rw [hg];exact Nat.ne_of_lt (sLt ac.out):al≠ag));have av:=qaa.mk ((by rw [hg];exact Nat.ne_of_gt (sLt ac.out):ag≠al));replace ac:=qaa.mk (sKb ac.out hb);have ap:=qaa.mk ((by rw [hg];exact Nat.ne_of_lt (sLt ak.out):ai≠ag));have az:=qaa.mk ((by rw [hg];exact Nat.ne_of_gt (sLt ak.out):ag≠ai));replace ak:=qaa.mk (sKb ak.out hb);clear hb hbox hg;have ed:=av.out;have ef:=am.out;have eg:=az.out;have eh:=ap.out;obtain⟨bH,bI,bJ⟩:=sC3 (w:=w6) aj.out;obtain⟨bK,bL,bM⟩:=sF3 aj.out))
 go_loopg [4] k (fun kq v4 w'=>∃ (ab:Int) (af:List (S81)) (an:Value),v4=.int .i64 ab∧qaa (ostinatolaw21_Sys_made.l0 kq ab aq ar ae aq ar af=some (r1,r2,r3))∧qaa (kq≤k)∧qaa (Kd.V k82 82 w' w.heap.size (fun k_=>(au k_∨w.heap.size≤k_)∧some k_≠(an:Value).ownBlock∧k_≠al∧k_≠ai∧k_≠ag) (.slice A0_2 ae.length c0_2) ae)∧qaa (Kd.N k81 81 w' w.heap.size (fun k_=>(au k_∨w.heap.size≤k_)∧k_≠al∧k_≠ai∧k_≠ag) an af)∧qaa (w'.heap[al]? = some (.cells #[.int .i64 aq,.int .i64 ar,(.slice A0_2 ae.length c0_2)] 24 (0,0)))∧qaa (w'.heap[ai]? = some (.cells #[.int .i64 0,.int .i64 0,(.slice none 0 0)] 33 (0,0)))∧qaa (w'.heap[ag]? = some (.cells #[.int .i64 aq,.int .i64 ar,an] 79 (0,0)))∧qaa (Below w.heap.size w w'))
 case atStart=>exact⟨(0),(([]:List (S81))),(.slice none 0 0),(by first|rfl|(simp;done)|(simp [*];done)),H',⟨Nat.le_refl _⟩,⟨by refine sVm ?_;exact Kd.V_mono (Kd.V_far (p:=⟨ag,2,none⟩) (Kd.V_far (p:=⟨ag,1,none⟩) (Kd.V_far (p:=⟨ag,0,none⟩) (Kd.V_mono aD.out (fun k_ hk=>(⟨hk,hk.2⟩:_∧k_≠ag))) (fun _ hk=>hk.2) (.int .i64 aq)) (fun _ hk=>hk.2) (.int .i64 ar)) (fun _ hk=>hk.2) (.slice none 0 0)) (fun _ hk=>⟨hk.1.1.1.1,⟨(by simp [Value.ownBlock]),⟨hk.1.1.1.2,⟨hk.1.1.2,hk.1.2⟩⟩⟩⟩)⟩,⟨by first|exact Kd.S_nil _ _ _ _ _|exact Kd.N_nil _ _ _ _ _|exact Kd.V_nil _ _ _ _ _|exact Kd.Q_nil _ _ _ _ _|exact Kd.R_nil _ _ _ _ _⟩,⟨by refine sM ?_;refine qaf ?_ am.out _;refine sM ?_;refine qaf ?_ am.out _;refine sM ?_;refine qaf ?_ am.out _;refine sM ?_;exact ac.out⟩,⟨by refine sM ?_;refine qaf ?_ ap.out _;refine sM ?_;refine qaf ?_ ap.out _;refine sM ?_;refine qaf ?_ ap.out _;refine sM ?_;exact ak.out⟩,⟨by refine sM ?_;refine qak (cs:=#[.int .i64 aq,.int .i64 ar,.slice none 0 0]) ?_ 2 _ rfl;refine sM ?_;refine qak (cs:=#[.int .i64 aq,.int .i64 0,.slice none 0 0]) ?_ 1 _ rfl;refine sM ?_;refine qak (cs:=#[.int .i64 0,.int .i64 0,.slice none 0 0]) ?_ 0 _ rfl;refine sM ?_;exact aj.out⟩,⟨by repeat (first|(with_reducible first|exact HB.out|apply qah|apply qae|apply qag|refine qad ?_ aJ.out|refine qad ?_ aK.out|refine qad ?_ aM.out)|exact HB.out)⟩⟩
 case round=>
  clear H'
  try clear c1
  try clear p2
  try clear c4
  try clear c7
  try clear c8
  try clear bB bC bD
  try clear bH bI bJ
  try clear bE bF bG
  try clear bK bL bM
  obtain⟨ab,af,an,rfl,HA,dA,ah,aa,ac,ak,aj,HB⟩:=hrel
  cases gk with
  |zero=>exact absurd HA.out (by simp [ostinatolaw21_Sys_made.l0])
  |succ k1=>
   have H:=HA.out
   clear HA
   simp only [ostinatolaw21_Sys_made.l0] at H
   by_cases bV:ab<(ae.length:Int)
   ·rw [if_pos bV] at H
    have bY:decide (ab<(ae.length:Int))=true:=decide_eq_true bV
    clear bV
    by_cases bW:ab<6
    ·rw [if_pos bW] at H
     have bZ:decide (ab<6)=true:=decide_eq_true bW
     clear bW
     by_cases cm:0≤ab
     ·rw [if_pos cm] at H
      have dB:decide (0≤ab)=true:=decide_eq_true cm
      clear cm
      by_cases co:af.length<2199023255552
      ·rw [if_pos co] at H
       have b8:=qaa.mk co
       clear co
       obtain⟨a8,aI⟩:∃ y_:List (S81),y_=(af++[(⟨(qaF ae ab).f0,(qaF ae ab).f1,(qaF ae ab).f2,(qaF ae ab).f3,(qaF ae ab).f4,(qaF ae ab).f5⟩:S81)]):=⟨_,rfl⟩
       replace H:(ostinatolaw21_Sys_made.l0 k1 (wrap64 (ab+1)) aq ar ae aq ar a8)=some (r1,r2,r3):=by first|(rw [aI];with_reducible exact H)|(have dn:=(Option.bind_some _ _).symm.trans H;rw [aI];with_reducible exact dn)|(have dn:=(Option.bind_some _ _).symm.trans H;with_reducible exact dn)|with_reducible exact H|(rw [aI];exact H)|exact H
       have b9:=qaa.mk aI
       clear aI
       have H':=qaa.mk H
       clear H
       have dC:=ax.out
       have dD:=ay.out
       have dE:=am.out
       have dF:=av.out
       obtain⟨cp,cq,cr⟩:=sC3 (w:=wr) ac.out
       obtain⟨ct,cu,cv⟩:=sF3 ac.out
       try go_wp2
       replace ah:=qaa.mk (Kd.V_drew ah.out)
       replace aa:=qaa.mk (Kd.N_drew aa.out)
       replace ac:=qaa.mk (qax ac.out)
       replace ak:=qaa.mk (qax ak.out)
       replace aj:=qaa.mk (qax aj.out)
       replace HB:=qaa.mk (qag HB.out)
       have bm:0≤(ab:Int):=of_decide_eq_true sA
       have bn:ab<(ae.length:Int):=of_decide_eq_true sA
       obtain⟨aw,ba,be,dp,aN,aQ,aT,aU,aV,aE,aW,aX⟩:=at_T82 (Kd.V_reads' ah.out).2.2 ab bm bn
       cases dp
       obtain⟨dG,bN,bO,bf⟩:=Kd.V_get ah.out z82 ab bm (by first|exact bn|exact of_decide_eq_true sA|(have e_:=(Kd.V_reads' ah.out).1;omega))
       obtain⟨cw,cx,rfl,aG,aH⟩:=k82_openF bO
       have aC:=bf 5 _ rfl
       rw [qat _ _ 5 (by omega)] at aC
       replace aC:=Option.some.inj (aC.symm.trans aE)
       injection aC with hva_ hvn_ hvc_
       rw [hva_] at aH
       rw [hvc_] at aG
       have aA:=qaa.mk (show Kd.V (Kd.int .i64) 3 _ w.heap.size _ _ ((qaF ae ab).f5) from Kd.V_mk aG aH)
       clear hva_ hvn_ hvc_ aH aG bf bN
       have bp:=qaa.mk aX
       have cy:=qaa.mk aW
       clear aX aW
       replace bm:=eq_true bm
       replace bn:=eq_true bn
       refine start_ (n:=11) (S:=fun w'=>w'.cell? ⟨ag,0,none⟩=some (.int .i64 aq)∧w'.cell? ⟨ag,1,none⟩=some (.int .i64 ar)∧w'.cell? ⟨ag,2,none⟩=some (an)∧w'.cell? ⟨al,0,none⟩=some (.int .i64 aq)∧w'.cell? ⟨al,1,none⟩=some (.int .i64 ar)∧w'.cell? ⟨al,2,none⟩=some (.slice (some aw) ae.length c0_2)∧w'.cell? (aw.add ((ab).toNat * 6))=some (.int .i64 ((qaF ae ab).f0))∧w'.cell? ⟨(aw.add ((ab).toNat * 6)).block,(aw.add ((ab).toNat * 6)).off+1,none⟩=some (.int .i64 ((qaF ae ab).f1))∧w'.cell? ⟨(aw.add ((ab).toNat * 6)).block,(aw.add ((ab).toNat * 6)).off+2,none⟩=some (.int .i64 ((qaF ae ab).f2))∧w'.cell? ⟨(aw.add ((ab).toNat * 6)).block,(aw.add ((ab).toNat * 6)).off+3,none⟩=some (.int .i64 ((qaF ae ab).f3))∧w'.cell? ⟨(aw.add ((ab).toNat * 6)).block,(aw.add ((ab).toNat * 6)).off+4,none⟩=some (.int .i64 ((qaF ae ab).f4))∧w'.cell? ⟨(aw.add ((ab).toNat * 6)).block,(aw.add ((ab).toNat * 6)).off+5,none⟩=some (.slice ba ((qaF ae ab).f5).length be)) (ds:=[8,10]) #[false,false,false,false,false,false,false,false,false,false,false] (by kernel_rfl) rfl rfl ⟨(qab aj.out 0).trans rfl,(qab aj.out 1).trans rfl,(qab aj.out 2).trans rfl,(qab ac.out 0).trans rfl,(qab ac.out 1).trans rfl,(qab ac.out 2).trans rfl,aN,aQ,aT,aU,aV,aE⟩ (fun hHeld=>?_);refine qaX ostinatolaw21_Sys_made.tab5 ostinatolaw21_Sys_made.bits5 (fun HT_ HW_=>?_)
       generalize wr.drew=ez at ah aa ac ak aj HB aA bp aN aQ aT aU aV aE hHeld ⊢
       refine sP 0 (some 21) rfl rfl ?_
       refine sP 2 (some 23) rfl rfl ?_
       refine sP 4 (some 25) rfl rfl ?_
       refine qaZ (i:=1) (N:=some 22) (v:=?_) (a':=?_) #[true,true,true,false,true,false,false,false,false,false,false] rfl rfl (qay HT_.out HW_.out (by kernel_rfl)) (fun _ _ _ h=>h) (Or.inl ⟨by rfl,?_⟩) hHeld ?_ ?_
       rotate_left
       ·rintro w' ⟨s0,s1,s2,s3,s4,s5,s6,s7,s8,s9,dH,dI⟩
        go_simp
        with_reducible rfl
       rotate_left
       ·simp only [Act.put,List.setIfInBounds_toArray,List.set_cons_zero,List.set_cons_succ,qaC,qaE]
        rfl
       refine qaZ (i:=3) (N:=some 24) (v:=?_) (a':=?_) #[true,true,true,true,true,false,false,false,false,false,false] rfl rfl (qay HT_.out HW_.out (by kernel_rfl)) (fun _ _ _ h=>h) (Or.inl ⟨by rfl,?_⟩) hHeld ?_ ?_
       rotate_left
       ·rintro w' ⟨s0,s1,s2,s3,s4,s5,s6,s7,s8,s9,dH,dI⟩
        go_simp
        with_reducible rfl
       rotate_left
       ·simp only [Act.put,List.setIfInBounds_toArray,List.set_cons_zero,List.set_cons_succ,qaC,qaE]
        rfl
       refine sP 5 (some 26) rfl rfl ?_
       refine qaZ (i:=6) (N:=some 27) (v:=?_) (a':=?_) #[true,true,true,true,true,true,true,false,false,false,false] rfl rfl (qay HT_.out HW_.out (by kernel_rfl)) (fun _ _ _ h=>h) (Or.inl ⟨by rfl,?_⟩) hHeld ?_ ?_
       rotate_left
       ·rintro w' ⟨s0,s1,s2,s3,s4,s5,s6,s7,s8,s9,dH,dI⟩
        go_simp
        with_reducible rfl
       rotate_left
       ·simp only [Act.put,List.setIfInBounds_toArray,List.set_cons_zero,List.set_cons_succ,qaC,qaE]
        rfl
       refine one_ (i:=7) (N:=some 28) #[true,true,true,true,true,true,true,true,false,false,false] rfl rfl (qaO HT_.out (by kernel_rfl)) (by decide) (fun K hK=>?_)
       refine value_ (w1:=?_) (v:=?_) (by rfl) rfl ?_ ?_
       rotate_left 2
       ·go_simp
        constructor
        ·rfl
        ·rfl
       refine hK.out _ _ ⟨(qab (qas aj.out _) 0).trans rfl,(qab (qas aj.out _) 1).trans rfl,(qab (qas aj.out _) 2).trans rfl,(qab (qas ac.out _) 0).trans rfl,(qab (qas ac.out _) 1).trans rfl,(qab (qas ac.out _) 2).trans rfl,(World.cell?_alloc_lt _ _ _ (bLt _ _ (hHeld.2.2.2.2.2.2.1))).trans (hHeld.2.2.2.2.2.2.1),(World.cell?_alloc_lt _ _ _ (bLt _ _ (hHeld.2.2.2.2.2.2.2.1))).trans (hHeld.2.2.2.2.2.2.2.1),(World.cell?_alloc_lt _ _ _ (bLt _ _ (hHeld.2.2.2.2.2.2.2.2.1))).trans (hHeld.2.2.2.2.2.2.2.2.1),(World.cell?_alloc_lt _ _ _ (bLt _ _ (hHeld.2.2.2.2.2.2.2.2.2.1))).trans (hHeld.2.2.2.2.2.2.2.2.2.1),(World.cell?_alloc_lt _ _ _ (bLt _ _ (hHeld.2.2.2.2.2.2.2.2.2.2.1))).trans (hHeld.2.2.2.2.2.2.2.2.2.2.1),(World.cell?_alloc_lt _ _ _ (bLt _ _ (hHeld.2.2.2.2.2.2.2.2.2.2.2))).trans (hHeld.2.2.2.2.2.2.2.2.2.2.2)⟩ (fun hHeld=>?_)
       clear hK K
       refine qa0 (a':=?_) ?_ ?_
       rotate_left
       ·show Act.put _ (some 28) _=_
        simp only [Act.put,List.setIfInBounds_toArray,List.set_cons_zero,List.set_cons_succ,qaC,qaE]
        rfl
       refine last_ (i:=8) (N:=some 29) #[true,true,true,true,true,true,true,true,true,false,false] rfl rfl (qaO HT_.out (by kernel_rfl)) (by decide) (fun K hK=>?_)
       refine Kd.N_append_step k81 (w0:=w) w.heap.size (by rfl) (.tmp 22) (.tmp 28) 77 81 (.agg #[(.int .i64 0),(.int .i64 0),(.int .i64 0),(.int .i64 0),(.int .i64 0),(.slice none 0 0)]) 64 rfl Tryd.underlying77 info81 rfl (by decide) (by omega) an af (⟨(qaF ae ab).f0,(qaF ae ab).f1,(qaF ae ab).f2,(qaF ae ab).f3,(qaF ae ab).f4,(qaF ae ab).f5⟩:S81) [.int .i64 ((qaF ae ab).f0),.int .i64 ((qaF ae ab).f1),.int .i64 ((qaF ae ab).f2),.int .i64 ((qaF ae ab).f3),.int .i64 ((qaF ae ab).f4),.slice ba ((qaF ae ab).f5).length be] (fun k_=>(au k_∨w.heap.size≤k_)∧k_≠al∧k_≠ai∧k_≠ag) (fun k_=>((fun k_=>(au k_∨w.heap.size≤k_)∧k_≠al∧k_≠ai∧k_≠ag)) k_∧some k_≠(an:Value).ownBlock) rfl rfl ?aP (fun _ hk=>hk) ?aF ?aO ?aB ?aS ?aL ?_
       (case aP=>exact (k81_mkF _ _ (⟨(qaF ae ab).f0,(qaF ae ab).f1,(qaF ae ab).f2,(qaF ae ab).f3,(qaF ae ab).f4,(qaF ae ab).f5⟩:S81) (Kd.V_reads' (Kd.V_mono (ok':=(fun k_=>((fun k_=>(au k_∨w.heap.size≤k_)∧k_≠al∧k_≠ai∧k_≠ag)) k_∧some k_≠(an:Value).ownBlock)) (aA.out) (fun k_ hk=>⟨⟨hk.1,⟨hk.2.2.1,⟨hk.2.2.2.1,hk.2.2.2.2⟩⟩⟩,hk.2.1⟩))).2.1 (Kd.V_F (Kd.V_mono (ok':=(fun k_=>((fun k_=>(au k_∨w.heap.size≤k_)∧k_≠al∧k_≠ai∧k_≠ag)) k_∧some k_≠(an:Value).ownBlock)) (aA.out) (fun k_ hk=>⟨⟨hk.1,⟨hk.2.2.1,⟨hk.2.2.2.1,hk.2.2.2.2⟩⟩⟩,hk.2.1⟩)))))
       (case aB=>exact sB)
       (case aF=>exact (fun k_ hk=>⟨(.inr (Nat.le_trans (qac sB) hk)),Kd.freshB (g:=al) (o:=.cells #[.int .i64 aq,.int .i64 ar,.slice (some aw) ae.length c0_2] 24 (0,0)) (sK ac.out) k_ hk,Kd.freshB (g:=ai) (o:=.cells #[.int .i64 0,.int .i64 0,.slice none 0 0] 33 (0,0)) (sK ak.out) k_ hk,Kd.freshB (g:=ag) (o:=.cells #[.int .i64 aq,.int .i64 ar,an] 79 (0,0)) (sK aj.out) k_ hk⟩))
       (case aO=>exact (sN aa.out))
       (case aS=>exact (qac sB))
       (case aL=>have:=b8.out;omega)
       intro ek el ho hb hg hat
       rw [← b9.out] at ho
       replace ah:=qaa.mk (Kd.V_afterv (ok:=(fun k_=>(au k_∨w.heap.size≤k_)∧k_≠al∧k_≠ai∧k_≠ag)) (by refine sVm ?_;exact Kd.V_mono ah.out (fun _ hk=>⟨⟨hk.1,⟨hk.2.2.1,⟨hk.2.2.2.1,hk.2.2.2.2⟩⟩⟩,hk.2.1⟩)) hg hat)
       replace ac:=qaa.mk (sKg ac.out hg (Kd.N_ne aa.out ac.out (by decide)))
       replace ak:=qaa.mk (sKg ak.out hg (Kd.N_ne aa.out ak.out (by decide)))
       replace aj:=qaa.mk (sKg aj.out hg (Kd.N_ne aa.out aj.out (by decide)))
       replace aA:=qaa.mk (Kd.V_afterv (ok:=(fun k_=>(au k_∨w.heap.size≤k_)∧k_≠al∧k_≠ai∧k_≠ag)) (by refine sVm ?_;exact Kd.V_mono aA.out (fun _ hk=>⟨⟨hk.1,⟨hk.2.2.1,⟨hk.2.2.2.1,hk.2.2.2.2⟩⟩⟩,hk.2.1⟩)) hg hat)
       replace HB:=qaa.mk (hb)
       have bw:=qaa.mk (ho)
       clear aa ho hb hg hat
       obtain⟨bP,bQ,ca⟩:=Kd.N_slice bw.out
       (first|subst ca|(injection ca with dJ en dK;have ep:=dJ.symm;have eq:=dK.symm;clear dJ en dK;subst ep;subst eq))
       refine hK.out _ _ ?_
       clear hK K
       refine qa0 (a':=?_) ?_ ?_
       rotate_left
       ·show Act.put _ (some 29) _=_
        simp only [Act.put,List.setIfInBounds_toArray,List.set_cons_zero,List.set_cons_succ,qaC,qaE]
        rfl
       refine sP 9 (some 30) rfl rfl ?_
       refine last_ (i:=10) (N:=none) #[true,true,true,true,true,true,true,true,true,true,true] rfl rfl (qaO HT_.out (by kernel_rfl)) (by decide) (fun K hK=>?_)
       have er:el.cell? ⟨ag,2,none⟩=some (an):=(qab aj.out 2).trans rfl
       have dL:=qan aj.out 2
       have cz:=am.out
       have cA:=ap.out
       have cB:=av.out
       have cC:=az.out
       refine skip_ (w1:=?_) (by rfl) rfl ?_ ?_
       rotate_left
       ·go_simp
        rfl
       refine hK.out _ _ ?_
       clear hK K
       refine done_ (done_of HT_.out (by kernel_rfl)) ?_
       try go_wp2
       go_roundg k1
       case measure=>have:=dA.out;omega
       case rel=>exact⟨(wrap64 (ab+1)),(a8),(.slice bP a8.length bQ),(by first|rfl|(simp;done)|(simp [*];done)),H',⟨by have:=dA.out;omega⟩,⟨by refine sVm ?_;exact Kd.V_mono (Kd.V_far (p:=⟨ag,2,none⟩) (Kd.V_mono ah.out (fun k_ hk=>(⟨hk,hk.1.2.2.2⟩:_∧k_≠ag))) (fun _ hk=>hk.2) (.slice bP a8.length bQ)) (fun _ hk=>⟨hk.1.1.1,⟨hk.1.2,⟨hk.1.1.2.1,⟨hk.1.1.2.2.1,hk.1.1.2.2.2⟩⟩⟩⟩)⟩,⟨by refine sNm ?_;exact Kd.N_mono (Kd.N_far (p:=⟨ag,2,none⟩) (Kd.N_mono bw.out (fun k_ hk=>(⟨hk,hk.2.2.2⟩:_∧k_≠ag))) (fun _ hk=>hk.2) (.slice bP a8.length bQ)) (fun _ hk=>⟨hk.1.1,⟨hk.1.2.1,⟨hk.1.2.2.1,hk.1.2.2.2⟩⟩⟩)⟩,⟨by refine sM ?_;refine qaf ?_ am.out _;refine sM ?_;exact ac.out⟩,⟨by refine sM ?_;refine qaf ?_ ap.out _;refine sM ?_;exact ak.out⟩,⟨by refine sM ?_;refine qak (cs:=#[.int .i64 aq,.int .i64 ar,an]) ?_ 2 _ rfl;refine sM ?_;exact aj.out⟩,⟨by repeat (first|(with_reducible first|exact HB.out|apply qah|apply qae|apply qag|refine qad ?_ aJ.out|refine qad ?_ aK.out|refine qad ?_ aM.out)|exact HB.out)⟩⟩
      ·rw [if_neg co] at H
       exact absurd H (by simp)
     ·rw [if_neg cm] at H
      exact absurd H (by simp)
    ·rw [if_neg bW] at H
     have bZ:decide (ab<6)=false:=decide_eq_false bW
     clear bW
     replace H:=Option.bind_eq_some_iff.mp H
     obtain⟨⟨aY,bg,bq⟩,cb,H⟩:=H
     replace H:(some (aY,bg,bq))=some (r1,r2,r3):=H
     have es:=qaa.mk cb
     clear cb
     simp only [Option.some.injEq,Prod.mk.injEq] at H
     obtain⟨rfl,rfl,rfl⟩:=H
     have dM:=ax.out
     have dN:=ay.out
     have dO:=am.out
     have dP:=av.out
     obtain⟨cD,cE,cF⟩:=sC3 (w:=wr) ac.out
     obtain⟨cG,cH,cI⟩:=sF3 ac.out
     have dQ:=az.out
     have dT:=ap.out
     obtain⟨cJ,cK,cL⟩:=sC3 (w:=wr) aj.out
     obtain⟨cM,cN,cO⟩:=sF3 aj.out
     obtain⟨bR,bS,dq⟩:=Kd.N_slice aa.out
     subst dq
     go_wp2_with (first|((with_reducible refine qaA (f:=35) rfl ?_);refine qa7 (some 32) rfl rfl Tryd.func35 (by kernel_rfl) rfl #[.agg #[.int .i64 aq,.int .i64 ar,.slice bR af.length bS]] rfl (by (try simp only [List.map_toArray,List.map_cons,List.map_nil]);first|done|rfl|(simp only [List.length_drop,List.length_take];rfl)) ?_;(with_reducible refine (ostinatoref05_System_Made.calls k1 aq ar _ _ af aY bg bq _ ?bh ?bi es.out).mono ?_);(case bh=>repeat (first|exact (Kd.N_reads' aa.out).2.2|(with_reducible refine Kd.C_alloc ?_ _)|(with_reducible refine Kd.C_drewN ?_ _)|(with_reducible refine Kd.C_drew ?_)));(case bi=>exact (Kd.N_reads' aa.out).2.1);rintro e et ⟨eu,rfl,bt,hb⟩;refine⟨_,rfl,?_⟩;replace ah:=qaa.mk (Kd.V_elder' (sV ah.out) (Kd.S_base bt) hb);have bx:=qaa.mk (Kd.N_lower (Kd.N_mono (ok':=fun k_=>(au k_∨w.heap.size≤k_)∧some k_≠(.slice bR af.length bS:Value).ownBlock∧k_≠al∧k_≠ai∧k_≠ag) (Kd.S_N (Kd.S_bound bt)) (fun k_ hk_=>⟨(.inr (Nat.le_trans (qac sB) hk_.2.1)),(Kd.fresh' (Kd.N_lt (sN aa.out)) k_ hk_.2.1),(Kd.freshB (g:=al) (o:=.cells #[.int .i64 aq,.int .i64 ar,.slice A0_2 ae.length c0_2] 24 (0,0)) (sK ac.out) k_ hk_.2.1),(Kd.freshB (g:=ai) (o:=.cells #[.int .i64 0,.int .i64 0,.slice none 0 0] 33 (0,0)) (sK ak.out) k_ hk_.2.1),(Kd.freshB (g:=ag) (o:=.cells #[.int .i64 aq,.int .i64 ar,.slice bR af.length bS] 79 (0,0)) (sK aj.out) k_ hk_.2.1)⟩)) (qac sB));replace aa:=qaa.mk (Kd.N_elder' (sN aa.out) (Kd.S_base bt) hb);replace ac:=qaa.mk (sKb ac.out hb);replace ak:=qaa.mk (sKb ak.out hb);replace aj:=qaa.mk (sKb aj.out hb);replace HB:=qaa.mk (qai sB hb);(try clear hb);(try clear ev);(try clear hk);(try clear hi);(try clear bt);obtain⟨cP,cQ,cR⟩:=sC3 (w:=et) ak.out;obtain⟨cS,cT,cU⟩:=sF3 ak.out;obtain⟨ce,cf,dr⟩:=Kd.N_slice bx.out;subst dr))
     refine bodyPost_ret (results_cell_row rfl _ _ ai 33 #[.int .i64 aY,.int .i64 bg,.slice ce bq.length cf] (0,0) _ rfl (by refine sM ?_;refine qak (cs:=#[.int .i64 aY,.int .i64 bg,.slice none 0 0]) ?_ 2 _ rfl;refine sM ?_;refine qak (cs:=#[.int .i64 aY,.int .i64 0,.slice none 0 0]) ?_ 1 _ rfl;refine sM ?_;refine qak (cs:=#[.int .i64 0,.int .i64 0,.slice none 0 0]) ?_ 0 _ rfl;refine sM ?_;exact ak.out) Tryd.underlying33 rfl (by kernel_rfl)) rfl ?_
     exact⟨_,by first|rfl|(simp [qam,qal]<;>rfl)|(simp [bneNil,bneNilU]<;>rfl)|(simp [*,qam,qal]<;>rfl),by refine sNm ?_;exact Kd.N_mono (Kd.N_far (p:=⟨ai,2,none⟩) (Kd.N_far (p:=⟨ai,1,none⟩) (Kd.N_far (p:=⟨ai,0,none⟩) (Kd.N_mono bx.out (fun k_ hk=>(⟨hk,hk.2.2.2.1⟩:_∧k_≠ai))) (fun _ hk=>hk.2) (.int .i64 aY)) (fun _ hk=>hk.2) (.int .i64 bg)) (fun _ hk=>hk.2) (.slice ce bq.length cf)) (fun _ hk=>hk.1.1),by repeat (first|(with_reducible first|exact HB.out|apply qah|apply qae|apply qag|refine qad ?_ aJ.out|refine qad ?_ aK.out|refine qad ?_ aM.out)|exact HB.out)⟩
   ·rw [if_neg bV] at H
    have bY:decide (ab<(ae.length:Int))=false:=decide_eq_false bV
    clear bV
    replace H:=Option.bind_eq_some_iff.mp H
    obtain⟨⟨aZ,bj,bv⟩,cg,H⟩:=H
    replace H:(some (aZ,bj,bv))=some (r1,r2,r3):=H
    have ew:=qaa.mk cg
    clear cg
    simp only [Option.some.injEq,Prod.mk.injEq] at H
    obtain⟨rfl,rfl,rfl⟩:=H
    have dU:=ax.out
    have dV:=ay.out
    have dW:=am.out
    have dX:=av.out
    obtain⟨cV,cW,cX⟩:=sC3 (w:=wr) ac.out
    obtain⟨cY,cZ,da⟩:=sF3 ac.out
    have dY:=az.out
    have dZ:=ap.out
    obtain⟨db,dc,dd⟩:=sC3 (w:=wr) aj.out
    obtain⟨de,df,dg⟩:=sF3 aj.out
    obtain⟨bT,bU,du⟩:=Kd.N_slice aa.out
    subst du
    go_wp2_with (first|((with_reducible refine qaA (f:=35) rfl ?_);refine qa7 (some 32) rfl rfl Tryd.func35 (by kernel_rfl) rfl #[.agg #[.int .i64 aq,.int .i64 ar,.slice bT af.length bU]] rfl (by (try simp only [List.map_toArray,List.map_cons,List.map_nil]);first|done|rfl|(simp only [List.length_drop,List.length_take];rfl)) ?_;(with_reducible refine (ostinatoref05_System_Made.calls k1 aq ar _ _ af aZ bj bv _ ?bh ?bi ew.out).mono ?_);(case bh=>repeat (first|exact (Kd.N_reads' aa.out).2.2|(with_reducible refine Kd.C_alloc ?_ _)|(with_reducible refine Kd.C_drewN ?_ _)|(with_reducible refine Kd.C_drew ?_)));(case bi=>exact (Kd.N_reads' aa.out).2.1);rintro e ex ⟨ey,rfl,bt,hb⟩;refine⟨_,rfl,?_⟩;replace ah:=qaa.mk (Kd.V_elder' (sV ah.out) (Kd.S_base bt) hb);have bz:=qaa.mk (Kd.N_lower (Kd.N_mono (ok':=fun k_=>(au k_∨w.heap.size≤k_)∧some k_≠(.slice bT af.length bU:Value).ownBlock∧k_≠al∧k_≠ai∧k_≠ag) (Kd.S_N (Kd.S_bound bt)) (fun k_ hk_=>⟨(.inr (Nat.le_trans (qac sB) hk_.2.1)),(Kd.fresh' (Kd.N_lt (sN aa.out)) k_ hk_.2.1),(Kd.freshB (g:=al) (o:=.cells #[.int .i64 aq,.int .i64 ar,.slice A0_2 ae.length c0_2] 24 (0,0)) (sK ac.out) k_ hk_.2.1),(Kd.freshB (g:=ai) (o:=.cells #[.int .i64 0,.int .i64 0,.slice none 0 0] 33 (0,0)) (sK ak.out) k_ hk_.2.1),(Kd.freshB (g:=ag) (o:=.cells #[.int .i64 aq,.int .i64 ar,.slice bT af.length bU] 79 (0,0)) (sK aj.out) k_ hk_.2.1)⟩)) (qac sB));replace aa:=qaa.mk (Kd.N_elder' (sN aa.out) (Kd.S_base bt) hb);replace ac:=qaa.mk (sKb ac.out hb);replace ak:=qaa.mk (sKb ak.out hb);replace aj:=qaa.mk (sKb aj.out hb);replace HB:=qaa.mk (qai sB hb);(try clear hb);(try clear ev);(try clear hk);(try clear hi);(try clear bt);obtain⟨dh,di,dj⟩:=sC3 (w:=ex) ak.out;obtain⟨dk,dl,dm⟩:=sF3 ak.out;obtain⟨cj,ck,dv⟩:=Kd.N_slice bz.out;subst dv))
    refine bodyPost_ret (results_cell_row rfl _ _ ai 33 #[.int .i64 aZ,.int .i64 bj,.slice cj bv.length ck] (0,0) _ rfl (by refine sM ?_;refine qak (cs:=#[.int .i64 aZ,.int .i64 bj,.slice none 0 0]) ?_ 2 _ rfl;refine sM ?_;refine qak (cs:=#[.int .i64 aZ,.int .i64 0,.slice none 0 0]) ?_ 1 _ rfl;refine sM ?_;refine qak (cs:=#[.int .i64 0,.int .i64 0,.slice none 0 0]) ?_ 0 _ rfl;refine sM ?_;exact ak.out) Tryd.underlying33 rfl (by kernel_rfl)) rfl ?_
    exact⟨_,by first|rfl|(simp [qam,qal]<;>rfl)|(simp [bneNil,bneNilU]<;>rfl)|(simp [*,qam,qal]<;>rfl),by refine sNm ?_;exact Kd.N_mono (Kd.N_far (p:=⟨ai,2,none⟩) (Kd.N_far (p:=⟨ai,1,none⟩) (Kd.N_far (p:=⟨ai,0,none⟩) (Kd.N_mono bz.out (fun k_ hk=>(⟨hk,hk.2.2.2.1⟩:_∧k_≠ai))) (fun _ hk=>hk.2) (.int .i64 aZ)) (fun _ hk=>hk.2) (.int .i64 bj)) (fun _ hk=>hk.2) (.slice cj bv.length ck)) (fun _ hk=>hk.1.1),by repeat (first|(with_reducible first|exact HB.out|apply qah|apply qae|apply qag|refine qad ?_ aJ.out|refine qad ?_ aK.out|refine qad ?_ aM.out)|exact HB.out)⟩
end
end Go.Proofs.YtgnaaokhfpfglaaDoor.PCertTold
end
section
namespace Go.Proofs.YtgnaaokhfpfglaaDoor.PCertTold
open Go.RowKit Go.Proofs.YtgnaaokhfpfglaaDoorW.PrintWords Go.Proofs.YtgnaaokhfpfglaaDoorW.PrintLast Go.Proofs.YtgnaaokhfpfglaaDoorW.PrintMore
attribute [local go_sem] qaW qaU qa3 qa2 qaN qaM qaV qaT
set_option linter.unusedVariables false
set_option linter.unusedSimpArgs false
noncomputable section
def ostinatolaw21_Spec_cert.l0:Nat→Int→Int→Int→List (S82)→Int→Int→List Int→List Int→List (S56)→Int→Int→List (S53)→Int→Int→List Int→List Int→List (S49)→Option (Int × Int × (List (S53)) × Int × Int × List Int × List Int × (List (S49)))
 |0,_,_,_,_,_,_,_,_,_,_,_,_,_,_,_,_,_=>none
 |k+1,x4,ak,al,am,an,ap,aq,ar,aa,ac,ae,af,ag,ah,ai,aj,ab=>if x4<(aa.length:Int) then (if x4<6 then (if 0≤x4 then (if ab.length<4398046511104 then (ostinatolaw21_Spec_cert.l0 k (wrap64 (x4+1)) ak al am an ap aq ar aa ac ae af ag ah ai aj (ab++[(⟨Go.bits .and .i64 ((qaz aa x4).f0) 63,Go.bits .and .i64 ((qaz aa x4).f1) 1099511627775,Go.bits .and .i64 ((qaz aa x4).f2) 1099511627775,Go.bits .and .i64 ((qaz aa x4).f3) 1099511627775⟩:S49)])) else (none)) else (none)) else (some (ac,ae,af,ag,ah,ai,aj,ab))) else (some (ac,ae,af,ag,ah,ai,aj,ab))
def ostinatolaw21_Spec_cert.f (k:Nat) (ac:Int) (ae:Int) (af:List (S82)) (ag:Int) (ah:Int) (ai:List Int) (aj:List Int) (ak:List (S56)):Option (Int × Int × (List (S53)) × Int × Int × List Int × List Int × (List (S49))):=(ostinatolaw21_Sys_made.f k ac ae af).bind fun ab=>((ostinatolaw21_Pick_setup.f k ag ah ai aj ab.1 ab.2.1 ab.2.2).bind fun aa=>(ostinatolaw21_Spec_cert.l0 k 0 ac ae af ag ah ai aj ak aa.1 aa.2.1 aa.2.2.1 aa.2.2.2.1 aa.2.2.2.2.1 aa.2.2.2.2.2.1 aa.2.2.2.2.2.2 ([]:List (S49))))
def ostinatolaw21_Spec_cert.T1:Bool × List (List Nat × List Nat):=(true,[([],[]),([0],[0]),([],[]),([2],[2]),([3],[3]),([1,4,4],[1,4]),([5],[5]),([],[]),([7,6,5,0,1,2,3,4,5,6,7],[6,7])])
def ostinatolaw21_Spec_cert.B1:List Nat:=[0,1,0,4,12,31,63,0,255]
theorem ostinatolaw21_Spec_cert.tab1:rtab .any (opsOf Tryd.f6 1)=ostinatolaw21_Spec_cert.T1:=by kernel_rfl
theorem ostinatolaw21_Spec_cert.bits1:waitsOk ostinatolaw21_Spec_cert.T1.2 ostinatolaw21_Spec_cert.B1=true:=by kernel_rfl
theorem ostinatolaw21_Spec_cert.calls (k:Nat) (aW:Int) (aX:Int) (aA:Nat→Prop) (A0_2:Option Addr) (c0_2:Nat) (aC:List (S82)) (aK:Int) (aM:Int) (A0_5:Option Addr) (c0_5:Nat) (aI:List Int) (A0_6:Option Addr) (c0_6:Nat) (aJ:List Int) (A0_7:Option Addr) (c0_7:Nat) (aj:List (S56)) (r1:Int) (r2:Int) (r3:List (S53)) (r4:Int) (r5:Int) (r6:List Int) (r7:List Int) (r8:List (S49)) (w:World) (cI:Kd.V k82 82 w w.heap.size (fun k_=>aA k_) (.slice A0_2 aC.length c0_2) aC) (hr0_5:Kd.C (Kd.int .i64) w A0_5 aI.length aI) (hc0_5:aI.length≤c0_5) (hr0_6:Kd.C (Kd.int .i64) w A0_6 aJ.length aJ) (hc0_6:aJ.length≤c0_6) (hr0_7:Kd.C k56 w A0_7 aj.length aj) (hc0_7:aj.length≤c0_7) (h:ostinatolaw21_Spec_cert.f k aW aX aC aK aM aI aJ aj=some (r1,r2,r3,r4,r5,r6,r7,r8)) :
  Calls Tryd.prog 6 #[.agg #[.int .i64 aW,.int .i64 aX,.slice A0_2 aC.length c0_2,.int .i64 aK,.int .i64 aM,.slice A0_5 aI.length c0_5,.slice A0_6 aJ.length c0_6,.slice A0_7 aj.length c0_7]] w fun e w'=>∃ ii hH hJ hO:Value,e=.returned (.agg #[.int .i64 r1,.int .i64 r2,ii,.int .i64 r4,.int .i64 r5,hH,hJ,hO])∧Kd.V k53 53 w' w.heap.size (fun k_=>(aA k_∨w.heap.size≤k_)∧some k_≠(hH:Value).ownBlock∧some k_≠(hJ:Value).ownBlock∧some k_≠(hO:Value).ownBlock) ii r3∧Kd.R (Kd.int .i64) 3 w' w.heap.size (fun k_=>(w.heap.size≤k_)) hH r6∧Kd.R (Kd.int .i64) 2 w' w.heap.size (fun k_=>(w.heap.size≤k_)) hJ r7∧Kd.R k49 49 w' w.heap.size (fun k_=>(w.heap.size≤k_)) hO r8∧Below w.heap.size w w':=by
 have jw:=Tryd.underlying30
 have jx:=Tryd.underlying39
 have jy:=Tryd.underlying27
 have jz:=Tryd.underlying24
 have jA:=Tryd.underlying56
 have jB:=Tryd.underlying49
 have ar:=qaa.mk (show Kd.V k82 82 w w.heap.size (fun k_=>(aA k_∨w.heap.size≤k_)) (.slice A0_2 aC.length c0_2) aC from Kd.V_mono cI (fun k_ hk=>.inl hk))
 have cg:=qaa.mk hr0_5
 have cj:=qaa.mk hc0_5
 clear hr0_5 hc0_5
 have ck:=qaa.mk hr0_6
 have cm:=qaa.mk hc0_6
 clear hr0_6 hc0_6
 have cJ:=qaa.mk hr0_7
 have ij:=qaa.mk hc0_7
 clear hr0_7 hc0_7
 have HB:=qaa.mk (Below.refl w.heap.size w)
 have H:((ostinatolaw21_Sys_made.f k aW aX aC).bind fun co=>((ostinatolaw21_Pick_setup.f k aK aM aI aJ co.1 co.2.1 co.2.2).bind fun a8=>(ostinatolaw21_Spec_cert.l0 k 0 aW aX aC aK aM aI aJ aj a8.1 a8.2.1 a8.2.2.1 a8.2.2.2.1 a8.2.2.2.2.1 a8.2.2.2.2.2.1 a8.2.2.2.2.2.2 ([]:List (S49)))))=some (r1,r2,r3,r4,r5,r6,r7,r8):=h
 clear h
 replace H:=Option.bind_eq_some_iff.mp H
 obtain⟨⟨bF,bG,bv⟩,ik,H⟩:=H
 replace H:((ostinatolaw21_Pick_setup.f k aK aM aI aJ bF bG bv).bind fun a8=>(ostinatolaw21_Spec_cert.l0 k 0 aW aX aC aK aM aI aJ aj a8.1 a8.2.1 a8.2.2.1 a8.2.2.2.1 a8.2.2.2.2.1 a8.2.2.2.2.2.1 a8.2.2.2.2.2.2 ([]:List (S49))))=some (r1,r2,r3,r4,r5,r6,r7,r8):=H
 have A2:=qaa.mk ik
 clear ik
 replace H:=Option.bind_eq_some_iff.mp H
 obtain⟨⟨au,aw,av,ay,aD,ax,az⟩,il,H⟩:=H
 replace H:(ostinatolaw21_Spec_cert.l0 k 0 aW aX aC aK aM aI aJ aj au aw av ay aD ax az ([]:List (S49)))=some (r1,r2,r3,r4,r5,r6,r7,r8):=H
 have A3:=qaa.mk il
 clear il
 have H':=qaa.mk H
 clear H
 go_enter Tryd.func6,Tryd.ntmps6
 try go_wp2_with (first|((with_reducible refine qap (N:=1) rfl ?_);refine qao ?hg (N:=1) ?hd (cs:=#[.int .i64 aW,.int .i64 aX,.slice A0_2 aC.length c0_2,.int .i64 aK,.int .i64 aM,.slice A0_5 aI.length c0_5,.slice A0_6 aJ.length c0_6,.slice A0_7 aj.length c0_7]) (t:=30) ?hr ?_;(case hd=>rfl);(case hg=>rfl);(case hr=>first|(go_simp;done)|(go_simp;rfl));intro af hg w4 hbox hb;replace ar:=qaa.mk (Kd.V_below (Kd.V_elderB (sV ar.out) af (Nat.le_of_eq hg.symm)) hb);have ac:=qaa.mk (hbox);have im:=qaa.mk ((by rw [hg];exact (qac sB):w.heap.size≤af));have bX:=qaa.mk ((by rw [hg];exact (qac sB):w.heap.size≤af));replace HB:=qaa.mk (qai sB hb);clear hb hbox hg)|((with_reducible refine qap (N:=2) rfl ?_);refine qao ?hg (N:=2) ?hd (cs:=#[.int .i64 0,.int .i64 0,.slice none 0 0,.int .i64 0,.int .i64 0,.slice none 0 0,.slice none 0 0,.slice none 0 0]) (t:=39) ?hr ?_;(case hd=>rfl);(case hg=>rfl);(case hr=>first|(go_simp;done)|(go_simp;rfl));intro ae hg w5 hbox hb;replace ar:=qaa.mk (Kd.V_below (Kd.V_elderB (sV ar.out) ae (Nat.le_of_eq hg.symm)) hb);have ah:=qaa.mk (hbox);have io:=qaa.mk ((by rw [hg];exact (qac sB):w.heap.size≤ae));have bY:=qaa.mk ((by rw [hg];exact (qac sB):w.heap.size≤ae));replace HB:=qaa.mk (qai sB hb);have bC:=qaa.mk ((by rw [hg];exact Nat.ne_of_lt (sLt ac.out):af≠ae));have bD:=qaa.mk ((by rw [hg];exact Nat.ne_of_gt (sLt ac.out):ae≠af));replace ac:=qaa.mk (sKb ac.out hb);clear hb hbox hg))
 replace ar:=qaa.mk (Kd.V_drew ar.out)
 replace ac:=qaa.mk (qax ac.out)
 replace ah:=qaa.mk (qax ah.out)
 replace HB:=qaa.mk (qag HB.out)
 refine start_ (n:=9) (S:=fun w'=>w'.cell? ⟨af,0,none⟩=some (.int .i64 aW)∧w'.cell? ⟨af,1,none⟩=some (.int .i64 aX)∧w'.cell? ⟨af,2,none⟩=some (.slice A0_2 aC.length c0_2)∧w'.cell? ⟨af,3,none⟩=some (.int .i64 aK)∧w'.cell? ⟨af,4,none⟩=some (.int .i64 aM)∧w'.cell? ⟨af,5,none⟩=some (.slice A0_5 aI.length c0_5)∧w'.cell? ⟨af,6,none⟩=some (.slice A0_6 aJ.length c0_6)∧w'.cell? ⟨af,7,none⟩=some (.slice A0_7 aj.length c0_7)) (ds:=[]) #[false,false,false,false,false,false,false,false,false] (by kernel_rfl) rfl rfl ⟨(qab ac.out 0).trans rfl,(qab ac.out 1).trans rfl,(qab ac.out 2).trans rfl,(qab ac.out 3).trans rfl,(qab ac.out 4).trans rfl,(qab ac.out 5).trans rfl,(qab ac.out 6).trans rfl,(qab ac.out 7).trans rfl⟩ (fun hHeld=>?_);refine qaX ostinatolaw21_Spec_cert.tab1 ostinatolaw21_Spec_cert.bits1 (fun HT_ HW_=>?_)
 generalize w5.drew=w6 at ar ac ah HB hHeld ⊢
 refine sP 0 (some 6) rfl rfl ?_
 refine sP 2 (some 8) rfl rfl ?_
 refine qaZ (i:=1) (N:=some 7) (v:=?_) (a':=?_) #[true,true,true,false,false,false,false,false,false] rfl rfl (qay HT_.out HW_.out (by kernel_rfl)) (fun _ _ _ h=>h) (Or.inl ⟨by rfl,?_⟩) hHeld ?_ ?_
 rotate_left
 ·rintro w' ⟨s0,s1,s2,s3,s4,s5,s6,s7⟩
  go_simp
  with_reducible rfl
 rotate_left
 ·simp only [Act.put,List.setIfInBounds_toArray,List.set_cons_zero,List.set_cons_succ,qaC,qaE]
  rfl
 refine qaZ (i:=3) (N:=some 9) (v:=?_) (a':=?_) #[true,true,true,true,false,false,false,false,false] rfl rfl (qay HT_.out HW_.out (by kernel_rfl)) (fun _ _ _ h=>h) (Or.inl ⟨by rfl,?_⟩) hHeld ?_ ?_
 rotate_left
 ·rintro w' ⟨s0,s1,s2,s3,s4,s5,s6,s7⟩
  go_simp
  with_reducible rfl
 rotate_left
 ·simp only [Act.put,List.setIfInBounds_toArray,List.set_cons_zero,List.set_cons_succ,qaC,qaE]
  rfl
 refine join_ (σ:=Value × Value × Value × Value × Nat) 1 #[true,true,true,true,true,true,true,true,false] (fun s_=>[(10,.agg #[.int .i64 bF,.int .i64 bG,s_.1]),(11,.agg #[.int .i64 au,.int .i64 aw,s_.2.1,.int .i64 ay,.int .i64 aD,s_.2.2.1,s_.2.2.2.1]),(3,.pointer (some ⟨s_.2.2.2.2,0,none⟩)),(12,.agg #[.int .i64 au,.int .i64 aw,s_.2.1,.int .i64 ay,.int .i64 aD,s_.2.2.1,s_.2.2.2.1,.slice none 0 0])]) (fun s_ w'=>(w'.cell? ⟨af,0,none⟩=some (.int .i64 aW)∧w'.cell? ⟨af,1,none⟩=some (.int .i64 aX)∧w'.cell? ⟨af,2,none⟩=some (.slice A0_2 aC.length c0_2)∧w'.cell? ⟨af,3,none⟩=some (.int .i64 aK)∧w'.cell? ⟨af,4,none⟩=some (.int .i64 aM)∧w'.cell? ⟨af,5,none⟩=some (.slice A0_5 aI.length c0_5)∧w'.cell? ⟨af,6,none⟩=some (.slice A0_6 aJ.length c0_6)∧w'.cell? ⟨af,7,none⟩=some (.slice A0_7 aj.length c0_7))∧(Kd.V k82 82 w' w.heap.size (fun k_=>(aA k_∨w.heap.size≤k_)∧some k_≠(s_.1:Value).ownBlock∧some k_≠(s_.2.2.1:Value).ownBlock∧some k_≠(s_.2.2.2.1:Value).ownBlock∧k_≠af∧k_≠ae∧k_≠s_.2.2.2.2) (.slice A0_2 aC.length c0_2) aC)∧(Kd.N k53 53 w' w.heap.size (fun k_=>(aA k_∨w.heap.size≤k_)∧some k_≠(s_.2.2.1:Value).ownBlock∧some k_≠(s_.2.2.2.1:Value).ownBlock∧k_≠af∧k_≠ae∧k_≠s_.2.2.2.2) s_.1 bv)∧(Kd.V k53 53 w' w.heap.size (fun k_=>(aA k_∨w.heap.size≤k_)∧some k_≠(s_.2.2.1:Value).ownBlock∧some k_≠(s_.2.2.2.1:Value).ownBlock∧k_≠af∧k_≠ae∧k_≠s_.2.2.2.2) s_.2.1 av)∧(Kd.R (Kd.int .i64) 3 w' w.heap.size (fun k_=>(w.heap.size≤k_)) s_.2.2.1 ax)∧(Kd.R (Kd.int .i64) 2 w' w.heap.size (fun k_=>(w.heap.size≤k_)) s_.2.2.2.1 az)∧(w'.heap[af]? = some (.cells #[.int .i64 aW,.int .i64 aX,.slice A0_2 aC.length c0_2,.int .i64 aK,.int .i64 aM,.slice A0_5 aI.length c0_5,.slice A0_6 aJ.length c0_6,.slice A0_7 aj.length c0_7] 30 (0,0)))∧(w'.heap[ae]? = some (.cells #[.int .i64 0,.int .i64 0,.slice none 0 0,.int .i64 0,.int .i64 0,.slice none 0 0,.slice none 0 0,.slice none 0 0] 39 (0,0)))∧(w'.heap[s_.2.2.2.2]? = some (.cells #[.int .i64 0,.int .i64 0,.slice none 0 0,.int .i64 0,.int .i64 0,.slice none 0 0,.slice none 0 0,.slice none 0 0] 39 (0,0)))∧(w.heap.size≤s_.2.2.2.2)∧(w.heap.size≤s_.2.2.2.2)∧(af≠s_.2.2.2.2)∧(s_.2.2.2.2≠af)∧(ae≠s_.2.2.2.2)∧(s_.2.2.2.2≠ae)∧(Below w.heap.size w w')) ?_ ?_
 rotate_left
 ·intro hCont
  refine two_ (i:=4) (j:=7) (Ni:=some 10) (Nj:=some 3) #[true,true,true,true,true,false,false,false,false] #[true,true,true,true,false,false,false,true,false] rfl rfl rfl rfl (two_of HT_.out (by kernel_rfl)) (by decide) (by decide) (fun K hK=>?_) (fun K hK=>?_)
  ·skip
   refine goes_ Tryd.func17 (by kernel_rfl) rfl #[.agg #[.int .i64 aW,.int .i64 aX,.slice A0_2 aC.length c0_2]] (by rfl) rfl rfl (by (try simp only [List.map_toArray,List.map_cons,List.map_nil]);first|done|rfl|(simp only [List.length_drop,List.length_take];rfl)) ?_
   with_reducible refine (ostinatolaw21_Sys_made.calls k aW aX (fun k_=>(((aA k_∨w.heap.size≤k_)∧k_≠af)∧k_≠ae)) _ _ aC bF bG bv _ ?bw A2.out).mono ?_
   (case bw=>exact ar.out)
   rintro e w7 ⟨cz,rfl,bW,hb⟩
   refine⟨_,rfl,?_⟩
   replace ar:=qaa.mk (Kd.V_elder' (sV ar.out) (Kd.N_base bW) hb)
   have aH:=qaa.mk (Kd.N_lower (Kd.N_mono (ok':=fun k_=>(aA k_∨w.heap.size≤k_)∧k_≠af∧k_≠ae) bW (fun k_ hk_=>⟨Or.elim hk_ (fun hs_=>hs_.1.1) (fun hn_=>(.inr (Nat.le_trans (qac sB) hn_))),Or.elim hk_ (fun hs_=>hs_.1.2) (fun hn_=>(Kd.freshB (g:=af) (o:=.cells #[.int .i64 aW,.int .i64 aX,.slice A0_2 aC.length c0_2,.int .i64 aK,.int .i64 aM,.slice A0_5 aI.length c0_5,.slice A0_6 aJ.length c0_6,.slice A0_7 aj.length c0_7] 30 (0,0)) (sK ac.out) k_ hn_)),Or.elim hk_ (fun hs_=>hs_.2) (fun hn_=>(Kd.freshB (g:=ae) (o:=.cells #[.int .i64 0,.int .i64 0,.slice none 0 0,.int .i64 0,.int .i64 0,.slice none 0 0,.slice none 0 0,.slice none 0 0] 39 (0,0)) (sK ah.out) k_ hn_))⟩)) (qac sB))
   replace ac:=qaa.mk (sKb ac.out hb)
   replace ah:=qaa.mk (sKb ah.out hb)
   replace HB:=qaa.mk (qai sB hb)
   (try clear hb)
   (try clear dh)
   (try clear hk)
   (try clear hi)
   (try clear bW)
   obtain⟨ip,iq,ir⟩:=Kd.N_slice aH.out
   (first|subst ir|(injection ir with ba bx be;have bz:=ba.symm;have bB:=be.symm;clear ba bx be;subst bz;subst bB))
   refine hK.out _ _ ⟨(qab ac.out 0).trans rfl,(qab ac.out 1).trans rfl,(qab ac.out 2).trans rfl,(qab ac.out 3).trans rfl,(qab ac.out 4).trans rfl,(qab ac.out 5).trans rfl,(qab ac.out 6).trans rfl,(qab ac.out 7).trans rfl⟩ (fun hHeld=>?_)
   clear hK K
   refine qa0 (a':=?_) ?_ ?_
   rotate_left
   ·show Act.put _ (some 10) _=_
    simp only [Act.put,List.setIfInBounds_toArray,List.set_cons_zero,List.set_cons_succ,qaC,qaE]
    rfl
   refine two_ (i:=5) (j:=7) (Ni:=some 11) (Nj:=some 3) #[true,true,true,true,true,true,false,false,false] #[true,true,true,true,true,false,false,true,false] rfl rfl rfl rfl (two_of HT_.out (by kernel_rfl)) (by decide) (by decide) (fun K hK=>?_) (fun K hK=>?_)
   ·skip
    refine goes_ Tryd.func16 (by kernel_rfl) rfl #[.agg #[.int .i64 aK,.int .i64 aM,.slice A0_5 aI.length c0_5,.slice A0_6 aJ.length c0_6],.agg #[.int .i64 bF,.int .i64 bG,.slice ip bv.length iq]] (by rfl) rfl rfl (by (try simp only [List.map_toArray,List.map_cons,List.map_nil]);first|done|rfl|(simp only [List.length_drop,List.length_take];rfl)) ?_
    with_reducible refine (ostinatolaw21_Pick_setup.calls k aK aM _ _ aI _ _ aJ bF bG (fun k_=>((aA k_∨w.heap.size≤k_)∧(k_≠af∧k_≠ae))) _ _ bv au aw av ay aD ax az _ ?bw ?bO ?bP ?bQ ?bR A3.out).mono ?_
    (case bw=>repeat (first|exact (Kd.C_below cg.out HB.out)|(with_reducible refine Kd.C_alloc ?_ _)|(with_reducible refine Kd.C_drewN ?_ _)|(with_reducible refine Kd.C_drew ?_)))
    (case bO=>exact cj.out)
    (case bP=>repeat (first|exact (Kd.C_below ck.out HB.out)|(with_reducible refine Kd.C_alloc ?_ _)|(with_reducible refine Kd.C_drewN ?_ _)|(with_reducible refine Kd.C_drew ?_)))
    (case bQ=>exact cm.out)
    (case bR=>exact Kd.N_V (aH.out))
    rintro e w9 ⟨cA,bH,bI,rfl,bW,bZ,b8,hb⟩
    refine⟨_,rfl,?_⟩
    replace ar:=qaa.mk (Kd.V_mono (Kd.V_told (Kd.V_told (Kd.V_old (sV ar.out) hb) (Kd.R_base bZ)) (Kd.R_base b8)) (fun _ h_=>h_.1))
    replace aH:=qaa.mk (Kd.N_mono (Kd.N_told (Kd.N_told (Kd.N_old (sN aH.out) hb) (Kd.R_base bZ)) (Kd.R_base b8)) (fun _ h_=>h_.1))
    have bg:=qaa.mk (Kd.V_lower (Kd.V_mono (ok':=fun k_=>(aA k_∨w.heap.size≤k_)∧some k_≠(bH:Value).ownBlock∧some k_≠(bI:Value).ownBlock∧k_≠af∧k_≠ae) bW (fun k_ hk_=>⟨Or.elim hk_.1 (fun hs_=>hs_.1) (fun hn_=>(.inr (Nat.le_trans (qac sB) hn_))),hk_.2.1,hk_.2.2,Or.elim hk_.1 (fun hs_=>hs_.2.1) (fun hn_=>(Kd.freshB (g:=af) (o:=.cells #[.int .i64 aW,.int .i64 aX,.slice A0_2 aC.length c0_2,.int .i64 aK,.int .i64 aM,.slice A0_5 aI.length c0_5,.slice A0_6 aJ.length c0_6,.slice A0_7 aj.length c0_7] 30 (0,0)) (sK ac.out) k_ hn_)),Or.elim hk_.1 (fun hs_=>hs_.2.2) (fun hn_=>(Kd.freshB (g:=ae) (o:=.cells #[.int .i64 0,.int .i64 0,.slice none 0 0,.int .i64 0,.int .i64 0,.slice none 0 0,.slice none 0 0,.slice none 0 0] 39 (0,0)) (sK ah.out) k_ hn_))⟩)) (qac sB))
    have bh:=qaa.mk (Kd.R_lower (Kd.R_newM (M:=fun k_=>(w.heap.size≤k_)) (Kd.R_mono (ok':=fun k_=>True) bZ (fun _ hk_=>trivial)) (qac sB) (fun k_ h_=>h_)) (qac sB))
    have bi:=qaa.mk (Kd.R_lower (Kd.R_newM (M:=fun k_=>(w.heap.size≤k_)) (Kd.R_mono (ok':=fun k_=>True) b8 (fun _ hk_=>trivial)) (qac sB) (fun k_ h_=>h_)) (qac sB))
    replace ac:=qaa.mk (sKb ac.out hb)
    replace ah:=qaa.mk (sKb ah.out hb)
    replace HB:=qaa.mk (qai sB hb)
    (try clear hb)
    (try clear dh)
    (try clear hk)
    (try clear hi)
    (try clear bW)
    (try clear bZ)
    (try clear b8)
    obtain⟨hX,hY,cK⟩:=Kd.R_slice bi.out
    (first|subst cK|(injection cK with ba bx be;have bz:=ba.symm;have bB:=be.symm;clear ba bx be;subst bz;subst bB))
    obtain⟨cp,cq,bS⟩:=Kd.R_slice bh.out
    (first|subst bS|(injection bS with ba bx be;have bz:=ba.symm;have bB:=be.symm;clear ba bx be;subst bz;subst bB))
    obtain⟨cr,ct,bT⟩:=Kd.V_slice bg.out
    (first|subst bT|(injection bT with ba bx be;have bz:=ba.symm;have bB:=be.symm;clear ba bx be;subst bz;subst bB))
    refine hK.out _ _ ⟨(qab ac.out 0).trans rfl,(qab ac.out 1).trans rfl,(qab ac.out 2).trans rfl,(qab ac.out 3).trans rfl,(qab ac.out 4).trans rfl,(qab ac.out 5).trans rfl,(qab ac.out 6).trans rfl,(qab ac.out 7).trans rfl⟩ (fun hHeld=>?_)
    clear hK K
    refine qa0 (a':=?_) ?_ ?_
    rotate_left
    ·show Act.put _ (some 11) _=_
     simp only [Act.put,List.setIfInBounds_toArray,List.set_cons_zero,List.set_cons_succ,qaC,qaE]
     rfl
    refine sP 6 (some 12) rfl rfl ?_
    refine one_ (i:=7) (N:=some 3) #[true,true,true,true,true,true,true,true,false] rfl rfl (qaO HT_.out (by kernel_rfl)) (by decide) (fun K hK=>?_)
    refine box_step ?hg (N:=3) ?hd (cs:=#[.int .i64 0,.int .i64 0,.slice none 0 0,.int .i64 0,.int .i64 0,.slice none 0 0,.slice none 0 0,.slice none 0 0]) (t:=39) ?hr ?_;(case hd=>rfl);(case hg=>rfl);(case hr=>first|(go_simp;done)|(go_simp;rfl))
    intro ab hg jN hbox hb
    replace ar:=qaa.mk (Kd.V_below (Kd.V_elderB (sV ar.out) ab (Nat.le_of_eq hg.symm)) hb)
    replace aH:=qaa.mk (Kd.N_below (Kd.N_elderB (sN aH.out) ab (Nat.le_of_eq hg.symm)) hb)
    replace bg:=qaa.mk (Kd.V_below (Kd.V_elderB (sV bg.out) ab (Nat.le_of_eq hg.symm)) hb)
    replace bh:=qaa.mk (Kd.R_below (sR bh.out) hb)
    replace bi:=qaa.mk (Kd.R_below (sR bi.out) hb)
    have ai:=qaa.mk (hbox)
    have bJ:=qaa.mk ((by rw [hg];exact (qac sB):w.heap.size≤ab))
    have bq:=qaa.mk ((by rw [hg];exact (qac sB):w.heap.size≤ab))
    replace HB:=qaa.mk (qai sB hb)
    have aa:=qaa.mk ((by rw [hg];exact Nat.ne_of_lt (sLt ac.out):af≠ab))
    have am:=qaa.mk ((by rw [hg];exact Nat.ne_of_gt (sLt ac.out):ab≠af))
    replace ac:=qaa.mk (sKb ac.out hb)
    have ag:=qaa.mk ((by rw [hg];exact Nat.ne_of_lt (sLt ah.out):ae≠ab))
    have an:=qaa.mk ((by rw [hg];exact Nat.ne_of_gt (sLt ah.out):ab≠ae))
    replace ah:=qaa.mk (sKb ah.out hb)
    clear hb hbox hg
    refine hK.out _ _ ⟨(qab ac.out 0).trans rfl,(qab ac.out 1).trans rfl,(qab ac.out 2).trans rfl,(qab ac.out 3).trans rfl,(qab ac.out 4).trans rfl,(qab ac.out 5).trans rfl,(qab ac.out 6).trans rfl,(qab ac.out 7).trans rfl⟩ (fun hHeld=>?_)
    clear hK K
    refine qa0 (a':=?_) ?_ ?_
    rotate_left
    ·show Act.put _ (some 3) _=_
     simp only [Act.put,List.setIfInBounds_toArray,List.set_cons_zero,List.set_cons_succ,qaC,qaE]
     rfl
    exact qa0 (by simp only [putAll,Act.put,List.setIfInBounds_toArray,List.set_cons_zero,List.set_cons_succ]) (hCont (.slice ip bv.length iq,.slice cr av.length ct,.slice cp ax.length cq,.slice hX az.length hY,ab) _ ⟨hHeld,(by refine sVm ?_;exact Kd.V_mono ar.out (fun _ hk=>⟨hk.1.1.1.1.1.1,⟨hk.1.1.1.2,⟨hk.1.1.2,⟨hk.1.2,⟨hk.1.1.1.1.1.2,⟨hk.1.1.1.1.2,hk.2⟩⟩⟩⟩⟩⟩)),(by refine sNm ?_;exact Kd.N_mono aH.out (fun _ hk=>⟨hk.1.1.1.1,⟨hk.1.1.2,⟨hk.1.2,⟨hk.1.1.1.2.1,⟨hk.1.1.1.2.2,hk.2⟩⟩⟩⟩⟩)),(by refine sVm ?_;exact Kd.V_mono bg.out (fun _ hk=>⟨hk.1.1,⟨hk.1.2.1,⟨hk.1.2.2.1,⟨hk.1.2.2.2.1,⟨hk.1.2.2.2.2,hk.2⟩⟩⟩⟩⟩)),(by refine sRm ?_;exact Kd.R_mono bh.out (fun _ hk=>hk.1)),(by refine sRm ?_;exact Kd.R_mono bi.out (fun _ hk=>hk.1)),(sK ac.out),(sK ah.out),(sK ai.out),bJ.out,bq.out,aa.out,am.out,ag.out,an.out,sB⟩)
   ·skip
    refine box_step ?hg (N:=3) ?hd (cs:=#[.int .i64 0,.int .i64 0,.slice none 0 0,.int .i64 0,.int .i64 0,.slice none 0 0,.slice none 0 0,.slice none 0 0]) (t:=39) ?hr ?_;(case hd=>rfl);(case hg=>rfl);(case hr=>first|(go_simp;done)|(go_simp;rfl))
    intro ab hg w8 hbox hb
    replace ar:=qaa.mk (Kd.V_below (Kd.V_elderB (sV ar.out) ab (Nat.le_of_eq hg.symm)) hb)
    replace aH:=qaa.mk (Kd.N_below (Kd.N_elderB (sN aH.out) ab (Nat.le_of_eq hg.symm)) hb)
    have ai:=qaa.mk (hbox)
    have bJ:=qaa.mk ((by rw [hg];exact (qac sB):w.heap.size≤ab))
    have bq:=qaa.mk ((by rw [hg];exact (qac sB):w.heap.size≤ab))
    replace HB:=qaa.mk (qai sB hb)
    have aa:=qaa.mk ((by rw [hg];exact Nat.ne_of_lt (sLt ac.out):af≠ab))
    have am:=qaa.mk ((by rw [hg];exact Nat.ne_of_gt (sLt ac.out):ab≠af))
    replace ac:=qaa.mk (sKb ac.out hb)
    have ag:=qaa.mk ((by rw [hg];exact Nat.ne_of_lt (sLt ah.out):ae≠ab))
    have an:=qaa.mk ((by rw [hg];exact Nat.ne_of_gt (sLt ah.out):ab≠ae))
    replace ah:=qaa.mk (sKb ah.out hb)
    clear hb hbox hg
    obtain⟨cL,cM,cN⟩:=Kd.N_slice aH.out
    (first|subst cN|(injection cN with ba bx be;have bz:=ba.symm;have bB:=be.symm;clear ba bx be;subst bz;subst bB))
    refine hK.out _ _ ⟨(qab ac.out 0).trans rfl,(qab ac.out 1).trans rfl,(qab ac.out 2).trans rfl,(qab ac.out 3).trans rfl,(qab ac.out 4).trans rfl,(qab ac.out 5).trans rfl,(qab ac.out 6).trans rfl,(qab ac.out 7).trans rfl⟩ (fun hHeld=>?_)
    clear hK K
    refine qa0 (a':=?_) ?_ ?_
    rotate_left
    ·show Act.put _ (some 3) _=_
     simp only [Act.put,List.setIfInBounds_toArray,List.set_cons_zero,List.set_cons_succ,qaC,qaE]
     rfl
    refine one_ (i:=5) (N:=some 11) #[true,true,true,true,true,true,false,true,false] rfl rfl (qaO HT_.out (by kernel_rfl)) (by decide) (fun K hK=>?_)
    refine goes_ Tryd.func16 (by kernel_rfl) rfl #[.agg #[.int .i64 aK,.int .i64 aM,.slice A0_5 aI.length c0_5,.slice A0_6 aJ.length c0_6],.agg #[.int .i64 bF,.int .i64 bG,.slice cL bv.length cM]] (by rfl) rfl rfl (by (try simp only [List.map_toArray,List.map_cons,List.map_nil]);first|done|rfl|(simp only [List.length_drop,List.length_take];rfl)) ?_
    with_reducible refine (ostinatolaw21_Pick_setup.calls k aK aM _ _ aI _ _ aJ bF bG (fun k_=>(((aA k_∨w.heap.size≤k_)∧(k_≠af∧k_≠ae))∧k_≠ab)) _ _ bv au aw av ay aD ax az _ ?bw ?bO ?bP ?bQ ?bR A3.out).mono ?_
    (case bw=>repeat (first|exact (Kd.C_below cg.out HB.out)|(with_reducible refine Kd.C_alloc ?_ _)|(with_reducible refine Kd.C_drewN ?_ _)|(with_reducible refine Kd.C_drew ?_)))
    (case bO=>exact cj.out)
    (case bP=>repeat (first|exact (Kd.C_below ck.out HB.out)|(with_reducible refine Kd.C_alloc ?_ _)|(with_reducible refine Kd.C_drewN ?_ _)|(with_reducible refine Kd.C_drew ?_)))
    (case bQ=>exact cm.out)
    (case bR=>exact Kd.N_V (aH.out))
    rintro e jC ⟨cA,bH,bI,rfl,bW,bZ,b8,hb⟩
    refine⟨_,rfl,?_⟩
    replace ar:=qaa.mk (Kd.V_mono (Kd.V_told (Kd.V_told (Kd.V_old (sV ar.out) hb) (Kd.R_base bZ)) (Kd.R_base b8)) (fun _ h_=>h_.1))
    replace aH:=qaa.mk (Kd.N_mono (Kd.N_told (Kd.N_told (Kd.N_old (sN aH.out) hb) (Kd.R_base bZ)) (Kd.R_base b8)) (fun _ h_=>h_.1))
    have bg:=qaa.mk (Kd.V_lower (Kd.V_mono (ok':=fun k_=>(aA k_∨w.heap.size≤k_)∧some k_≠(bH:Value).ownBlock∧some k_≠(bI:Value).ownBlock∧k_≠af∧k_≠ae∧k_≠ab) bW (fun k_ hk_=>⟨Or.elim hk_.1 (fun hs_=>hs_.1.1) (fun hn_=>(.inr (Nat.le_trans (qac sB) hn_))),hk_.2.1,hk_.2.2,Or.elim hk_.1 (fun hs_=>hs_.1.2.1) (fun hn_=>(Kd.freshB (g:=af) (o:=.cells #[.int .i64 aW,.int .i64 aX,.slice A0_2 aC.length c0_2,.int .i64 aK,.int .i64 aM,.slice A0_5 aI.length c0_5,.slice A0_6 aJ.length c0_6,.slice A0_7 aj.length c0_7] 30 (0,0)) (sK ac.out) k_ hn_)),Or.elim hk_.1 (fun hs_=>hs_.1.2.2) (fun hn_=>(Kd.freshB (g:=ae) (o:=.cells #[.int .i64 0,.int .i64 0,.slice none 0 0,.int .i64 0,.int .i64 0,.slice none 0 0,.slice none 0 0,.slice none 0 0] 39 (0,0)) (sK ah.out) k_ hn_)),Or.elim hk_.1 (fun hs_=>hs_.2) (fun hn_=>(Kd.freshB (g:=ab) (o:=.cells #[.int .i64 0,.int .i64 0,.slice none 0 0,.int .i64 0,.int .i64 0,.slice none 0 0,.slice none 0 0,.slice none 0 0] 39 (0,0)) (sK ai.out) k_ hn_))⟩)) (qac sB))
    have bh:=qaa.mk (Kd.R_lower (Kd.R_newM (M:=fun k_=>(w.heap.size≤k_)) (Kd.R_mono (ok':=fun k_=>True) bZ (fun _ hk_=>trivial)) (qac sB) (fun k_ h_=>h_)) (qac sB))
    have bi:=qaa.mk (Kd.R_lower (Kd.R_newM (M:=fun k_=>(w.heap.size≤k_)) (Kd.R_mono (ok':=fun k_=>True) b8 (fun _ hk_=>trivial)) (qac sB) (fun k_ h_=>h_)) (qac sB))
    replace ac:=qaa.mk (sKb ac.out hb)
    replace ah:=qaa.mk (sKb ah.out hb)
    replace ai:=qaa.mk (sKb ai.out hb)
    replace HB:=qaa.mk (qai sB hb)
    (try clear hb)
    (try clear dh)
    (try clear hk)
    (try clear hi)
    (try clear bW)
    (try clear bZ)
    (try clear b8)
    obtain⟨cp,cq,bS⟩:=Kd.R_slice bi.out
    (first|subst bS|(injection bS with ba bx be;have bz:=ba.symm;have bB:=be.symm;clear ba bx be;subst bz;subst bB))
    obtain⟨cr,ct,bT⟩:=Kd.R_slice bh.out
    (first|subst bT|(injection bT with ba bx be;have bz:=ba.symm;have bB:=be.symm;clear ba bx be;subst bz;subst bB))
    obtain⟨cC,cD,cu⟩:=Kd.V_slice bg.out
    (first|subst cu|(injection cu with ba bx be;have bz:=ba.symm;have bB:=be.symm;clear ba bx be;subst bz;subst bB))
    refine hK.out _ _ ⟨(qab ac.out 0).trans rfl,(qab ac.out 1).trans rfl,(qab ac.out 2).trans rfl,(qab ac.out 3).trans rfl,(qab ac.out 4).trans rfl,(qab ac.out 5).trans rfl,(qab ac.out 6).trans rfl,(qab ac.out 7).trans rfl⟩ (fun hHeld=>?_)
    clear hK K
    refine qa0 (a':=?_) ?_ ?_
    rotate_left
    ·show Act.put _ (some 11) _=_
     simp only [Act.put,List.setIfInBounds_toArray,List.set_cons_zero,List.set_cons_succ,qaC,qaE]
     rfl
    refine sP 6 (some 12) rfl rfl ?_
    exact qa0 (by simp only [putAll,Act.put,List.setIfInBounds_toArray,List.set_cons_zero,List.set_cons_succ]) (hCont (.slice cL bv.length cM,.slice cC av.length cD,.slice cr ax.length ct,.slice cp az.length cq,ab) _ ⟨hHeld,(by refine sVm ?_;exact Kd.V_mono ar.out (fun _ hk=>⟨hk.1.1.1.1.1.1,⟨hk.1.1.1.2,⟨hk.1.2,⟨hk.2,⟨hk.1.1.1.1.1.2,⟨hk.1.1.1.1.2,hk.1.1.2⟩⟩⟩⟩⟩⟩)),(by refine sNm ?_;exact Kd.N_mono aH.out (fun _ hk=>⟨hk.1.1.1.1,⟨hk.1.2,⟨hk.2,⟨hk.1.1.1.2.1,⟨hk.1.1.1.2.2,hk.1.1.2⟩⟩⟩⟩⟩)),(sV bg.out),(by refine sRm ?_;exact Kd.R_mono bh.out (fun _ hk=>hk.1)),(by refine sRm ?_;exact Kd.R_mono bi.out (fun _ hk=>hk.1)),(sK ac.out),(sK ah.out),(sK ai.out),bJ.out,bq.out,aa.out,am.out,ag.out,an.out,sB⟩)
  ·skip
   refine box_step ?hg (N:=3) ?hd (cs:=#[.int .i64 0,.int .i64 0,.slice none 0 0,.int .i64 0,.int .i64 0,.slice none 0 0,.slice none 0 0,.slice none 0 0]) (t:=39) ?hr ?_;(case hd=>rfl);(case hg=>rfl);(case hr=>first|(go_simp;done)|(go_simp;rfl))
   intro ab hg w7 hbox hb
   replace ar:=qaa.mk (Kd.V_below (Kd.V_elderB (sV ar.out) ab (Nat.le_of_eq hg.symm)) hb)
   have ai:=qaa.mk (hbox)
   have bJ:=qaa.mk ((by rw [hg];exact (qac sB):w.heap.size≤ab))
   have bq:=qaa.mk ((by rw [hg];exact (qac sB):w.heap.size≤ab))
   replace HB:=qaa.mk (qai sB hb)
   have aa:=qaa.mk ((by rw [hg];exact Nat.ne_of_lt (sLt ac.out):af≠ab))
   have am:=qaa.mk ((by rw [hg];exact Nat.ne_of_gt (sLt ac.out):ab≠af))
   replace ac:=qaa.mk (sKb ac.out hb)
   have ag:=qaa.mk ((by rw [hg];exact Nat.ne_of_lt (sLt ah.out):ae≠ab))
   have an:=qaa.mk ((by rw [hg];exact Nat.ne_of_gt (sLt ah.out):ab≠ae))
   replace ah:=qaa.mk (sKb ah.out hb)
   clear hb hbox hg
   refine hK.out _ _ ⟨(qab ac.out 0).trans rfl,(qab ac.out 1).trans rfl,(qab ac.out 2).trans rfl,(qab ac.out 3).trans rfl,(qab ac.out 4).trans rfl,(qab ac.out 5).trans rfl,(qab ac.out 6).trans rfl,(qab ac.out 7).trans rfl⟩ (fun hHeld=>?_)
   clear hK K
   refine qa0 (a':=?_) ?_ ?_
   rotate_left
   ·show Act.put _ (some 3) _=_
    simp only [Act.put,List.setIfInBounds_toArray,List.set_cons_zero,List.set_cons_succ,qaC,qaE]
    rfl
   refine one_ (i:=4) (N:=some 10) #[true,true,true,true,true,false,false,true,false] rfl rfl (qaO HT_.out (by kernel_rfl)) (by decide) (fun K hK=>?_)
   refine goes_ Tryd.func17 (by kernel_rfl) rfl #[.agg #[.int .i64 aW,.int .i64 aX,.slice A0_2 aC.length c0_2]] (by rfl) rfl rfl (by (try simp only [List.map_toArray,List.map_cons,List.map_nil]);first|done|rfl|(simp only [List.length_drop,List.length_take];rfl)) ?_
   with_reducible refine (ostinatolaw21_Sys_made.calls k aW aX (fun k_=>((((aA k_∨w.heap.size≤k_)∧k_≠af)∧k_≠ae)∧k_≠ab)) _ _ aC bF bG bv _ ?bw A2.out).mono ?_
   (case bw=>exact ar.out)
   rintro e w8 ⟨cz,rfl,bW,hb⟩
   refine⟨_,rfl,?_⟩
   replace ar:=qaa.mk (Kd.V_elder' (sV ar.out) (Kd.N_base bW) hb)
   have aH:=qaa.mk (Kd.N_lower (Kd.N_mono (ok':=fun k_=>(aA k_∨w.heap.size≤k_)∧k_≠af∧k_≠ae∧k_≠ab) bW (fun k_ hk_=>⟨Or.elim hk_ (fun hs_=>hs_.1.1.1) (fun hn_=>(.inr (Nat.le_trans (qac sB) hn_))),Or.elim hk_ (fun hs_=>hs_.1.1.2) (fun hn_=>(Kd.freshB (g:=af) (o:=.cells #[.int .i64 aW,.int .i64 aX,.slice A0_2 aC.length c0_2,.int .i64 aK,.int .i64 aM,.slice A0_5 aI.length c0_5,.slice A0_6 aJ.length c0_6,.slice A0_7 aj.length c0_7] 30 (0,0)) (sK ac.out) k_ hn_)),Or.elim hk_ (fun hs_=>hs_.1.2) (fun hn_=>(Kd.freshB (g:=ae) (o:=.cells #[.int .i64 0,.int .i64 0,.slice none 0 0,.int .i64 0,.int .i64 0,.slice none 0 0,.slice none 0 0,.slice none 0 0] 39 (0,0)) (sK ah.out) k_ hn_)),Or.elim hk_ (fun hs_=>hs_.2) (fun hn_=>(Kd.freshB (g:=ab) (o:=.cells #[.int .i64 0,.int .i64 0,.slice none 0 0,.int .i64 0,.int .i64 0,.slice none 0 0,.slice none 0 0,.slice none 0 0] 39 (0,0)) (sK ai.out) k_ hn_))⟩)) (qac sB))
   replace ac:=qaa.mk (sKb ac.out hb)
   replace ah:=qaa.mk (sKb ah.out hb)
   replace ai:=qaa.mk (sKb ai.out hb)
   replace HB:=qaa.mk (qai sB hb)
   (try clear hb)
   (try clear dh)
   (try clear hk)
   (try clear hi)
   (try clear bW)
   obtain⟨cL,cM,cN⟩:=Kd.N_slice aH.out
   (first|subst cN|(injection cN with ba bx be;have bz:=ba.symm;have bB:=be.symm;clear ba bx be;subst bz;subst bB))
   refine hK.out _ _ ⟨(qab ac.out 0).trans rfl,(qab ac.out 1).trans rfl,(qab ac.out 2).trans rfl,(qab ac.out 3).trans rfl,(qab ac.out 4).trans rfl,(qab ac.out 5).trans rfl,(qab ac.out 6).trans rfl,(qab ac.out 7).trans rfl⟩ (fun hHeld=>?_)
   clear hK K
   refine qa0 (a':=?_) ?_ ?_
   rotate_left
   ·show Act.put _ (some 10) _=_
    simp only [Act.put,List.setIfInBounds_toArray,List.set_cons_zero,List.set_cons_succ,qaC,qaE]
    rfl
   refine one_ (i:=5) (N:=some 11) #[true,true,true,true,true,true,false,true,false] rfl rfl (qaO HT_.out (by kernel_rfl)) (by decide) (fun K hK=>?_)
   refine goes_ Tryd.func16 (by kernel_rfl) rfl #[.agg #[.int .i64 aK,.int .i64 aM,.slice A0_5 aI.length c0_5,.slice A0_6 aJ.length c0_6],.agg #[.int .i64 bF,.int .i64 bG,.slice cL bv.length cM]] (by rfl) rfl rfl (by (try simp only [List.map_toArray,List.map_cons,List.map_nil]);first|done|rfl|(simp only [List.length_drop,List.length_take];rfl)) ?_
   with_reducible refine (ostinatolaw21_Pick_setup.calls k aK aM _ _ aI _ _ aJ bF bG (fun k_=>((aA k_∨w.heap.size≤k_)∧(k_≠af∧(k_≠ae∧k_≠ab)))) _ _ bv au aw av ay aD ax az _ ?bw ?bO ?bP ?bQ ?bR A3.out).mono ?_
   (case bw=>repeat (first|exact (Kd.C_below cg.out HB.out)|(with_reducible refine Kd.C_alloc ?_ _)|(with_reducible refine Kd.C_drewN ?_ _)|(with_reducible refine Kd.C_drew ?_)))
   (case bO=>exact cj.out)
   (case bP=>repeat (first|exact (Kd.C_below ck.out HB.out)|(with_reducible refine Kd.C_alloc ?_ _)|(with_reducible refine Kd.C_drewN ?_ _)|(with_reducible refine Kd.C_drew ?_)))
   (case bQ=>exact cm.out)
   (case bR=>exact Kd.N_V (aH.out))
   rintro e jC ⟨cA,bH,bI,rfl,bW,bZ,b8,hb⟩
   refine⟨_,rfl,?_⟩
   replace ar:=qaa.mk (Kd.V_mono (Kd.V_told (Kd.V_told (Kd.V_old (sV ar.out) hb) (Kd.R_base bZ)) (Kd.R_base b8)) (fun _ h_=>h_.1))
   replace aH:=qaa.mk (Kd.N_mono (Kd.N_told (Kd.N_told (Kd.N_old (sN aH.out) hb) (Kd.R_base bZ)) (Kd.R_base b8)) (fun _ h_=>h_.1))
   have bg:=qaa.mk (Kd.V_lower (Kd.V_mono (ok':=fun k_=>(aA k_∨w.heap.size≤k_)∧some k_≠(bH:Value).ownBlock∧some k_≠(bI:Value).ownBlock∧k_≠af∧k_≠ae∧k_≠ab) bW (fun k_ hk_=>⟨Or.elim hk_.1 (fun hs_=>hs_.1) (fun hn_=>(.inr (Nat.le_trans (qac sB) hn_))),hk_.2.1,hk_.2.2,Or.elim hk_.1 (fun hs_=>hs_.2.1) (fun hn_=>(Kd.freshB (g:=af) (o:=.cells #[.int .i64 aW,.int .i64 aX,.slice A0_2 aC.length c0_2,.int .i64 aK,.int .i64 aM,.slice A0_5 aI.length c0_5,.slice A0_6 aJ.length c0_6,.slice A0_7 aj.length c0_7] 30 (0,0)) (sK ac.out) k_ hn_)),Or.elim hk_.1 (fun hs_=>hs_.2.2.1) (fun hn_=>(Kd.freshB (g:=ae) (o:=.cells #[.int .i64 0,.int .i64 0,.slice none 0 0,.int .i64 0,.int .i64 0,.slice none 0 0,.slice none 0 0,.slice none 0 0] 39 (0,0)) (sK ah.out) k_ hn_)),Or.elim hk_.1 (fun hs_=>hs_.2.2.2) (fun hn_=>(Kd.freshB (g:=ab) (o:=.cells #[.int .i64 0,.int .i64 0,.slice none 0 0,.int .i64 0,.int .i64 0,.slice none 0 0,.slice none 0 0,.slice none 0 0] 39 (0,0)) (sK ai.out) k_ hn_))⟩)) (qac sB))
   have bh:=qaa.mk (Kd.R_lower (Kd.R_newM (M:=fun k_=>(w.heap.size≤k_)) (Kd.R_mono (ok':=fun k_=>True) bZ (fun _ hk_=>trivial)) (qac sB) (fun k_ h_=>h_)) (qac sB))
   have bi:=qaa.mk (Kd.R_lower (Kd.R_newM (M:=fun k_=>(w.heap.size≤k_)) (Kd.R_mono (ok':=fun k_=>True) b8 (fun _ hk_=>trivial)) (qac sB) (fun k_ h_=>h_)) (qac sB))
   replace ac:=qaa.mk (sKb ac.out hb)
   replace ah:=qaa.mk (sKb ah.out hb)
   replace ai:=qaa.mk (sKb ai.out hb)
   replace HB:=qaa.mk (qai sB hb)
   (try clear hb)
   (try clear dh)
   (try clear hk)
   (try clear hi)
   (try clear bW)
   (try clear bZ)
   (try clear b8)
   obtain⟨cp,cq,bS⟩:=Kd.R_slice bi.out
   (first|subst bS|(injection bS with ba bx be;have bz:=ba.symm;have bB:=be.symm;clear ba bx be;subst bz;subst bB))
   obtain⟨cr,ct,bT⟩:=Kd.R_slice bh.out
   (first|subst bT|(injection bT with ba bx be;have bz:=ba.symm;have bB:=be.symm;clear ba bx be;subst bz;subst bB))
   obtain⟨cC,cD,cu⟩:=Kd.V_slice bg.out
   (first|subst cu|(injection cu with ba bx be;have bz:=ba.symm;have bB:=be.symm;clear ba bx be;subst bz;subst bB))
   refine hK.out _ _ ⟨(qab ac.out 0).trans rfl,(qab ac.out 1).trans rfl,(qab ac.out 2).trans rfl,(qab ac.out 3).trans rfl,(qab ac.out 4).trans rfl,(qab ac.out 5).trans rfl,(qab ac.out 6).trans rfl,(qab ac.out 7).trans rfl⟩ (fun hHeld=>?_)
   clear hK K
   refine qa0 (a':=?_) ?_ ?_
   rotate_left
   ·show Act.put _ (some 11) _=_
    simp only [Act.put,List.setIfInBounds_toArray,List.set_cons_zero,List.set_cons_succ,qaC,qaE]
    rfl
   refine sP 6 (some 12) rfl rfl ?_
   exact qa0 (by simp only [putAll,Act.put,List.setIfInBounds_toArray,List.set_cons_zero,List.set_cons_succ]) (hCont (.slice cL bv.length cM,.slice cC av.length cD,.slice cr ax.length ct,.slice cp az.length cq,ab) _ ⟨hHeld,(by refine sVm ?_;exact Kd.V_mono ar.out (fun _ hk=>⟨hk.1.1.1.1.1.1,⟨hk.1.1.2,⟨hk.1.2,⟨hk.2,⟨hk.1.1.1.1.1.2,⟨hk.1.1.1.1.2,hk.1.1.1.2⟩⟩⟩⟩⟩⟩)),(by refine sNm ?_;exact Kd.N_mono aH.out (fun _ hk=>⟨hk.1.1.1,⟨hk.1.2,⟨hk.2,⟨hk.1.1.2.1,⟨hk.1.1.2.2.1,hk.1.1.2.2.2⟩⟩⟩⟩⟩)),(sV bg.out),(by refine sRm ?_;exact Kd.R_mono bh.out (fun _ hk=>hk.1)),(by refine sRm ?_;exact Kd.R_mono bi.out (fun _ hk=>hk.1)),(sK ac.out),(sK ah.out),(sK ai.out),bJ.out,bq.out,aa.out,am.out,ag.out,an.out,sB⟩)
 rintro ⟨cz,cA,bH,bI,ab⟩ bE ⟨hS_,iu,iv,iw,ix,iy,iz,iA,iB,iC,iD,cO,cP,cQ,cR,cS⟩
 have iE:qaa (Kd.V k82 82 bE w.heap.size (fun k_=>(aA k_∨w.heap.size≤k_)∧some k_≠(cz:Value).ownBlock∧some k_≠(bH:Value).ownBlock∧some k_≠(bI:Value).ownBlock∧k_≠af∧k_≠ae∧k_≠ab) (.slice A0_2 aC.length c0_2) aC):=⟨iu⟩
 have iF:qaa (Kd.N k53 53 bE w.heap.size (fun k_=>(aA k_∨w.heap.size≤k_)∧some k_≠(bH:Value).ownBlock∧some k_≠(bI:Value).ownBlock∧k_≠af∧k_≠ae∧k_≠ab) cz bv):=⟨iv⟩
 have iG:qaa (Kd.V k53 53 bE w.heap.size (fun k_=>(aA k_∨w.heap.size≤k_)∧some k_≠(bH:Value).ownBlock∧some k_≠(bI:Value).ownBlock∧k_≠af∧k_≠ae∧k_≠ab) cA av):=⟨iw⟩
 have iH:qaa (Kd.R (Kd.int .i64) 3 bE w.heap.size (fun k_=>(w.heap.size≤k_)) bH ax):=⟨ix⟩
 have iI:qaa (Kd.R (Kd.int .i64) 2 bE w.heap.size (fun k_=>(w.heap.size≤k_)) bI az):=⟨iy⟩
 have iJ:qaa (bE.heap[af]? = some (.cells #[.int .i64 aW,.int .i64 aX,.slice A0_2 aC.length c0_2,.int .i64 aK,.int .i64 aM,.slice A0_5 aI.length c0_5,.slice A0_6 aJ.length c0_6,.slice A0_7 aj.length c0_7] 30 (0,0))):=⟨iz⟩
 have iK:qaa (bE.heap[ae]? = some (.cells #[.int .i64 0,.int .i64 0,.slice none 0 0,.int .i64 0,.int .i64 0,.slice none 0 0,.slice none 0 0,.slice none 0 0] 39 (0,0))):=⟨iA⟩
 have iL:qaa (bE.heap[ab]? = some (.cells #[.int .i64 0,.int .i64 0,.slice none 0 0,.int .i64 0,.int .i64 0,.slice none 0 0,.slice none 0 0,.slice none 0 0] 39 (0,0))):=⟨iB⟩
 have iM:qaa (w.heap.size≤ab):=⟨iC⟩
 have iN:qaa (w.heap.size≤ab):=⟨iD⟩
 have cT:qaa (af≠ab):=⟨cO⟩
 have cU:qaa (ab≠af):=⟨cP⟩
 have cV:qaa (ae≠ab):=⟨cQ⟩
 have cW:qaa (ab≠ae):=⟨cR⟩
 have cX:qaa (Below w.heap.size w bE):=⟨cS⟩
 clear ar ac ah HB iu iv iw ix iy iz iA iB iC iD cO cP cQ cR cS
 have ar:=iE
 have aH:=iF
 have bg:=iG
 have bh:=iH
 have bi:=iI
 have ac:=iJ
 have ah:=iK
 have ai:=iL
 have bJ:=iM
 have bq:=iN
 have aa:=cT
 have am:=cU
 have ag:=cV
 have an:=cW
 have HB:=cX
 clear iE iF iG iH iI iJ iK iL iM iN cT cU cV cW cX
 have hHeld:bE.cell? ⟨af,0,none⟩=some (.int .i64 aW)∧bE.cell? ⟨af,1,none⟩=some (.int .i64 aX)∧bE.cell? ⟨af,2,none⟩=some (.slice A0_2 aC.length c0_2)∧bE.cell? ⟨af,3,none⟩=some (.int .i64 aK)∧bE.cell? ⟨af,4,none⟩=some (.int .i64 aM)∧bE.cell? ⟨af,5,none⟩=some (.slice A0_5 aI.length c0_5)∧bE.cell? ⟨af,6,none⟩=some (.slice A0_6 aJ.length c0_6)∧bE.cell? ⟨af,7,none⟩=some (.slice A0_7 aj.length c0_7):=hS_
 obtain⟨aY,aZ,cY⟩:=Kd.R_slice bi.out
 (first|subst cY|(injection cY with ba bx be;have bz:=ba.symm;have bB:=be.symm;clear ba bx be;subst bz;subst bB))
 obtain⟨aN,aQ,cZ⟩:=Kd.R_slice bh.out
 (first|subst cZ|(injection cZ with ba bx be;have bz:=ba.symm;have bB:=be.symm;clear ba bx be;subst bz;subst bB))
 obtain⟨aE,aG,da⟩:=Kd.V_slice bg.out
 (first|subst da|(injection da with ba bx be;have bz:=ba.symm;have bB:=be.symm;clear ba bx be;subst bz;subst bB))
 refine qa0 (a':=?_) ?_ ?_
 rotate_left
 ·simp only [putAll,Act.put,List.setIfInBounds_toArray,List.set_cons_zero,List.set_cons_succ]
  rfl
 refine one_ (i:=8) (N:=none) #[true,true,true,true,true,true,true,true,true] rfl rfl (qaO HT_.out (by kernel_rfl)) (by decide) (fun K hK=>?_)
 have jD:bE.cell? ⟨ab,0,none⟩=some (.int .i64 0):=(qab ai.out 0).trans rfl
 have iO:=qan ai.out 0
 have di:=aa.out
 have dj:=ag.out
 have dk:=am.out
 have dl:=an.out
 have jE:bE.cell? ⟨ab,1,none⟩=some (.int .i64 0):=(qab ai.out 1).trans rfl
 have iP:=qan ai.out 1
 have dm:=aa.out
 have dn:=ag.out
 have dp:=am.out
 have dq:=an.out
 have jF:bE.cell? ⟨ab,2,none⟩=some (.slice none 0 0):=(qab ai.out 2).trans rfl
 have iQ:=qan ai.out 2
 have dr:=aa.out
 have du:=ag.out
 have dv:=am.out
 have dw:=an.out
 have jG:bE.cell? ⟨ab,3,none⟩=some (.int .i64 0):=(qab ai.out 3).trans rfl
 have iR:=qan ai.out 3
 have dx:=aa.out
 have dy:=ag.out
 have dz:=am.out
 have dA:=an.out
 have jH:bE.cell? ⟨ab,4,none⟩=some (.int .i64 0):=(qab ai.out 4).trans rfl
 have iS:=qan ai.out 4
 have dB:=aa.out
 have dC:=ag.out
 have dD:=am.out
 have dE:=an.out
 have jI:bE.cell? ⟨ab,5,none⟩=some (.slice none 0 0):=(qab ai.out 5).trans rfl
 have iT:=qan ai.out 5
 have dF:=aa.out
 have dG:=ag.out
 have dH:=am.out
 have dI:=an.out
 have jJ:bE.cell? ⟨ab,6,none⟩=some (.slice none 0 0):=(qab ai.out 6).trans rfl
 have iU:=qan ai.out 6
 have dJ:=aa.out
 have dK:=ag.out
 have dL:=am.out
 have dM:=an.out
 have jK:bE.cell? ⟨ab,7,none⟩=some (.slice none 0 0):=(qab ai.out 7).trans rfl
 have iV:=qan ai.out 7
 have dN:=aa.out
 have dO:=ag.out
 have dP:=am.out
 have dQ:=an.out
 refine skip_ (w1:=?_) (by rfl) rfl ?_ ?_
 rotate_left
 ·go_simp
  rfl
 refine hK.out _ _ ⟨((qaq (p:=⟨ab,_,none⟩) aa.out _).trans (((qaq (p:=⟨ab,_,none⟩) aa.out _).trans (((qaq (p:=⟨ab,_,none⟩) aa.out _).trans (((qaq (p:=⟨ab,_,none⟩) aa.out _).trans (((qaq (p:=⟨ab,_,none⟩) aa.out _).trans (((qaq (p:=⟨ab,_,none⟩) aa.out _).trans (((qaq (p:=⟨ab,_,none⟩) aa.out _).trans (((qaq (p:=⟨ab,_,none⟩) aa.out _).trans (hHeld.1)))))))))))))))),((qaq (p:=⟨ab,_,none⟩) aa.out _).trans (((qaq (p:=⟨ab,_,none⟩) aa.out _).trans (((qaq (p:=⟨ab,_,none⟩) aa.out _).trans (((qaq (p:=⟨ab,_,none⟩) aa.out _).trans (((qaq (p:=⟨ab,_,none⟩) aa.out _).trans (((qaq (p:=⟨ab,_,none⟩) aa.out _).trans (((qaq (p:=⟨ab,_,none⟩) aa.out _).trans (((qaq (p:=⟨ab,_,none⟩) aa.out _).trans (hHeld.2.1)))))))))))))))),((qaq (p:=⟨ab,_,none⟩) aa.out _).trans (((qaq (p:=⟨ab,_,none⟩) aa.out _).trans (((qaq (p:=⟨ab,_,none⟩) aa.out _).trans (((qaq (p:=⟨ab,_,none⟩) aa.out _).trans (((qaq (p:=⟨ab,_,none⟩) aa.out _).trans (((qaq (p:=⟨ab,_,none⟩) aa.out _).trans (((qaq (p:=⟨ab,_,none⟩) aa.out _).trans (((qaq (p:=⟨ab,_,none⟩) aa.out _).trans (hHeld.2.2.1)))))))))))))))),((qaq (p:=⟨ab,_,none⟩) aa.out _).trans (((qaq (p:=⟨ab,_,none⟩) aa.out _).trans (((qaq (p:=⟨ab,_,none⟩) aa.out _).trans (((qaq (p:=⟨ab,_,none⟩) aa.out _).trans (((qaq (p:=⟨ab,_,none⟩) aa.out _).trans (((qaq (p:=⟨ab,_,none⟩) aa.out _).trans (((qaq (p:=⟨ab,_,none⟩) aa.out _).trans (((qaq (p:=⟨ab,_,none⟩) aa.out _).trans (hHeld.2.2.2.1)))))))))))))))),((qaq (p:=⟨ab,_,none⟩) aa.out _).trans (((qaq (p:=⟨ab,_,none⟩) aa.out _).trans (((qaq (p:=⟨ab,_,none⟩) aa.out _).trans (((qaq (p:=⟨ab,_,none⟩) aa.out _).trans (((qaq (p:=⟨ab,_,none⟩) aa.out _).trans (((qaq (p:=⟨ab,_,none⟩) aa.out _).trans (((qaq (p:=⟨ab,_,none⟩) aa.out _).trans (((qaq (p:=⟨ab,_,none⟩) aa.out _).trans (hHeld.2.2.2.2.1)))))))))))))))),((qaq (p:=⟨ab,_,none⟩) aa.out _).trans (((qaq (p:=⟨ab,_,none⟩) aa.out _).trans (((qaq (p:=⟨ab,_,none⟩) aa.out _).trans (((qaq (p:=⟨ab,_,none⟩) aa.out _).trans (((qaq (p:=⟨ab,_,none⟩) aa.out _).trans (((qaq (p:=⟨ab,_,none⟩) aa.out _).trans (((qaq (p:=⟨ab,_,none⟩) aa.out _).trans (((qaq (p:=⟨ab,_,none⟩) aa.out _).trans (hHeld.2.2.2.2.2.1)))))))))))))))),((qaq (p:=⟨ab,_,none⟩) aa.out _).trans (((qaq (p:=⟨ab,_,none⟩) aa.out _).trans (((qaq (p:=⟨ab,_,none⟩) aa.out _).trans (((qaq (p:=⟨ab,_,none⟩) aa.out _).trans (((qaq (p:=⟨ab,_,none⟩) aa.out _).trans (((qaq (p:=⟨ab,_,none⟩) aa.out _).trans (((qaq (p:=⟨ab,_,none⟩) aa.out _).trans (((qaq (p:=⟨ab,_,none⟩) aa.out _).trans (hHeld.2.2.2.2.2.2.1)))))))))))))))),((qaq (p:=⟨ab,_,none⟩) aa.out _).trans (((qaq (p:=⟨ab,_,none⟩) aa.out _).trans (((qaq (p:=⟨ab,_,none⟩) aa.out _).trans (((qaq (p:=⟨ab,_,none⟩) aa.out _).trans (((qaq (p:=⟨ab,_,none⟩) aa.out _).trans (((qaq (p:=⟨ab,_,none⟩) aa.out _).trans (((qaq (p:=⟨ab,_,none⟩) aa.out _).trans (((qaq (p:=⟨ab,_,none⟩) aa.out _).trans (hHeld.2.2.2.2.2.2.2))))))))))))))))⟩ (fun hHeld=>?_)
 clear hK K
 refine done_ (done_of HT_.out (by kernel_rfl)) ?_
 try go_wp2
 go_loopg [4] k (fun kq v4 w'=>∃ (ak:Int) (ap:List (S49)) (bf:Value),v4=.int .i64 ak∧qaa (ostinatolaw21_Spec_cert.l0 kq ak aW aX aC aK aM aI aJ aj au aw av ay aD ax az ap=some (r1,r2,r3,r4,r5,r6,r7,r8))∧qaa (kq≤k)∧qaa (Kd.V k82 82 w' w.heap.size (fun k_=>(aA k_∨w.heap.size≤k_)∧some k_≠((.slice aN ax.length aQ):Value).ownBlock∧some k_≠((.slice aY az.length aZ):Value).ownBlock∧some k_≠(bf:Value).ownBlock∧k_≠af∧k_≠ae∧k_≠ab) (.slice A0_2 aC.length c0_2) aC)∧qaa (Kd.V k53 53 w' w.heap.size (fun k_=>(aA k_∨w.heap.size≤k_)∧some k_≠((.slice aN ax.length aQ):Value).ownBlock∧some k_≠((.slice aY az.length aZ):Value).ownBlock∧some k_≠(bf:Value).ownBlock∧k_≠af∧k_≠ae∧k_≠ab) (.slice aE av.length aG) av)∧qaa (Kd.R (Kd.int .i64) 3 w' w.heap.size (fun k_=>(w.heap.size≤k_)) (.slice aN ax.length aQ) ax)∧qaa (Kd.R (Kd.int .i64) 2 w' w.heap.size (fun k_=>(w.heap.size≤k_)) (.slice aY az.length aZ) az)∧qaa (Kd.R k49 49 w' w.heap.size (fun k_=>(w.heap.size≤k_)) bf ap)∧qaa (w'.heap[af]? = some (.cells #[.int .i64 aW,.int .i64 aX,(.slice A0_2 aC.length c0_2),.int .i64 aK,.int .i64 aM,(.slice A0_5 aI.length c0_5),(.slice A0_6 aJ.length c0_6),(.slice A0_7 aj.length c0_7)] 30 (0,0)))∧qaa (w'.heap[ae]? = some (.cells #[.int .i64 0,.int .i64 0,(.slice none 0 0),.int .i64 0,.int .i64 0,(.slice none 0 0),(.slice none 0 0),(.slice none 0 0)] 39 (0,0)))∧qaa (w'.heap[ab]? = some (.cells #[.int .i64 au,.int .i64 aw,(.slice aE av.length aG),.int .i64 ay,.int .i64 aD,(.slice aN ax.length aQ),(.slice aY az.length aZ),bf] 39 (0,0)))∧qaa (Below w.heap.size w w'))
 case atStart=>exact⟨(0),(([]:List (S49))),(.slice none 0 0),(by first|rfl|(simp;done)|(simp [*];done)),H',⟨Nat.le_refl _⟩,⟨by refine sVm ?_;exact Kd.V_mono (Kd.V_far (p:=⟨ab,7,none⟩) (Kd.V_far (p:=⟨ab,6,none⟩) (Kd.V_far (p:=⟨ab,5,none⟩) (Kd.V_far (p:=⟨ab,4,none⟩) (Kd.V_far (p:=⟨ab,3,none⟩) (Kd.V_far (p:=⟨ab,2,none⟩) (Kd.V_far (p:=⟨ab,1,none⟩) (Kd.V_far (p:=⟨ab,0,none⟩) (Kd.V_mono ar.out (fun k_ hk=>(⟨hk,hk.2.2.2.2.2.2⟩:_∧k_≠ab))) (fun _ hk=>hk.2) (.int .i64 au)) (fun _ hk=>hk.2) (.int .i64 aw)) (fun _ hk=>hk.2) (.slice aE av.length aG)) (fun _ hk=>hk.2) (.int .i64 ay)) (fun _ hk=>hk.2) (.int .i64 aD)) (fun _ hk=>hk.2) (.slice aN ax.length aQ)) (fun _ hk=>hk.2) (.slice aY az.length aZ)) (fun _ hk=>hk.2) (.slice none 0 0)) (fun _ hk=>⟨hk.1.1,⟨hk.1.2.2.1,⟨hk.1.2.2.2.1,⟨(by simp [Value.ownBlock]),⟨hk.1.2.2.2.2.1,⟨hk.1.2.2.2.2.2.1,hk.1.2.2.2.2.2.2⟩⟩⟩⟩⟩⟩)⟩,⟨by refine sVm ?_;exact Kd.V_mono (Kd.V_far (p:=⟨ab,7,none⟩) (Kd.V_far (p:=⟨ab,6,none⟩) (Kd.V_far (p:=⟨ab,5,none⟩) (Kd.V_far (p:=⟨ab,4,none⟩) (Kd.V_far (p:=⟨ab,3,none⟩) (Kd.V_far (p:=⟨ab,2,none⟩) (Kd.V_far (p:=⟨ab,1,none⟩) (Kd.V_far (p:=⟨ab,0,none⟩) (Kd.V_mono bg.out (fun k_ hk=>(⟨hk,hk.2.2.2.2.2⟩:_∧k_≠ab))) (fun _ hk=>hk.2) (.int .i64 au)) (fun _ hk=>hk.2) (.int .i64 aw)) (fun _ hk=>hk.2) (.slice aE av.length aG)) (fun _ hk=>hk.2) (.int .i64 ay)) (fun _ hk=>hk.2) (.int .i64 aD)) (fun _ hk=>hk.2) (.slice aN ax.length aQ)) (fun _ hk=>hk.2) (.slice aY az.length aZ)) (fun _ hk=>hk.2) (.slice none 0 0)) (fun _ hk=>⟨hk.1.1,⟨hk.1.2.1,⟨hk.1.2.2.1,⟨(by simp [Value.ownBlock]),⟨hk.1.2.2.2.1,⟨hk.1.2.2.2.2.1,hk.1.2.2.2.2.2⟩⟩⟩⟩⟩⟩)⟩,⟨by refine sRm ?_;exact Kd.R_mono (Kd.R_far (p:=⟨ab,7,none⟩) (Kd.R_far (p:=⟨ab,6,none⟩) (Kd.R_far (p:=⟨ab,5,none⟩) (Kd.R_far (p:=⟨ab,4,none⟩) (Kd.R_far (p:=⟨ab,3,none⟩) (Kd.R_far (p:=⟨ab,2,none⟩) (Kd.R_far (p:=⟨ab,1,none⟩) (Kd.R_far (p:=⟨ab,0,none⟩) (Kd.R_types bh.out ai.out (by decide)) (fun _ hk=>hk.2) (.int .i64 au)) (fun _ hk=>hk.2) (.int .i64 aw)) (fun _ hk=>hk.2) (.slice aE av.length aG)) (fun _ hk=>hk.2) (.int .i64 ay)) (fun _ hk=>hk.2) (.int .i64 aD)) (fun _ hk=>hk.2) (.slice aN ax.length aQ)) (fun _ hk=>hk.2) (.slice aY az.length aZ)) (fun _ hk=>hk.2) (.slice none 0 0)) (fun _ hk=>hk.1)⟩,⟨by refine sRm ?_;exact Kd.R_mono (Kd.R_far (p:=⟨ab,7,none⟩) (Kd.R_far (p:=⟨ab,6,none⟩) (Kd.R_far (p:=⟨ab,5,none⟩) (Kd.R_far (p:=⟨ab,4,none⟩) (Kd.R_far (p:=⟨ab,3,none⟩) (Kd.R_far (p:=⟨ab,2,none⟩) (Kd.R_far (p:=⟨ab,1,none⟩) (Kd.R_far (p:=⟨ab,0,none⟩) (Kd.R_types bi.out ai.out (by decide)) (fun _ hk=>hk.2) (.int .i64 au)) (fun _ hk=>hk.2) (.int .i64 aw)) (fun _ hk=>hk.2) (.slice aE av.length aG)) (fun _ hk=>hk.2) (.int .i64 ay)) (fun _ hk=>hk.2) (.int .i64 aD)) (fun _ hk=>hk.2) (.slice aN ax.length aQ)) (fun _ hk=>hk.2) (.slice aY az.length aZ)) (fun _ hk=>hk.2) (.slice none 0 0)) (fun _ hk=>hk.1)⟩,⟨by first|exact Kd.R_nil _ _ _ _ _|exact Kd.N_nil _ _ _ _ _|exact Kd.V_nil _ _ _ _ _|exact Kd.Q_nil _ _ _ _ _|exact Kd.S_nil _ _ _ _ _⟩,⟨by refine sM ?_;refine qaf ?_ aa.out _;refine sM ?_;refine qaf ?_ aa.out _;refine sM ?_;refine qaf ?_ aa.out _;refine sM ?_;refine qaf ?_ aa.out _;refine sM ?_;refine qaf ?_ aa.out _;refine sM ?_;refine qaf ?_ aa.out _;refine sM ?_;refine qaf ?_ aa.out _;refine sM ?_;refine qaf ?_ aa.out _;refine sM ?_;exact ac.out⟩,⟨by refine sM ?_;refine qaf ?_ ag.out _;refine sM ?_;refine qaf ?_ ag.out _;refine sM ?_;refine qaf ?_ ag.out _;refine sM ?_;refine qaf ?_ ag.out _;refine sM ?_;refine qaf ?_ ag.out _;refine sM ?_;refine qaf ?_ ag.out _;refine sM ?_;refine qaf ?_ ag.out _;refine sM ?_;refine qaf ?_ ag.out _;refine sM ?_;exact ah.out⟩,⟨by refine sM ?_;refine qak (cs:=#[.int .i64 au,.int .i64 aw,.slice aE av.length aG,.int .i64 ay,.int .i64 aD,.slice aN ax.length aQ,.slice aY az.length aZ,.slice none 0 0]) ?_ 7 _ rfl;refine sM ?_;refine qak (cs:=#[.int .i64 au,.int .i64 aw,.slice aE av.length aG,.int .i64 ay,.int .i64 aD,.slice aN ax.length aQ,.slice none 0 0,.slice none 0 0]) ?_ 6 _ rfl;refine sM ?_;refine qak (cs:=#[.int .i64 au,.int .i64 aw,.slice aE av.length aG,.int .i64 ay,.int .i64 aD,.slice none 0 0,.slice none 0 0,.slice none 0 0]) ?_ 5 _ rfl;refine sM ?_;refine qak (cs:=#[.int .i64 au,.int .i64 aw,.slice aE av.length aG,.int .i64 ay,.int .i64 0,.slice none 0 0,.slice none 0 0,.slice none 0 0]) ?_ 4 _ rfl;refine sM ?_;refine qak (cs:=#[.int .i64 au,.int .i64 aw,.slice aE av.length aG,.int .i64 0,.int .i64 0,.slice none 0 0,.slice none 0 0,.slice none 0 0]) ?_ 3 _ rfl;refine sM ?_;refine qak (cs:=#[.int .i64 au,.int .i64 aw,.slice none 0 0,.int .i64 0,.int .i64 0,.slice none 0 0,.slice none 0 0,.slice none 0 0]) ?_ 2 _ rfl;refine sM ?_;refine qak (cs:=#[.int .i64 au,.int .i64 0,.slice none 0 0,.int .i64 0,.int .i64 0,.slice none 0 0,.slice none 0 0,.slice none 0 0]) ?_ 1 _ rfl;refine sM ?_;refine qak (cs:=#[.int .i64 0,.int .i64 0,.slice none 0 0,.int .i64 0,.int .i64 0,.slice none 0 0,.slice none 0 0,.slice none 0 0]) ?_ 0 _ rfl;refine sM ?_;exact ai.out⟩,⟨by repeat (first|(with_reducible first|exact HB.out|apply qah|apply qae|apply qag|refine qad ?_ bX.out|refine qad ?_ bY.out|refine qad ?_ bq.out)|exact HB.out)⟩⟩
 case round=>
  clear H'
  try clear c1
  try clear p2
  try clear c6
  try clear jO
  try clear jP
  obtain⟨ak,ap,bf,rfl,HA,iW,bj,aT,aU,aV,aq,ac,ah,ai,HB⟩:=hrel
  cases gk with
  |zero=>exact absurd HA.out (by simp [ostinatolaw21_Spec_cert.l0])
  |succ k1=>
   have H:=HA.out
   clear HA
   simp only [ostinatolaw21_Spec_cert.l0] at H
   by_cases cG:ak<(aj.length:Int)
   ·rw [if_pos cG] at H
    have db:decide (ak<(aj.length:Int))=true:=decide_eq_true cG
    clear cG
    by_cases cH:ak<6
    ·rw [if_pos cH] at H
     have dc:decide (ak<6)=true:=decide_eq_true cH
     clear cH
     by_cases dT:0≤ak
     ·rw [if_pos dT] at H
      have iX:decide (0≤ak)=true:=decide_eq_true dT
      clear dT
      by_cases dU:ap.length<4398046511104
      ·rw [if_pos dU] at H
       have dd:=qaa.mk dU
       clear dU
       obtain⟨bU,bV⟩:∃ y_:List (S49),y_=(ap++[(⟨Go.bits .and .i64 ((qaz aj ak).f0) 63,Go.bits .and .i64 ((qaz aj ak).f1) 1099511627775,Go.bits .and .i64 ((qaz aj ak).f2) 1099511627775,Go.bits .and .i64 ((qaz aj ak).f3) 1099511627775⟩:S49)]):=⟨_,rfl⟩
       replace H:(ostinatolaw21_Spec_cert.l0 k1 (wrap64 (ak+1)) aW aX aC aK aM aI aJ aj au aw av ay aD ax az bU)=some (r1,r2,r3,r4,r5,r6,r7,r8):=by first|(rw [bV];with_reducible exact H)|(have ia:=(Option.bind_some _ _).symm.trans H;rw [bV];with_reducible exact ia)|(have ia:=(Option.bind_some _ _).symm.trans H;with_reducible exact ia)|with_reducible exact H|(rw [bV];exact H)|exact H
       have de:=qaa.mk bV
       clear bV
       have H':=qaa.mk H
       clear H
       have iY:=bC.out
       have iZ:=bD.out
       have i7:=aa.out
       have i8:=am.out
       obtain⟨dV,dW,dX,dY,dZ,d7,d8,d9⟩:=sC8 (w:=wr) ac.out
       obtain⟨ea,eb,ec,ed,ef,eg,eh,ek⟩:=sF8 ac.out
       have cE:0≤(ak:Int):=of_decide_eq_true sA
       have cF:ak<(aj.length:Int):=of_decide_eq_true sA
       obtain⟨df,ib,bK,bL,bM,bN⟩:=at_T56 cJ.out ak cE cF
       cases ib
       replace bK:=(HB.out.cell (bLt w _ bK)).trans bK
       replace bL:=(HB.out.cell (bLt w _ bL)).trans bL
       replace bM:=(HB.out.cell (bLt w _ bM)).trans bM
       replace bN:=(HB.out.cell (bLt w _ bN)).trans bN
       replace cE:=eq_true cE
       replace cF:=eq_true cF
       go_wp2_with (first|((with_reducible refine qap (N:=5) rfl ?_);refine qao ?hg (N:=5) ?hd (cs:=#[.int .i64 0,.int .i64 0,.int .i64 0,.int .i64 0]) (t:=56) ?hr ?_;(case hd=>rfl);(case hg=>rfl);(case hr=>first|(go_simp;done)|(go_simp;rfl));intro al hg ja hbox hb;replace bj:=qaa.mk (Kd.V_below (Kd.V_elderB (sV bj.out) al (Nat.le_of_eq hg.symm)) hb);replace aT:=qaa.mk (Kd.V_below (Kd.V_elderB (sV aT.out) al (Nat.le_of_eq hg.symm)) hb);replace aU:=qaa.mk (Kd.R_below (sR aU.out) hb);replace aV:=qaa.mk (Kd.R_below (sR aV.out) hb);replace aq:=qaa.mk (Kd.R_below (sR aq.out) hb);have bt:=qaa.mk (hbox);have jb:=qaa.mk ((by rw [hg];exact (qac sB):w.heap.size≤al));have dg:=qaa.mk ((by rw [hg];exact (qac sB):w.heap.size≤al));replace HB:=qaa.mk (qai sB hb);have bm:=qaa.mk ((by rw [hg];exact Nat.ne_of_lt (sLt ac.out):af≠al));have b9:=qaa.mk ((by rw [hg];exact Nat.ne_of_gt (sLt ac.out):al≠af));replace ac:=qaa.mk (sKb ac.out hb);have bn:=qaa.mk ((by rw [hg];exact Nat.ne_of_lt (sLt ah.out):ae≠al));have ca:=qaa.mk ((by rw [hg];exact Nat.ne_of_gt (sLt ah.out):al≠ae));replace ah:=qaa.mk (sKb ah.out hb);have bp:=qaa.mk ((by rw [hg];exact Nat.ne_of_lt (sLt ai.out):ab≠al));have cb:=qaa.mk ((by rw [hg];exact Nat.ne_of_gt (sLt ai.out):al≠ab));replace ai:=qaa.mk (sKb ai.out hb);clear hb hbox hg;have jc:=b9.out;have jd:=bm.out;have je:=ca.out;have jf:=bn.out;have jg:=cb.out;have jh:=bp.out;obtain⟨el,en,ep,eq⟩:=sC4 (w:=ja) bt.out;obtain⟨er,es,et,eu⟩:=sF4 bt.out;have ji:=an.out;have jj:=ag.out;obtain⟨ev,ew,ex,ey,ez,eA,eB,eC⟩:=sC8 (w:=ja) ai.out;obtain⟨eD,eE,eF,eG,eH,eI,eJ,eK⟩:=sF8 ai.out)|((with_reducible refine qaB (b:=.append) (xs:=#[.tmp 30,.tmp 44]) rfl ?_);at_builtin;refine Kd.R_append k49 (w0:=w) w.heap.size rfl (.tmp 30) (.tmp 44) 37 49 (.agg #[(.int .i64 0),(.int .i64 0),(.int .i64 0),(.int .i64 0)]) 32 rfl Tryd.underlying37 info49 rfl (by decide) (by omega) bf ap (⟨Go.bits .and .i64 ((qaz aj ak).f0) 63,Go.bits .and .i64 ((qaz aj ak).f1) 1099511627775,Go.bits .and .i64 ((qaz aj ak).f2) 1099511627775,Go.bits .and .i64 ((qaz aj ak).f3) 1099511627775⟩:S49) [.int .i64 (Go.bits .and .i64 ((qaz aj ak).f0) 63),.int .i64 (Go.bits .and .i64 ((qaz aj ak).f1) 1099511627775),.int .i64 (Go.bits .and .i64 ((qaz aj ak).f2) 1099511627775),.int .i64 (Go.bits .and .i64 ((qaz aj ak).f3) 1099511627775)] (fun k_=>(w.heap.size≤k_)) (fun _=>False) rfl (by first|(go_simp;done)|(go_simp;rfl)) ?aP (fun _ hk=>hk.elim) ?aF ?aO ?aB ?aS ?aL ?_;(case aP=>exact k49_mkM _ _ _ (⟨Go.bits .and .i64 ((qaz aj ak).f0) 63,Go.bits .and .i64 ((qaz aj ak).f1) 1099511627775,Go.bits .and .i64 ((qaz aj ak).f2) 1099511627775,Go.bits .and .i64 ((qaz aj ak).f3) 1099511627775⟩:S49));(case aB=>exact sB);(case aF=>exact (fun k_ hk=>(Nat.le_trans (qac sB) hk)));(case aO=>exact (by refine sRm ?_;exact Kd.R_mono (Kd.R_far (p:=⟨al,3,none⟩) (Kd.R_far (p:=⟨al,2,none⟩) (Kd.R_far (p:=⟨al,1,none⟩) (Kd.R_far (p:=⟨al,0,none⟩) (Kd.R_types aq.out bt.out (by decide)) (fun _ hk=>hk.2) (.int .i64 ((qaz aj ak).f0))) (fun _ hk=>hk.2) (.int .i64 ((qaz aj ak).f1))) (fun _ hk=>hk.2) (.int .i64 ((qaz aj ak).f2))) (fun _ hk=>hk.2) (.int .i64 ((qaz aj ak).f3))) (fun _ hk=>hk.1)));(case aS=>exact (qac sB));(case aL=>have:=dd.out;omega);intro jL jM ho hb hg hat;rw [← de.out] at ho;replace bj:=qaa.mk (Kd.V_afterv (ok:=(fun k_=>(aA k_∨w.heap.size≤k_)∧some k_≠(.slice aN ax.length aQ:Value).ownBlock∧some k_≠(.slice aY az.length aZ:Value).ownBlock∧k_≠af∧k_≠ae∧k_≠ab∧k_≠al)) (by refine sVm ?_;exact Kd.V_mono (Kd.V_far (p:=⟨al,3,none⟩) (Kd.V_far (p:=⟨al,2,none⟩) (Kd.V_far (p:=⟨al,1,none⟩) (Kd.V_far (p:=⟨al,0,none⟩) (Kd.V_mono bj.out (fun k_ hk=>(⟨hk,hk.2⟩:_∧k_≠al))) (fun _ hk=>hk.2) (.int .i64 ((qaz aj ak).f0))) (fun _ hk=>hk.2) (.int .i64 ((qaz aj ak).f1))) (fun _ hk=>hk.2) (.int .i64 ((qaz aj ak).f2))) (fun _ hk=>hk.2) (.int .i64 ((qaz aj ak).f3))) (fun _ hk=>⟨⟨hk.1.1.1,⟨hk.1.1.2.1,⟨hk.1.1.2.2.1,⟨hk.1.1.2.2.2.2.1,⟨hk.1.1.2.2.2.2.2.1,⟨hk.1.1.2.2.2.2.2.2,hk.1.2⟩⟩⟩⟩⟩⟩,hk.1.1.2.2.2.1⟩)) hg hat);replace aT:=qaa.mk (Kd.V_afterv (ok:=(fun k_=>(aA k_∨w.heap.size≤k_)∧some k_≠(.slice aN ax.length aQ:Value).ownBlock∧some k_≠(.slice aY az.length aZ:Value).ownBlock∧k_≠af∧k_≠ae∧k_≠ab∧k_≠al)) (by refine sVm ?_;exact Kd.V_mono (Kd.V_far (p:=⟨al,3,none⟩) (Kd.V_far (p:=⟨al,2,none⟩) (Kd.V_far (p:=⟨al,1,none⟩) (Kd.V_far (p:=⟨al,0,none⟩) (Kd.V_mono aT.out (fun k_ hk=>(⟨hk,hk.2⟩:_∧k_≠al))) (fun _ hk=>hk.2) (.int .i64 ((qaz aj ak).f0))) (fun _ hk=>hk.2) (.int .i64 ((qaz aj ak).f1))) (fun _ hk=>hk.2) (.int .i64 ((qaz aj ak).f2))) (fun _ hk=>hk.2) (.int .i64 ((qaz aj ak).f3))) (fun _ hk=>⟨⟨hk.1.1.1,⟨hk.1.1.2.1,⟨hk.1.1.2.2.1,⟨hk.1.1.2.2.2.2.1,⟨hk.1.1.2.2.2.2.2.1,⟨hk.1.1.2.2.2.2.2.2,hk.1.2⟩⟩⟩⟩⟩⟩,hk.1.1.2.2.2.1⟩)) hg hat);replace aU:=qaa.mk (Kd.R_over' (by refine sRm ?_;exact (Kd.R_mono (Kd.R_far (p:=⟨al,3,none⟩) (Kd.R_far (p:=⟨al,2,none⟩) (Kd.R_far (p:=⟨al,1,none⟩) (Kd.R_far (p:=⟨al,0,none⟩) (Kd.R_types aU.out bt.out (by decide)) (fun _ hk=>hk.2) (.int .i64 ((qaz aj ak).f0))) (fun _ hk=>hk.2) (.int .i64 ((qaz aj ak).f1))) (fun _ hk=>hk.2) (.int .i64 ((qaz aj ak).f2))) (fun _ hk=>hk.2) (.int .i64 ((qaz aj ak).f3))) (fun _ h_=>h_.1))) (Kd.R_typed (by refine sRm ?_;exact (Kd.R_mono (Kd.R_far (p:=⟨al,3,none⟩) (Kd.R_far (p:=⟨al,2,none⟩) (Kd.R_far (p:=⟨al,1,none⟩) (Kd.R_far (p:=⟨al,0,none⟩) (Kd.R_types aq.out bt.out (by decide)) (fun _ hk=>hk.2) (.int .i64 ((qaz aj ak).f0))) (fun _ hk=>hk.2) (.int .i64 ((qaz aj ak).f1))) (fun _ hk=>hk.2) (.int .i64 ((qaz aj ak).f2))) (fun _ hk=>hk.2) (.int .i64 ((qaz aj ak).f3))) (fun _ h_=>h_.1)))) (by decide) hg);replace aV:=qaa.mk (Kd.R_over' (by refine sRm ?_;exact (Kd.R_mono (Kd.R_far (p:=⟨al,3,none⟩) (Kd.R_far (p:=⟨al,2,none⟩) (Kd.R_far (p:=⟨al,1,none⟩) (Kd.R_far (p:=⟨al,0,none⟩) (Kd.R_types aV.out bt.out (by decide)) (fun _ hk=>hk.2) (.int .i64 ((qaz aj ak).f0))) (fun _ hk=>hk.2) (.int .i64 ((qaz aj ak).f1))) (fun _ hk=>hk.2) (.int .i64 ((qaz aj ak).f2))) (fun _ hk=>hk.2) (.int .i64 ((qaz aj ak).f3))) (fun _ h_=>h_.1))) (Kd.R_typed (by refine sRm ?_;exact (Kd.R_mono (Kd.R_far (p:=⟨al,3,none⟩) (Kd.R_far (p:=⟨al,2,none⟩) (Kd.R_far (p:=⟨al,1,none⟩) (Kd.R_far (p:=⟨al,0,none⟩) (Kd.R_types aq.out bt.out (by decide)) (fun _ hk=>hk.2) (.int .i64 ((qaz aj ak).f0))) (fun _ hk=>hk.2) (.int .i64 ((qaz aj ak).f1))) (fun _ hk=>hk.2) (.int .i64 ((qaz aj ak).f2))) (fun _ hk=>hk.2) (.int .i64 ((qaz aj ak).f3))) (fun _ h_=>h_.1)))) (by decide) hg);replace ac:=qaa.mk (qaY (g:=af) (o:=.cells #[.int .i64 aW,.int .i64 aX,.slice A0_2 aC.length c0_2,.int .i64 aK,.int .i64 aM,.slice A0_5 aI.length c0_5,.slice A0_6 aJ.length c0_6,.slice (some df) aj.length c0_7] 30 (0,0)) (by refine sM ?_;refine qaf ?_ bm.out _;refine sM ?_;refine qaf ?_ bm.out _;refine sM ?_;refine qaf ?_ bm.out _;refine sM ?_;refine qaf ?_ bm.out _;refine sM ?_;exact ac.out) hg (Kd.R_ne aq.out ac.out (by decide)));replace ah:=qaa.mk (qaY (g:=ae) (o:=.cells #[.int .i64 0,.int .i64 0,.slice none 0 0,.int .i64 0,.int .i64 0,.slice none 0 0,.slice none 0 0,.slice none 0 0] 39 (0,0)) (by refine sM ?_;refine qaf ?_ bn.out _;refine sM ?_;refine qaf ?_ bn.out _;refine sM ?_;refine qaf ?_ bn.out _;refine sM ?_;refine qaf ?_ bn.out _;refine sM ?_;exact ah.out) hg (Kd.R_ne aq.out ah.out (by decide)));replace ai:=qaa.mk (qaY (g:=ab) (o:=.cells #[.int .i64 au,.int .i64 aw,.slice aE av.length aG,.int .i64 ay,.int .i64 aD,.slice aN ax.length aQ,.slice aY az.length aZ,bf] 39 (0,0)) (by refine sM ?_;refine qaf ?_ bp.out _;refine sM ?_;refine qaf ?_ bp.out _;refine sM ?_;refine qaf ?_ bp.out _;refine sM ?_;refine qaf ?_ bp.out _;refine sM ?_;exact ai.out) hg (Kd.R_ne aq.out ai.out (by decide)));replace bt:=qaa.mk (qaY (g:=al) (o:=.cells #[.int .i64 ((qaz aj ak).f0),.int .i64 ((qaz aj ak).f1),.int .i64 ((qaz aj ak).f2),.int .i64 ((qaz aj ak).f3)] 56 (0,0)) (by refine sM ?_;refine qak (cs:=#[.int .i64 ((qaz aj ak).f0),.int .i64 ((qaz aj ak).f1),.int .i64 ((qaz aj ak).f2),.int .i64 0]) ?_ 3 _ rfl;refine sM ?_;refine qak (cs:=#[.int .i64 ((qaz aj ak).f0),.int .i64 ((qaz aj ak).f1),.int .i64 0,.int .i64 0]) ?_ 2 _ rfl;refine sM ?_;refine qak (cs:=#[.int .i64 ((qaz aj ak).f0),.int .i64 0,.int .i64 0,.int .i64 0]) ?_ 1 _ rfl;refine sM ?_;refine qak (cs:=#[.int .i64 0,.int .i64 0,.int .i64 0,.int .i64 0]) ?_ 0 _ rfl;refine sM ?_;exact bt.out) hg (Kd.R_ne aq.out bt.out (by decide)));replace HB:=qaa.mk (hb);have cB:=qaa.mk (ho);clear aq ho hb hg hat;obtain⟨ce,cf,ic⟩:=Kd.R_slice cB.out;subst ic;obtain⟨eL,eM,eN,eO,eP,eQ,eR,eS⟩:=sC8 (w:=jM) ai.out;obtain⟨eT,eU,eV,eW,eX,eY,eZ,fa⟩:=sF8 ai.out))
       go_roundg k1
       case measure=>have:=iW.out;omega
       case rel=>exact⟨(wrap64 (ak+1)),(bU),(.slice ce bU.length cf),(by first|rfl|(simp;done)|(simp [*];done)),H',⟨by have:=iW.out;omega⟩,⟨by refine sVm ?_;exact Kd.V_mono (Kd.V_far (p:=⟨ab,7,none⟩) (Kd.V_mono bj.out (fun k_ hk=>(⟨hk,hk.1.2.2.2.2.2.1⟩:_∧k_≠ab))) (fun _ hk=>hk.2) (.slice ce bU.length cf)) (fun _ hk=>⟨hk.1.1.1,⟨hk.1.1.2.1,⟨hk.1.1.2.2.1,⟨hk.1.2,⟨hk.1.1.2.2.2.1,⟨hk.1.1.2.2.2.2.1,hk.1.1.2.2.2.2.2.1⟩⟩⟩⟩⟩⟩)⟩,⟨by refine sVm ?_;exact Kd.V_mono (Kd.V_far (p:=⟨ab,7,none⟩) (Kd.V_mono aT.out (fun k_ hk=>(⟨hk,hk.1.2.2.2.2.2.1⟩:_∧k_≠ab))) (fun _ hk=>hk.2) (.slice ce bU.length cf)) (fun _ hk=>⟨hk.1.1.1,⟨hk.1.1.2.1,⟨hk.1.1.2.2.1,⟨hk.1.2,⟨hk.1.1.2.2.2.1,⟨hk.1.1.2.2.2.2.1,hk.1.1.2.2.2.2.2.1⟩⟩⟩⟩⟩⟩)⟩,⟨by refine sRm ?_;exact Kd.R_mono (Kd.R_far (p:=⟨ab,7,none⟩) (Kd.R_types aU.out ai.out (by decide)) (fun _ hk=>hk.2) (.slice ce bU.length cf)) (fun _ hk=>hk.1)⟩,⟨by refine sRm ?_;exact Kd.R_mono (Kd.R_far (p:=⟨ab,7,none⟩) (Kd.R_types aV.out ai.out (by decide)) (fun _ hk=>hk.2) (.slice ce bU.length cf)) (fun _ hk=>hk.1)⟩,⟨by refine sRm ?_;exact Kd.R_mono (Kd.R_far (p:=⟨ab,7,none⟩) (Kd.R_types cB.out ai.out (by decide)) (fun _ hk=>hk.2) (.slice ce bU.length cf)) (fun _ hk=>hk.1)⟩,⟨by refine sM ?_;refine qaf ?_ aa.out _;refine sM ?_;exact ac.out⟩,⟨by refine sM ?_;refine qaf ?_ ag.out _;refine sM ?_;exact ah.out⟩,⟨by refine sM ?_;refine qak (cs:=#[.int .i64 au,.int .i64 aw,.slice aE av.length aG,.int .i64 ay,.int .i64 aD,.slice aN ax.length aQ,.slice aY az.length aZ,bf]) ?_ 7 _ rfl;refine sM ?_;exact ai.out⟩,⟨by repeat (first|(with_reducible first|exact HB.out|apply qah|apply qae|apply qag|refine qad ?_ bX.out|refine qad ?_ bY.out|refine qad ?_ bq.out|refine qad ?_ dg.out)|exact HB.out)⟩⟩
      ·rw [if_neg dU] at H
       exact absurd H (by simp)
     ·rw [if_neg dT] at H
      exact absurd H (by simp)
    ·rw [if_neg cH] at H
     have dc:decide (ak<6)=false:=decide_eq_false cH
     clear cH
     simp only [Option.some.injEq,Prod.mk.injEq] at H
     obtain⟨rfl,rfl,rfl,rfl,rfl,rfl,rfl,rfl⟩:=H
     have jk:=bC.out
     have jl:=bD.out
     have jm:=aa.out
     have jn:=am.out
     obtain⟨fb,fc,fe,ff,fg,fh,fi,fj⟩:=sC8 (w:=wr) ac.out
     obtain⟨fk,fl,fm,fo,fp,fq,ft,fu⟩:=sF8 ac.out
     have jo:=an.out
     have jp:=ag.out
     obtain⟨fv,fw,fx,fy,fz,fA,fB,fC⟩:=sC8 (w:=wr) ai.out
     obtain⟨fD,fE,fF,fG,fH,fI,fJ,fK⟩:=sF8 ai.out
     obtain⟨fL,fM,fN,fO,fP,fQ,fR,fS⟩:=sC8 (w:=wr) ah.out
     obtain⟨fT,fU,fV,fW,fX,fY,fZ,ga⟩:=sF8 ah.out
     obtain⟨cv,cw,ie⟩:=Kd.R_slice aq.out
     subst ie
     go_wp2
     refine bodyPost_ret (results_cell_row rfl _ _ ae 39 #[.int .i64 au,.int .i64 aw,.slice aE av.length aG,.int .i64 ay,.int .i64 aD,.slice aN ax.length aQ,.slice aY az.length aZ,.slice cv ap.length cw] (0,0) _ rfl (by refine sM ?_;refine qak (cs:=#[.int .i64 au,.int .i64 aw,.slice aE av.length aG,.int .i64 ay,.int .i64 aD,.slice aN ax.length aQ,.slice aY az.length aZ,.slice none 0 0]) ?_ 7 _ rfl;refine sM ?_;refine qak (cs:=#[.int .i64 au,.int .i64 aw,.slice aE av.length aG,.int .i64 ay,.int .i64 aD,.slice aN ax.length aQ,.slice none 0 0,.slice none 0 0]) ?_ 6 _ rfl;refine sM ?_;refine qak (cs:=#[.int .i64 au,.int .i64 aw,.slice aE av.length aG,.int .i64 ay,.int .i64 aD,.slice none 0 0,.slice none 0 0,.slice none 0 0]) ?_ 5 _ rfl;refine sM ?_;refine qak (cs:=#[.int .i64 au,.int .i64 aw,.slice aE av.length aG,.int .i64 ay,.int .i64 0,.slice none 0 0,.slice none 0 0,.slice none 0 0]) ?_ 4 _ rfl;refine sM ?_;refine qak (cs:=#[.int .i64 au,.int .i64 aw,.slice aE av.length aG,.int .i64 0,.int .i64 0,.slice none 0 0,.slice none 0 0,.slice none 0 0]) ?_ 3 _ rfl;refine sM ?_;refine qak (cs:=#[.int .i64 au,.int .i64 aw,.slice none 0 0,.int .i64 0,.int .i64 0,.slice none 0 0,.slice none 0 0,.slice none 0 0]) ?_ 2 _ rfl;refine sM ?_;refine qak (cs:=#[.int .i64 au,.int .i64 0,.slice none 0 0,.int .i64 0,.int .i64 0,.slice none 0 0,.slice none 0 0,.slice none 0 0]) ?_ 1 _ rfl;refine sM ?_;refine qak (cs:=#[.int .i64 0,.int .i64 0,.slice none 0 0,.int .i64 0,.int .i64 0,.slice none 0 0,.slice none 0 0,.slice none 0 0]) ?_ 0 _ rfl;refine sM ?_;exact ah.out) Tryd.underlying39 rfl (by kernel_rfl)) rfl ?_
     exact⟨_,_,_,_,by first|rfl|(simp [qam,qal]<;>rfl)|(simp [bneNil,bneNilU]<;>rfl)|(simp [*,qam,qal]<;>rfl),by refine sVm ?_;exact Kd.V_mono (Kd.V_far (p:=⟨ae,7,none⟩) (Kd.V_far (p:=⟨ae,6,none⟩) (Kd.V_far (p:=⟨ae,5,none⟩) (Kd.V_far (p:=⟨ae,4,none⟩) (Kd.V_far (p:=⟨ae,3,none⟩) (Kd.V_far (p:=⟨ae,2,none⟩) (Kd.V_far (p:=⟨ae,1,none⟩) (Kd.V_far (p:=⟨ae,0,none⟩) (Kd.V_mono aT.out (fun k_ hk=>(⟨hk,hk.2.2.2.2.2.1⟩:_∧k_≠ae))) (fun _ hk=>hk.2) (.int .i64 au)) (fun _ hk=>hk.2) (.int .i64 aw)) (fun _ hk=>hk.2) (.slice aE av.length aG)) (fun _ hk=>hk.2) (.int .i64 ay)) (fun _ hk=>hk.2) (.int .i64 aD)) (fun _ hk=>hk.2) (.slice aN ax.length aQ)) (fun _ hk=>hk.2) (.slice aY az.length aZ)) (fun _ hk=>hk.2) (.slice cv ap.length cw)) (fun _ hk=>⟨hk.1.1,⟨hk.1.2.1,⟨hk.1.2.2.1,hk.1.2.2.2.1⟩⟩⟩),by refine sRm ?_;exact Kd.R_mono (Kd.R_far (p:=⟨ae,7,none⟩) (Kd.R_far (p:=⟨ae,6,none⟩) (Kd.R_far (p:=⟨ae,5,none⟩) (Kd.R_far (p:=⟨ae,4,none⟩) (Kd.R_far (p:=⟨ae,3,none⟩) (Kd.R_far (p:=⟨ae,2,none⟩) (Kd.R_far (p:=⟨ae,1,none⟩) (Kd.R_far (p:=⟨ae,0,none⟩) (Kd.R_types aU.out ah.out (by decide)) (fun _ hk=>hk.2) (.int .i64 au)) (fun _ hk=>hk.2) (.int .i64 aw)) (fun _ hk=>hk.2) (.slice aE av.length aG)) (fun _ hk=>hk.2) (.int .i64 ay)) (fun _ hk=>hk.2) (.int .i64 aD)) (fun _ hk=>hk.2) (.slice aN ax.length aQ)) (fun _ hk=>hk.2) (.slice aY az.length aZ)) (fun _ hk=>hk.2) (.slice cv ap.length cw)) (fun _ hk=>hk.1),by refine sRm ?_;exact Kd.R_mono (Kd.R_far (p:=⟨ae,7,none⟩) (Kd.R_far (p:=⟨ae,6,none⟩) (Kd.R_far (p:=⟨ae,5,none⟩) (Kd.R_far (p:=⟨ae,4,none⟩) (Kd.R_far (p:=⟨ae,3,none⟩) (Kd.R_far (p:=⟨ae,2,none⟩) (Kd.R_far (p:=⟨ae,1,none⟩) (Kd.R_far (p:=⟨ae,0,none⟩) (Kd.R_types aV.out ah.out (by decide)) (fun _ hk=>hk.2) (.int .i64 au)) (fun _ hk=>hk.2) (.int .i64 aw)) (fun _ hk=>hk.2) (.slice aE av.length aG)) (fun _ hk=>hk.2) (.int .i64 ay)) (fun _ hk=>hk.2) (.int .i64 aD)) (fun _ hk=>hk.2) (.slice aN ax.length aQ)) (fun _ hk=>hk.2) (.slice aY az.length aZ)) (fun _ hk=>hk.2) (.slice cv ap.length cw)) (fun _ hk=>hk.1),by refine sRm ?_;exact Kd.R_mono (Kd.R_far (p:=⟨ae,7,none⟩) (Kd.R_far (p:=⟨ae,6,none⟩) (Kd.R_far (p:=⟨ae,5,none⟩) (Kd.R_far (p:=⟨ae,4,none⟩) (Kd.R_far (p:=⟨ae,3,none⟩) (Kd.R_far (p:=⟨ae,2,none⟩) (Kd.R_far (p:=⟨ae,1,none⟩) (Kd.R_far (p:=⟨ae,0,none⟩) (Kd.R_types aq.out ah.out (by decide)) (fun _ hk=>hk.2) (.int .i64 au)) (fun _ hk=>hk.2) (.int .i64 aw)) (fun _ hk=>hk.2) (.slice aE av.length aG)) (fun _ hk=>hk.2) (.int .i64 ay)) (fun _ hk=>hk.2) (.int .i64 aD)) (fun _ hk=>hk.2) (.slice aN ax.length aQ)) (fun _ hk=>hk.2) (.slice aY az.length aZ)) (fun _ hk=>hk.2) (.slice cv ap.length cw)) (fun _ hk=>hk.1),by repeat (first|(with_reducible first|exact HB.out|apply qah|apply qae|apply qag|refine qad ?_ bX.out|refine qad ?_ bY.out|refine qad ?_ bq.out)|exact HB.out)⟩
   ·rw [if_neg cG] at H
    have db:decide (ak<(aj.length:Int))=false:=decide_eq_false cG
    clear cG
    simp only [Option.some.injEq,Prod.mk.injEq] at H
    obtain⟨rfl,rfl,rfl,rfl,rfl,rfl,rfl,rfl⟩:=H
    have jq:=bC.out
    have jr:=bD.out
    have js:=aa.out
    have jt:=am.out
    obtain⟨gb,gc,ge,gf,gg,gh,gi,gj⟩:=sC8 (w:=wr) ac.out
    obtain⟨gl,gm,gn,go,gp,gq,gr,gt⟩:=sF8 ac.out
    have ju:=an.out
    have jv:=ag.out
    obtain⟨gu,gv,gw,gx,gy,gz,gA,gB⟩:=sC8 (w:=wr) ai.out
    obtain⟨gC,gD,gE,gF,gG,gH,gI,gJ⟩:=sF8 ai.out
    obtain⟨gK,gL,gM,gN,gO,gP,gQ,gR⟩:=sC8 (w:=wr) ah.out
    obtain⟨gS,gT,gU,gV,gW,gX,gY,gZ⟩:=sF8 ah.out
    obtain⟨cx,cy,ig⟩:=Kd.R_slice aq.out
    subst ig
    go_wp2
    refine bodyPost_ret (results_cell_row rfl _ _ ae 39 #[.int .i64 au,.int .i64 aw,.slice aE av.length aG,.int .i64 ay,.int .i64 aD,.slice aN ax.length aQ,.slice aY az.length aZ,.slice cx ap.length cy] (0,0) _ rfl (by refine sM ?_;refine qak (cs:=#[.int .i64 au,.int .i64 aw,.slice aE av.length aG,.int .i64 ay,.int .i64 aD,.slice aN ax.length aQ,.slice aY az.length aZ,.slice none 0 0]) ?_ 7 _ rfl;refine sM ?_;refine qak (cs:=#[.int .i64 au,.int .i64 aw,.slice aE av.length aG,.int .i64 ay,.int .i64 aD,.slice aN ax.length aQ,.slice none 0 0,.slice none 0 0]) ?_ 6 _ rfl;refine sM ?_;refine qak (cs:=#[.int .i64 au,.int .i64 aw,.slice aE av.length aG,.int .i64 ay,.int .i64 aD,.slice none 0 0,.slice none 0 0,.slice none 0 0]) ?_ 5 _ rfl;refine sM ?_;refine qak (cs:=#[.int .i64 au,.int .i64 aw,.slice aE av.length aG,.int .i64 ay,.int .i64 0,.slice none 0 0,.slice none 0 0,.slice none 0 0]) ?_ 4 _ rfl;refine sM ?_;refine qak (cs:=#[.int .i64 au,.int .i64 aw,.slice aE av.length aG,.int .i64 0,.int .i64 0,.slice none 0 0,.slice none 0 0,.slice none 0 0]) ?_ 3 _ rfl;refine sM ?_;refine qak (cs:=#[.int .i64 au,.int .i64 aw,.slice none 0 0,.int .i64 0,.int .i64 0,.slice none 0 0,.slice none 0 0,.slice none 0 0]) ?_ 2 _ rfl;refine sM ?_;refine qak (cs:=#[.int .i64 au,.int .i64 0,.slice none 0 0,.int .i64 0,.int .i64 0,.slice none 0 0,.slice none 0 0,.slice none 0 0]) ?_ 1 _ rfl;refine sM ?_;refine qak (cs:=#[.int .i64 0,.int .i64 0,.slice none 0 0,.int .i64 0,.int .i64 0,.slice none 0 0,.slice none 0 0,.slice none 0 0]) ?_ 0 _ rfl;refine sM ?_;exact ah.out) Tryd.underlying39 rfl (by kernel_rfl)) rfl ?_
    exact⟨_,_,_,_,by first|rfl|(simp [qam,qal]<;>rfl)|(simp [bneNil,bneNilU]<;>rfl)|(simp [*,qam,qal]<;>rfl),by refine sVm ?_;exact Kd.V_mono (Kd.V_far (p:=⟨ae,7,none⟩) (Kd.V_far (p:=⟨ae,6,none⟩) (Kd.V_far (p:=⟨ae,5,none⟩) (Kd.V_far (p:=⟨ae,4,none⟩) (Kd.V_far (p:=⟨ae,3,none⟩) (Kd.V_far (p:=⟨ae,2,none⟩) (Kd.V_far (p:=⟨ae,1,none⟩) (Kd.V_far (p:=⟨ae,0,none⟩) (Kd.V_mono aT.out (fun k_ hk=>(⟨hk,hk.2.2.2.2.2.1⟩:_∧k_≠ae))) (fun _ hk=>hk.2) (.int .i64 au)) (fun _ hk=>hk.2) (.int .i64 aw)) (fun _ hk=>hk.2) (.slice aE av.length aG)) (fun _ hk=>hk.2) (.int .i64 ay)) (fun _ hk=>hk.2) (.int .i64 aD)) (fun _ hk=>hk.2) (.slice aN ax.length aQ)) (fun _ hk=>hk.2) (.slice aY az.length aZ)) (fun _ hk=>hk.2) (.slice cx ap.length cy)) (fun _ hk=>⟨hk.1.1,⟨hk.1.2.1,⟨hk.1.2.2.1,hk.1.2.2.2.1⟩⟩⟩),by refine sRm ?_;exact Kd.R_mono (Kd.R_far (p:=⟨ae,7,none⟩) (Kd.R_far (p:=⟨ae,6,none⟩) (Kd.R_far (p:=⟨ae,5,none⟩) (Kd.R_far (p:=⟨ae,4,none⟩) (Kd.R_far (p:=⟨ae,3,none⟩) (Kd.R_far (p:=⟨ae,2,none⟩) (Kd.R_far (p:=⟨ae,1,none⟩) (Kd.R_far (p:=⟨ae,0,none⟩) (Kd.R_types aU.out ah.out (by decide)) (fun _ hk=>hk.2) (.int .i64 au)) (fun _ hk=>hk.2) (.int .i64 aw)) (fun _ hk=>hk.2) (.slice aE av.length aG)) (fun _ hk=>hk.2) (.int .i64 ay)) (fun _ hk=>hk.2) (.int .i64 aD)) (fun _ hk=>hk.2) (.slice aN ax.length aQ)) (fun _ hk=>hk.2) (.slice aY az.length aZ)) (fun _ hk=>hk.2) (.slice cx ap.length cy)) (fun _ hk=>hk.1),by refine sRm ?_;exact Kd.R_mono (Kd.R_far (p:=⟨ae,7,none⟩) (Kd.R_far (p:=⟨ae,6,none⟩) (Kd.R_far (p:=⟨ae,5,none⟩) (Kd.R_far (p:=⟨ae,4,none⟩) (Kd.R_far (p:=⟨ae,3,none⟩) (Kd.R_far (p:=⟨ae,2,none⟩) (Kd.R_far (p:=⟨ae,1,none⟩) (Kd.R_far (p:=⟨ae,0,none⟩) (Kd.R_types aV.out ah.out (by decide)) (fun _ hk=>hk.2) (.int .i64 au)) (fun _ hk=>hk.2) (.int .i64 aw)) (fun _ hk=>hk.2) (.slice aE av.length aG)) (fun _ hk=>hk.2) (.int .i64 ay)) (fun _ hk=>hk.2) (.int .i64 aD)) (fun _ hk=>hk.2) (.slice aN ax.length aQ)) (fun _ hk=>hk.2) (.slice aY az.length aZ)) (fun _ hk=>hk.2) (.slice cx ap.length cy)) (fun _ hk=>hk.1),by refine sRm ?_;exact Kd.R_mono (Kd.R_far (p:=⟨ae,7,none⟩) (Kd.R_far (p:=⟨ae,6,none⟩) (Kd.R_far (p:=⟨ae,5,none⟩) (Kd.R_far (p:=⟨ae,4,none⟩) (Kd.R_far (p:=⟨ae,3,none⟩) (Kd.R_far (p:=⟨ae,2,none⟩) (Kd.R_far (p:=⟨ae,1,none⟩) (Kd.R_far (p:=⟨ae,0,none⟩) (Kd.R_types aq.out ah.out (by decide)) (fun _ hk=>hk.2) (.int .i64 au)) (fun _ hk=>hk.2) (.int .i64 aw)) (fun _ hk=>hk.2) (.slice aE av.length aG)) (fun _ hk=>hk.2) (.int .i64 ay)) (fun _ hk=>hk.2) (.int .i64 aD)) (fun _ hk=>hk.2) (.slice aN ax.length aQ)) (fun _ hk=>hk.2) (.slice aY az.length aZ)) (fun _ hk=>hk.2) (.slice cx ap.length cy)) (fun _ hk=>hk.1),by repeat (first|(with_reducible first|exact HB.out|apply qah|apply qae|apply qag|refine qad ?_ bX.out|refine qad ?_ bY.out|refine qad ?_ bq.out)|exact HB.out)⟩
end
end Go.Proofs.YtgnaaokhfpfglaaDoor.PCertTold
end
section
namespace Go.Proofs.YtgnaaokhfpfglaaDoor.PCertTold
open Go.RowKit Go.Proofs.YtgnaaokhfpfglaaDoorW.PrintWords Go.Proofs.YtgnaaokhfpfglaaDoorW.PrintLast Go.Proofs.YtgnaaokhfpfglaaDoorW.PrintMore
attribute [local go_sem] qaW qaU qa3 qa2 qaN qaM qaV qaT
set_option linter.unusedVariables false
set_option linter.unusedSimpArgs false
noncomputable section
attribute [local go_sem high] eqA49
def slices_Equal_int_int.l0:Nat→List Int→List Int→Int→Int→Option (Bool)
 |0,_,_,_,_=>none
 |k+1,x0,x1,ab,aa=>if aa<ab then (if 0≤aa then (if aa<(x0.length:Int) then (if aa<(x1.length:Int) then (if (rd x0 aa)=(rd x1 aa) then (slices_Equal_int_int.l0 k x0 x1 ab (wrap64 (aa+1))) else (some false)) else (none)) else (none)) else (none)) else (some true)
def slices_Equal_int_int.f (k:Nat) (l0:List Int) (l1:List Int):Option (Bool):=if (l0.length:Int)=(l1.length:Int) then (slices_Equal_int_int.l0 k l0 l1 (l0.length:Int) 0) else (some false)
theorem slices_Equal_int_int.calls (k:Nat) (A0:Option Addr) (c0:Nat) (l0:List Int) (A1:Option Addr) (c1:Nat) (l1:List Int) (r:Bool) (w:World) (av:Kd.C (Kd.int .i64) w A0 l0.length l0) (aw:l0.length≤c0) (ax:Kd.C (Kd.int .i64) w A1 l1.length l1) (ay:l1.length≤c1) (h:slices_Equal_int_int.f k l0 l1=some r) :
  Calls Tryd.prog 20 #[.slice A0 l0.length c0,.slice A1 l1.length c1] w fun e w'=>e=.returned (.bool r)∧qar w w':=by
 have az:=qaa.mk av
 have aI:=qaa.mk aw
 clear av aw
 have aA:=qaa.mk ax
 have aJ:=qaa.mk ay
 clear ax ay
 have H:(if (l0.length:Int)=(l1.length:Int) then (slices_Equal_int_int.l0 k l0 l1 (l0.length:Int) 0) else (some false))=some r:=h
 clear h
 by_cases c3:(l0.length:Int)=(l1.length:Int)
 ·rw [if_pos c3] at H
  have ak:((l0.length:Int) == (l1.length:Int))=true:=beq_iff_eq.mpr c3
  have al:((l0.length:Int) != (l1.length:Int))=false:=bne_eq_false_iff_eq.mpr c3
  have am:(l0.length == l1.length)=true:=by first|simpa using c3|(simp at c3 ⊢;omega)
  clear c3
  have H':=qaa.mk H
  clear H
  go_enter Tryd.func20,Tryd.ntmps20
  go_wp2
  repeat (go_quiet (fail);try go_wp2)
  go_loopg [13] k (fun kq aD w'=>∃ (aa:Int),aD=.int .i64 aa∧qaa (slices_Equal_int_int.l0 kq l0 l1 (l0.length:Int) aa=some r)∧qaa (kq≤k)∧qar w w')
  case atStart=>exact⟨(0),(by first|rfl|(simp;done)|(simp [*];done)),H',⟨Nat.le_refl _⟩,by repeat (first|exact qar.refl _|apply qar.step)⟩
  case round=>
   clear H'
   try clear c1
   try clear c2
   try clear p2
   try clear c3
   try clear ak
   try clear al
   try clear am
   obtain⟨aa,rfl,HA,aC,⟨m1,rfl⟩⟩:=hrel
   cases gk with
   |zero=>exact absurd HA.out (by simp [slices_Equal_int_int.l0])
   |succ k1=>
    have H:=HA.out
    clear HA
    simp only [slices_Equal_int_int.l0] at H
    by_cases c4:aa<(l0.length:Int)
    ·rw [if_pos c4] at H
     have aq:decide (aa<(l0.length:Int))=true:=decide_eq_true c4
     clear c4
     by_cases c5:0≤aa
     ·rw [if_pos c5] at H
      have aE:decide (0≤aa)=true:=decide_eq_true c5
      clear c5
      by_cases c6:aa<(l0.length:Int)
      ·rw [if_pos c6] at H
       have aG:decide (aa<(l0.length:Int))=true:=decide_eq_true c6
       clear c6
       by_cases c7:aa<(l1.length:Int)
       ·rw [if_pos c7] at H
        have aH:decide (aa<(l1.length:Int))=true:=decide_eq_true c7
        clear c7
        by_cases c8:(rd l0 aa)=(rd l1 aa)
        ·rw [if_pos c8] at H
         have ar:((rd l0 aa) == (rd l1 aa))=true:=beq_iff_eq.mpr c8
         have au:((rd l0 aa) != (rd l1 aa))=false:=bne_eq_false_iff_eq.mpr c8
         clear c8
         have H':=qaa.mk H
         clear H
         have ab:0≤(aa:Int):=of_decide_eq_true sA
         have ac:aa<(l0.length:Int):=of_decide_eq_true sA
         obtain⟨an,ai,ag⟩:=Kd.at_int az.out aa ab ac
         cases ai
         replace ab:=eq_true ab
         replace ac:=eq_true ac
         have ae:0≤(aa:Int):=of_decide_eq_true sA
         have af:aa<(l1.length:Int):=of_decide_eq_true sA
         obtain⟨ap,aj,ah⟩:=Kd.at_int aA.out aa ae af
         cases aj
         replace ae:=eq_true ae
         replace af:=eq_true af
         go_wp2
         repeat (go_quiet (fail);try go_wp2)
         go_roundg k1
         case measure=>have:=aC.out;omega
         case rel=>exact⟨(wrap64 (aa+1)),(by first|rfl|(simp;done)|(simp [*];done)),H',⟨by have:=aC.out;omega⟩,by repeat (first|exact qar.refl _|apply qar.step)⟩
        ·rw [if_neg c8] at H
         have ar:((rd l0 aa) == (rd l1 aa))=false:=beq_eq_false_iff_ne.mpr c8
         have au:((rd l0 aa) != (rd l1 aa))=true:=bne_iff_ne.mpr c8
         obtain rfl:=Option.some.inj H
         have ab:0≤(aa:Int):=of_decide_eq_true sA
         have ac:aa<(l0.length:Int):=of_decide_eq_true sA
         obtain⟨an,ai,ag⟩:=Kd.at_int az.out aa ab ac
         cases ai
         replace ab:=eq_true ab
         replace ac:=eq_true ac
         have ae:0≤(aa:Int):=of_decide_eq_true sA
         have af:aa<(l1.length:Int):=of_decide_eq_true sA
         obtain⟨ap,aj,ah⟩:=Kd.at_int aA.out aa ae af
         cases aj
         replace ae:=eq_true ae
         replace af:=eq_true af
         go_wp2
         repeat (go_quiet (fail);try go_wp2)
         go_ret
         exact⟨by first|rfl|(simp;done)|(simp [*];done),by repeat (first|exact qar.refl _|apply qar.step)⟩
       ·rw [if_neg c7] at H
        exact absurd H (by simp)
      ·rw [if_neg c6] at H
       exact absurd H (by simp)
     ·rw [if_neg c5] at H
      exact absurd H (by simp)
    ·rw [if_neg c4] at H
     have aq:decide (aa<(l0.length:Int))=false:=decide_eq_false c4
     clear c4
     obtain rfl:=Option.some.inj H
     go_wp2
     repeat (go_quiet (fail);try go_wp2)
     go_ret
     exact⟨by first|rfl|(simp;done)|(simp [*];done),by repeat (first|exact qar.refl _|apply qar.step)⟩
 ·rw [if_neg c3] at H
  have ak:((l0.length:Int) == (l1.length:Int))=false:=beq_eq_false_iff_ne.mpr c3
  have al:((l0.length:Int) != (l1.length:Int))=true:=bne_iff_ne.mpr c3
  have am:(l0.length == l1.length)=false:=by first|simpa using c3|(simp at c3 ⊢;omega)
  obtain rfl:=Option.some.inj H
  go_enter Tryd.func20,Tryd.ntmps20
  go_wp2
  repeat (go_quiet (fail);try go_wp2)
  go_ret
  exact⟨by first|rfl|(simp;done)|(simp [*];done),by repeat (first|exact qar.refl _|apply qar.step)⟩
def slices_Equal_int64_int64.l0:Nat→List Int→List Int→Int→Int→Option (Bool)
 |0,_,_,_,_=>none
 |k+1,x0,x1,ab,aa=>if aa<ab then (if 0≤aa then (if aa<(x0.length:Int) then (if aa<(x1.length:Int) then (if (rd x0 aa)=(rd x1 aa) then (slices_Equal_int64_int64.l0 k x0 x1 ab (wrap64 (aa+1))) else (some false)) else (none)) else (none)) else (none)) else (some true)
def slices_Equal_int64_int64.f (k:Nat) (l0:List Int) (l1:List Int):Option (Bool):=if (l0.length:Int)=(l1.length:Int) then (slices_Equal_int64_int64.l0 k l0 l1 (l0.length:Int) 0) else (some false)
theorem slices_Equal_int64_int64.calls (k:Nat) (A0:Option Addr) (c0:Nat) (l0:List Int) (A1:Option Addr) (c1:Nat) (l1:List Int) (r:Bool) (w:World) (av:Kd.C (Kd.int .i64) w A0 l0.length l0) (aw:l0.length≤c0) (ax:Kd.C (Kd.int .i64) w A1 l1.length l1) (ay:l1.length≤c1) (h:slices_Equal_int64_int64.f k l0 l1=some r) :
  Calls Tryd.prog 21 #[.slice A0 l0.length c0,.slice A1 l1.length c1] w fun e w'=>e=.returned (.bool r)∧qar w w':=by
 have az:=qaa.mk av
 have aI:=qaa.mk aw
 clear av aw
 have aA:=qaa.mk ax
 have aJ:=qaa.mk ay
 clear ax ay
 have H:(if (l0.length:Int)=(l1.length:Int) then (slices_Equal_int64_int64.l0 k l0 l1 (l0.length:Int) 0) else (some false))=some r:=h
 clear h
 by_cases c3:(l0.length:Int)=(l1.length:Int)
 ·rw [if_pos c3] at H
  have ak:((l0.length:Int) == (l1.length:Int))=true:=beq_iff_eq.mpr c3
  have al:((l0.length:Int) != (l1.length:Int))=false:=bne_eq_false_iff_eq.mpr c3
  have am:(l0.length == l1.length)=true:=by first|simpa using c3|(simp at c3 ⊢;omega)
  clear c3
  have H':=qaa.mk H
  clear H
  go_enter Tryd.func21,Tryd.ntmps21
  go_wp2
  repeat (go_quiet (fail);try go_wp2)
  go_loopg [13] k (fun kq aD w'=>∃ (aa:Int),aD=.int .i64 aa∧qaa (slices_Equal_int64_int64.l0 kq l0 l1 (l0.length:Int) aa=some r)∧qaa (kq≤k)∧qar w w')
  case atStart=>exact⟨(0),(by first|rfl|(simp;done)|(simp [*];done)),H',⟨Nat.le_refl _⟩,by repeat (first|exact qar.refl _|apply qar.step)⟩
  case round=>
   clear H'
   try clear c1
   try clear c2
   try clear p2
   try clear c3
   try clear ak
   try clear al
   try clear am
   obtain⟨aa,rfl,HA,aC,⟨m1,rfl⟩⟩:=hrel
   cases gk with
   |zero=>exact absurd HA.out (by simp [slices_Equal_int64_int64.l0])
   |succ k1=>
    have H:=HA.out
    clear HA
    simp only [slices_Equal_int64_int64.l0] at H
    by_cases c4:aa<(l0.length:Int)
    ·rw [if_pos c4] at H
     have aq:decide (aa<(l0.length:Int))=true:=decide_eq_true c4
     clear c4
     by_cases c5:0≤aa
     ·rw [if_pos c5] at H
      have aE:decide (0≤aa)=true:=decide_eq_true c5
      clear c5
      by_cases c6:aa<(l0.length:Int)
      ·rw [if_pos c6] at H
       have aG:decide (aa<(l0.length:Int))=true:=decide_eq_true c6
       clear c6
       by_cases c7:aa<(l1.length:Int)
       ·rw [if_pos c7] at H
        have aH:decide (aa<(l1.length:Int))=true:=decide_eq_true c7
        clear c7
        by_cases c8:(rd l0 aa)=(rd l1 aa)
        ·rw [if_pos c8] at H
         have ar:((rd l0 aa) == (rd l1 aa))=true:=beq_iff_eq.mpr c8
         have au:((rd l0 aa) != (rd l1 aa))=false:=bne_eq_false_iff_eq.mpr c8
         clear c8
         have H':=qaa.mk H
         clear H
         have ab:0≤(aa:Int):=of_decide_eq_true sA
         have ac:aa<(l0.length:Int):=of_decide_eq_true sA
         obtain⟨an,ai,ag⟩:=Kd.at_int az.out aa ab ac
         cases ai
         replace ab:=eq_true ab
         replace ac:=eq_true ac
         have ae:0≤(aa:Int):=of_decide_eq_true sA
         have af:aa<(l1.length:Int):=of_decide_eq_true sA
         obtain⟨ap,aj,ah⟩:=Kd.at_int aA.out aa ae af
         cases aj
         replace ae:=eq_true ae
         replace af:=eq_true af
         go_wp2
         repeat (go_quiet (fail);try go_wp2)
         go_roundg k1
         case measure=>have:=aC.out;omega
         case rel=>exact⟨(wrap64 (aa+1)),(by first|rfl|(simp;done)|(simp [*];done)),H',⟨by have:=aC.out;omega⟩,by repeat (first|exact qar.refl _|apply qar.step)⟩
        ·rw [if_neg c8] at H
         have ar:((rd l0 aa) == (rd l1 aa))=false:=beq_eq_false_iff_ne.mpr c8
         have au:((rd l0 aa) != (rd l1 aa))=true:=bne_iff_ne.mpr c8
         obtain rfl:=Option.some.inj H
         have ab:0≤(aa:Int):=of_decide_eq_true sA
         have ac:aa<(l0.length:Int):=of_decide_eq_true sA
         obtain⟨an,ai,ag⟩:=Kd.at_int az.out aa ab ac
         cases ai
         replace ab:=eq_true ab
         replace ac:=eq_true ac
         have ae:0≤(aa:Int):=of_decide_eq_true sA
         have af:aa<(l1.length:Int):=of_decide_eq_true sA
         obtain⟨ap,aj,ah⟩:=Kd.at_int aA.out aa ae af
         cases aj
         replace ae:=eq_true ae
         replace af:=eq_true af
         go_wp2
         repeat (go_quiet (fail);try go_wp2)
         go_ret
         exact⟨by first|rfl|(simp;done)|(simp [*];done),by repeat (first|exact qar.refl _|apply qar.step)⟩
       ·rw [if_neg c7] at H
        exact absurd H (by simp)
      ·rw [if_neg c6] at H
       exact absurd H (by simp)
     ·rw [if_neg c5] at H
      exact absurd H (by simp)
    ·rw [if_neg c4] at H
     have aq:decide (aa<(l0.length:Int))=false:=decide_eq_false c4
     clear c4
     obtain rfl:=Option.some.inj H
     go_wp2
     repeat (go_quiet (fail);try go_wp2)
     go_ret
     exact⟨by first|rfl|(simp;done)|(simp [*];done),by repeat (first|exact qar.refl _|apply qar.step)⟩
 ·rw [if_neg c3] at H
  have ak:((l0.length:Int) == (l1.length:Int))=false:=beq_eq_false_iff_ne.mpr c3
  have al:((l0.length:Int) != (l1.length:Int))=true:=bne_iff_ne.mpr c3
  have am:(l0.length == l1.length)=false:=by first|simpa using c3|(simp at c3 ⊢;omega)
  obtain rfl:=Option.some.inj H
  go_enter Tryd.func21,Tryd.ntmps21
  go_wp2
  repeat (go_quiet (fail);try go_wp2)
  go_ret
  exact⟨by first|rfl|(simp;done)|(simp [*];done),by repeat (first|exact qar.refl _|apply qar.step)⟩
def tasks_SameTask.f (k:Nat) (aa:Int) (ab:Int) (ac:Int) (ae:Int) (af:Int) (ag:List Int) (ah:List Int) (ai:Int) (aj:Int) (ak:Int) (al:Int) (am:Int) (an:List Int) (ap:List Int):Option (Bool):=if aa=ai then (if ab=aj then (if ac=ak then (if ae=al then (if af=am then ((slices_Equal_int64_int64.f k ag an).bind fun aq=>(if aq=true then ((slices_Equal_int_int.f k ah ap).bind fun ar=>(some ar)) else (some false))) else (some false)) else (some false)) else (some false)) else (some false)) else (some false)
theorem tasks_SameTask.calls (k:Nat) (al:Int) (am:Int) (an:Int) (ap:Int) (aq:Int) (A0_5:Option Addr) (c0_5:Nat) (ar:List Int) (A0_6:Option Addr) (c0_6:Nat) (aj:List Int) (au:Int) (av:Int) (aw:Int) (ax:Int) (ay:Int) (aD:Option Addr) (aE:Nat) (az:List Int) (aG:Option Addr) (aH:Nat) (ak:List Int) (r:Bool) (w:World) (hr0_5:Kd.C (Kd.int .i64) w A0_5 ar.length ar) (hc0_5:ar.length≤c0_5) (hr0_6:Kd.C (Kd.int .i64) w A0_6 aj.length aj) (hc0_6:aj.length≤c0_6) (aT:Kd.C (Kd.int .i64) w aD az.length az) (aU:az.length≤aE) (aV:Kd.C (Kd.int .i64) w aG ak.length ak) (aW:ak.length≤aH) (h:tasks_SameTask.f k al am an ap aq ar aj au av aw ax ay az ak=some r) :
  Calls Tryd.prog 42 #[.agg #[.int .i64 al,.int .i64 am,.int .i64 an,.int .i64 ap,.int .i64 aq,.slice A0_5 ar.length c0_5,.slice A0_6 aj.length c0_6],.agg #[.int .i64 au,.int .i64 av,.int .i64 aw,.int .i64 ax,.int .i64 ay,.slice aD az.length aE,.slice aG ak.length aH]] w fun e w'=>e=.returned (.bool r)∧Below w.heap.size w w':=by
 have ga:=Tryd.underlying53
 have aX:=qaa.mk hr0_5
 have aY:=qaa.mk hc0_5
 clear hr0_5 hc0_5
 have ba:=qaa.mk hr0_6
 have be:=qaa.mk hc0_6
 clear hr0_6 hc0_6
 have aZ:=qaa.mk aT
 have a8:=qaa.mk aU
 clear aT aU
 have bf:=qaa.mk aV
 have bg:=qaa.mk aW
 clear aV aW
 have HB:=qaa.mk (Below.refl w.heap.size w)
 have H:(if al=au then (if am=av then (if an=aw then (if ap=ax then (if aq=ay then ((slices_Equal_int64_int64.f k ar az).bind fun aQ=>(if aQ=true then ((slices_Equal_int_int.f k aj ak).bind fun aI=>(some aI)) else (some false))) else (some false)) else (some false)) else (some false)) else (some false)) else (some false))=some r:=h
 clear h
 by_cases c3:al=au
 ·rw [if_pos c3] at H
  have fu:(al == au)=true:=beq_iff_eq.mpr c3
  have fv:(al != au)=false:=bne_eq_false_iff_eq.mpr c3
  clear c3
  by_cases c4:am=av
  ·rw [if_pos c4] at H
   have fw:(am == av)=true:=beq_iff_eq.mpr c4
   have fx:(am != av)=false:=bne_eq_false_iff_eq.mpr c4
   clear c4
   by_cases c5:an=aw
   ·rw [if_pos c5] at H
    have fy:(an == aw)=true:=beq_iff_eq.mpr c5
    have fz:(an != aw)=false:=bne_eq_false_iff_eq.mpr c5
    clear c5
    by_cases c6:ap=ax
    ·rw [if_pos c6] at H
     have fA:(ap == ax)=true:=beq_iff_eq.mpr c6
     have fB:(ap != ax)=false:=bne_eq_false_iff_eq.mpr c6
     clear c6
     by_cases c7:aq=ay
     ·rw [if_pos c7] at H
      have fC:(aq == ay)=true:=beq_iff_eq.mpr c7
      have fD:(aq != ay)=false:=bne_eq_false_iff_eq.mpr c7
      clear c7
      replace H:=Option.bind_eq_some_iff.mp H
      obtain⟨aQ,fE,H⟩:=H
      replace H:(if aQ=true then ((slices_Equal_int_int.f k aj ak).bind fun aI=>(some aI)) else (some false))=some r:=H
      have A8:=qaa.mk fE
      clear fE
      by_cases c9:aQ=true
      ·subst c9
       have H1:((slices_Equal_int_int.f k aj ak).bind fun aI=>(some aI))=some r:=by rw [if_pos rfl] at H;exact H
       clear H
       have H:=H1
       clear H1
       replace H:=Option.bind_eq_some_iff.mp H
       obtain⟨aI,bh,H⟩:=H
       replace H:(some aI)=some r:=H
       have gb:=qaa.mk bh
       clear bh
       obtain rfl:=Option.some.inj H
       go_enter Tryd.func42,Tryd.ntmps42
       go_wp2_with (first|((with_reducible refine qap (N:=2) rfl ?_);refine qao ?hg (N:=2) ?hd (cs:=#[.int .i64 al,.int .i64 am,.int .i64 an,.int .i64 ap,.int .i64 aq,.slice A0_5 ar.length c0_5,.slice A0_6 aj.length c0_6]) (t:=53) ?hr ?_;(case hd=>rfl);(case hg=>rfl);(case hr=>first|(go_simp;done)|(go_simp;rfl));intro ab hg gc hbox hb;have aa:=qaa.mk (hbox);have aA:=qaa.mk ((by rw [hg];exact (qac sB):w.heap.size≤ab));have ah:=qaa.mk ((by rw [hg];exact (qac sB):w.heap.size≤ab));replace HB:=qaa.mk (qai sB hb);clear hb hbox hg)|((with_reducible refine qap (N:=3) rfl ?_);refine qao ?hg (N:=3) ?hd (cs:=#[.int .i64 au,.int .i64 av,.int .i64 aw,.int .i64 ax,.int .i64 ay,.slice aD az.length aE,.slice aG ak.length aH]) (t:=53) ?hr ?_;(case hd=>rfl);(case hg=>rfl);(case hr=>first|(go_simp;done)|(go_simp;rfl));intro ac hg fF hbox hb;have ag:=qaa.mk (hbox);have aC:=qaa.mk ((by rw [hg];exact (qac sB):w.heap.size≤ac));have ai:=qaa.mk ((by rw [hg];exact (qac sB):w.heap.size≤ac));replace HB:=qaa.mk (qai sB hb);have ae:=qaa.mk ((by rw [hg];exact Nat.ne_of_lt (sLt aa.out):ab≠ac));have af:=qaa.mk ((by rw [hg];exact Nat.ne_of_gt (sLt aa.out):ac≠ab));replace aa:=qaa.mk (sKb aa.out hb);clear hb hbox hg;have fG:=ae.out;have fH:=af.out;obtain⟨bi,bj,bm,bn,bp,bq,bt⟩:=sC7 (w:=fF) aa.out;obtain⟨bv,bw,bx,bz,bB,bC,bD⟩:=sF7 aa.out;obtain⟨bE,bF,bG,bH,bI,bJ,bK⟩:=sC7 (w:=fF) ag.out;obtain⟨bL,bM,bN,bO,bP,bQ,bR⟩:=sF7 ag.out)|(go_at_call 21;(with_reducible refine (slices_Equal_int64_int64.calls k _ _ ar _ _ az true _ ?aJ ?aK ?aM ?aN A8.out).mono ?_);(case aJ=>repeat (first|exact (Kd.C_below aX.out HB.out)|(with_reducible refine Kd.C_alloc ?_ _)|(with_reducible refine Kd.C_drewN ?_ _)|(with_reducible refine Kd.C_drew ?_)));(case aK=>exact aY.out);(case aM=>repeat (first|exact (Kd.C_below aZ.out HB.out)|(with_reducible refine Kd.C_alloc ?_ _)|(with_reducible refine Kd.C_drewN ?_ _)|(with_reducible refine Kd.C_drew ?_)));(case aN=>exact a8.out);rintro e w' ⟨rfl,⟨nd,rfl⟩⟩)|(go_at_call 20;(with_reducible refine (slices_Equal_int_int.calls k _ _ aj _ _ ak aI _ ?aJ ?aK ?aM ?aN gb.out).mono ?_);(case aJ=>repeat (first|exact (Kd.C_below ba.out sB)|(with_reducible refine Kd.C_alloc ?_ _)|(with_reducible refine Kd.C_drewN ?_ _)|(with_reducible refine Kd.C_drew ?_)));(case aK=>exact be.out);(case aM=>repeat (first|exact (Kd.C_below bf.out sB)|(with_reducible refine Kd.C_alloc ?_ _)|(with_reducible refine Kd.C_drewN ?_ _)|(with_reducible refine Kd.C_drew ?_)));(case aN=>exact bg.out);rintro e w' ⟨rfl,⟨nd,rfl⟩⟩))
       go_ret
       exact⟨by first|rfl|(simp [qam,qal]<;>rfl)|(simp [bneNil,bneNilU]<;>rfl)|(simp [*,qam,qal]<;>rfl),by repeat (first|(with_reducible first|exact HB.out|apply qah|apply qae|apply qag|refine qad ?_ ah.out|refine qad ?_ ai.out)|exact HB.out)⟩
      ·replace c9:=Bool.eq_false_iff.mpr c9
       subst c9
       have H1:(some false)=some r:=by rw [if_neg (show ¬ (false=true) by decide)] at H;exact H
       clear H
       have H:=H1
       clear H1
       obtain rfl:=Option.some.inj H
       go_enter Tryd.func42,Tryd.ntmps42
       go_wp2_with (first|((with_reducible refine qap (N:=2) rfl ?_);refine qao ?hg (N:=2) ?hd (cs:=#[.int .i64 al,.int .i64 am,.int .i64 an,.int .i64 ap,.int .i64 aq,.slice A0_5 ar.length c0_5,.slice A0_6 aj.length c0_6]) (t:=53) ?hr ?_;(case hd=>rfl);(case hg=>rfl);(case hr=>first|(go_simp;done)|(go_simp;rfl));intro ab hg ge hbox hb;have aa:=qaa.mk (hbox);have aA:=qaa.mk ((by rw [hg];exact (qac sB):w.heap.size≤ab));have ah:=qaa.mk ((by rw [hg];exact (qac sB):w.heap.size≤ab));replace HB:=qaa.mk (qai sB hb);clear hb hbox hg)|((with_reducible refine qap (N:=3) rfl ?_);refine qao ?hg (N:=3) ?hd (cs:=#[.int .i64 au,.int .i64 av,.int .i64 aw,.int .i64 ax,.int .i64 ay,.slice aD az.length aE,.slice aG ak.length aH]) (t:=53) ?hr ?_;(case hd=>rfl);(case hg=>rfl);(case hr=>first|(go_simp;done)|(go_simp;rfl));intro ac hg fI hbox hb;have ag:=qaa.mk (hbox);have aC:=qaa.mk ((by rw [hg];exact (qac sB):w.heap.size≤ac));have ai:=qaa.mk ((by rw [hg];exact (qac sB):w.heap.size≤ac));replace HB:=qaa.mk (qai sB hb);have ae:=qaa.mk ((by rw [hg];exact Nat.ne_of_lt (sLt aa.out):ab≠ac));have af:=qaa.mk ((by rw [hg];exact Nat.ne_of_gt (sLt aa.out):ac≠ab));replace aa:=qaa.mk (sKb aa.out hb);clear hb hbox hg;have fJ:=ae.out;have fK:=af.out;obtain⟨bS,bT,bU,bV,bW,bX,bY⟩:=sC7 (w:=fI) aa.out;obtain⟨bZ,b8,b9,ca,cb,ce,cf⟩:=sF7 aa.out;obtain⟨cg,cj,ck,cm,co,cp,cq⟩:=sC7 (w:=fI) ag.out;obtain⟨cr,ct,cu,cv,cw,cx,cy⟩:=sF7 ag.out)|(go_at_call 21;(with_reducible refine (slices_Equal_int64_int64.calls k _ _ ar _ _ az false _ ?aJ ?aK ?aM ?aN A8.out).mono ?_);(case aJ=>repeat (first|exact (Kd.C_below aX.out HB.out)|(with_reducible refine Kd.C_alloc ?_ _)|(with_reducible refine Kd.C_drewN ?_ _)|(with_reducible refine Kd.C_drew ?_)));(case aK=>exact aY.out);(case aM=>repeat (first|exact (Kd.C_below aZ.out HB.out)|(with_reducible refine Kd.C_alloc ?_ _)|(with_reducible refine Kd.C_drewN ?_ _)|(with_reducible refine Kd.C_drew ?_)));(case aN=>exact a8.out);rintro e w' ⟨rfl,⟨nd,rfl⟩⟩))
       go_ret
       exact⟨by first|rfl|(simp [qam,qal]<;>rfl)|(simp [bneNil,bneNilU]<;>rfl)|(simp [*,qam,qal]<;>rfl),by repeat (first|(with_reducible first|exact HB.out|apply qah|apply qae|apply qag|refine qad ?_ ah.out|refine qad ?_ ai.out)|exact HB.out)⟩
     ·rw [if_neg c7] at H
      have fC:(aq == ay)=false:=beq_eq_false_iff_ne.mpr c7
      have fD:(aq != ay)=true:=bne_iff_ne.mpr c7
      obtain rfl:=Option.some.inj H
      go_enter Tryd.func42,Tryd.ntmps42
      go_wp2_with (first|((with_reducible refine qap (N:=2) rfl ?_);refine qao ?hg (N:=2) ?hd (cs:=#[.int .i64 al,.int .i64 am,.int .i64 an,.int .i64 ap,.int .i64 aq,.slice A0_5 ar.length c0_5,.slice A0_6 aj.length c0_6]) (t:=53) ?hr ?_;(case hd=>rfl);(case hg=>rfl);(case hr=>first|(go_simp;done)|(go_simp;rfl));intro ab hg gf hbox hb;have aa:=qaa.mk (hbox);have aA:=qaa.mk ((by rw [hg];exact (qac sB):w.heap.size≤ab));have ah:=qaa.mk ((by rw [hg];exact (qac sB):w.heap.size≤ab));replace HB:=qaa.mk (qai sB hb);clear hb hbox hg)|((with_reducible refine qap (N:=3) rfl ?_);refine qao ?hg (N:=3) ?hd (cs:=#[.int .i64 au,.int .i64 av,.int .i64 aw,.int .i64 ax,.int .i64 ay,.slice aD az.length aE,.slice aG ak.length aH]) (t:=53) ?hr ?_;(case hd=>rfl);(case hg=>rfl);(case hr=>first|(go_simp;done)|(go_simp;rfl));intro ac hg fL hbox hb;have ag:=qaa.mk (hbox);have aC:=qaa.mk ((by rw [hg];exact (qac sB):w.heap.size≤ac));have ai:=qaa.mk ((by rw [hg];exact (qac sB):w.heap.size≤ac));replace HB:=qaa.mk (qai sB hb);have ae:=qaa.mk ((by rw [hg];exact Nat.ne_of_lt (sLt aa.out):ab≠ac));have af:=qaa.mk ((by rw [hg];exact Nat.ne_of_gt (sLt aa.out):ac≠ab));replace aa:=qaa.mk (sKb aa.out hb);clear hb hbox hg;have fM:=ae.out;have fN:=af.out;obtain⟨cz,cA,cB,cC,cD,cE,cF⟩:=sC7 (w:=fL) aa.out;obtain⟨cG,cH,cI,cJ,cK,cL,cM⟩:=sF7 aa.out;obtain⟨cN,cO,cP,cQ,cR,cS,cT⟩:=sC7 (w:=fL) ag.out;obtain⟨cU,cV,cW,cX,cY,cZ,da⟩:=sF7 ag.out))
      go_ret
      exact⟨by first|rfl|(simp [qam,qal]<;>rfl)|(simp [bneNil,bneNilU]<;>rfl)|(simp [*,qam,qal]<;>rfl),by repeat (first|(with_reducible first|exact HB.out|apply qah|apply qae|apply qag|refine qad ?_ ah.out|refine qad ?_ ai.out)|exact HB.out)⟩
    ·rw [if_neg c6] at H
     have fA:(ap == ax)=false:=beq_eq_false_iff_ne.mpr c6
     have fB:(ap != ax)=true:=bne_iff_ne.mpr c6
     obtain rfl:=Option.some.inj H
     go_enter Tryd.func42,Tryd.ntmps42
     go_wp2_with (first|((with_reducible refine qap (N:=2) rfl ?_);refine qao ?hg (N:=2) ?hd (cs:=#[.int .i64 al,.int .i64 am,.int .i64 an,.int .i64 ap,.int .i64 aq,.slice A0_5 ar.length c0_5,.slice A0_6 aj.length c0_6]) (t:=53) ?hr ?_;(case hd=>rfl);(case hg=>rfl);(case hr=>first|(go_simp;done)|(go_simp;rfl));intro ab hg gg hbox hb;have aa:=qaa.mk (hbox);have aA:=qaa.mk ((by rw [hg];exact (qac sB):w.heap.size≤ab));have ah:=qaa.mk ((by rw [hg];exact (qac sB):w.heap.size≤ab));replace HB:=qaa.mk (qai sB hb);clear hb hbox hg)|((with_reducible refine qap (N:=3) rfl ?_);refine qao ?hg (N:=3) ?hd (cs:=#[.int .i64 au,.int .i64 av,.int .i64 aw,.int .i64 ax,.int .i64 ay,.slice aD az.length aE,.slice aG ak.length aH]) (t:=53) ?hr ?_;(case hd=>rfl);(case hg=>rfl);(case hr=>first|(go_simp;done)|(go_simp;rfl));intro ac hg fO hbox hb;have ag:=qaa.mk (hbox);have aC:=qaa.mk ((by rw [hg];exact (qac sB):w.heap.size≤ac));have ai:=qaa.mk ((by rw [hg];exact (qac sB):w.heap.size≤ac));replace HB:=qaa.mk (qai sB hb);have ae:=qaa.mk ((by rw [hg];exact Nat.ne_of_lt (sLt aa.out):ab≠ac));have af:=qaa.mk ((by rw [hg];exact Nat.ne_of_gt (sLt aa.out):ac≠ab));replace aa:=qaa.mk (sKb aa.out hb);clear hb hbox hg;have fP:=ae.out;have fQ:=af.out;obtain⟨db,dc,dd,de,df,dg,dh⟩:=sC7 (w:=fO) aa.out;obtain⟨di,dj,dk,dl,dm,dn,dp⟩:=sF7 aa.out;obtain⟨dq,dr,du,dv,dw,dx,dy⟩:=sC7 (w:=fO) ag.out;obtain⟨dz,dA,dB,dC,dD,dE,dF⟩:=sF7 ag.out))
     go_ret
     exact⟨by first|rfl|(simp [qam,qal]<;>rfl)|(simp [bneNil,bneNilU]<;>rfl)|(simp [*,qam,qal]<;>rfl),by repeat (first|(with_reducible first|exact HB.out|apply qah|apply qae|apply qag|refine qad ?_ ah.out|refine qad ?_ ai.out)|exact HB.out)⟩
   ·rw [if_neg c5] at H
    have fy:(an == aw)=false:=beq_eq_false_iff_ne.mpr c5
    have fz:(an != aw)=true:=bne_iff_ne.mpr c5
    obtain rfl:=Option.some.inj H
    go_enter Tryd.func42,Tryd.ntmps42
    go_wp2_with (first|((with_reducible refine qap (N:=2) rfl ?_);refine qao ?hg (N:=2) ?hd (cs:=#[.int .i64 al,.int .i64 am,.int .i64 an,.int .i64 ap,.int .i64 aq,.slice A0_5 ar.length c0_5,.slice A0_6 aj.length c0_6]) (t:=53) ?hr ?_;(case hd=>rfl);(case hg=>rfl);(case hr=>first|(go_simp;done)|(go_simp;rfl));intro ab hg gh hbox hb;have aa:=qaa.mk (hbox);have aA:=qaa.mk ((by rw [hg];exact (qac sB):w.heap.size≤ab));have ah:=qaa.mk ((by rw [hg];exact (qac sB):w.heap.size≤ab));replace HB:=qaa.mk (qai sB hb);clear hb hbox hg)|((with_reducible refine qap (N:=3) rfl ?_);refine qao ?hg (N:=3) ?hd (cs:=#[.int .i64 au,.int .i64 av,.int .i64 aw,.int .i64 ax,.int .i64 ay,.slice aD az.length aE,.slice aG ak.length aH]) (t:=53) ?hr ?_;(case hd=>rfl);(case hg=>rfl);(case hr=>first|(go_simp;done)|(go_simp;rfl));intro ac hg fR hbox hb;have ag:=qaa.mk (hbox);have aC:=qaa.mk ((by rw [hg];exact (qac sB):w.heap.size≤ac));have ai:=qaa.mk ((by rw [hg];exact (qac sB):w.heap.size≤ac));replace HB:=qaa.mk (qai sB hb);have ae:=qaa.mk ((by rw [hg];exact Nat.ne_of_lt (sLt aa.out):ab≠ac));have af:=qaa.mk ((by rw [hg];exact Nat.ne_of_gt (sLt aa.out):ac≠ab));replace aa:=qaa.mk (sKb aa.out hb);clear hb hbox hg;have fS:=ae.out;have fT:=af.out;obtain⟨dG,dH,dI,dJ,dK,dL,dM⟩:=sC7 (w:=fR) aa.out;obtain⟨dN,dO,dP,dQ,dT,dU,dV⟩:=sF7 aa.out;obtain⟨dW,dX,dY,dZ,d7,d8,d9⟩:=sC7 (w:=fR) ag.out;obtain⟨ea,eb,ec,ed,ef,eg,eh⟩:=sF7 ag.out))
    go_ret
    exact⟨by first|rfl|(simp [qam,qal]<;>rfl)|(simp [bneNil,bneNilU]<;>rfl)|(simp [*,qam,qal]<;>rfl),by repeat (first|(with_reducible first|exact HB.out|apply qah|apply qae|apply qag|refine qad ?_ ah.out|refine qad ?_ ai.out)|exact HB.out)⟩
  ·rw [if_neg c4] at H
   have fw:(am == av)=false:=beq_eq_false_iff_ne.mpr c4
   have fx:(am != av)=true:=bne_iff_ne.mpr c4
   obtain rfl:=Option.some.inj H
   go_enter Tryd.func42,Tryd.ntmps42
   go_wp2_with (first|((with_reducible refine qap (N:=2) rfl ?_);refine qao ?hg (N:=2) ?hd (cs:=#[.int .i64 al,.int .i64 am,.int .i64 an,.int .i64 ap,.int .i64 aq,.slice A0_5 ar.length c0_5,.slice A0_6 aj.length c0_6]) (t:=53) ?hr ?_;(case hd=>rfl);(case hg=>rfl);(case hr=>first|(go_simp;done)|(go_simp;rfl));intro ab hg gi hbox hb;have aa:=qaa.mk (hbox);have aA:=qaa.mk ((by rw [hg];exact (qac sB):w.heap.size≤ab));have ah:=qaa.mk ((by rw [hg];exact (qac sB):w.heap.size≤ab));replace HB:=qaa.mk (qai sB hb);clear hb hbox hg)|((with_reducible refine qap (N:=3) rfl ?_);refine qao ?hg (N:=3) ?hd (cs:=#[.int .i64 au,.int .i64 av,.int .i64 aw,.int .i64 ax,.int .i64 ay,.slice aD az.length aE,.slice aG ak.length aH]) (t:=53) ?hr ?_;(case hd=>rfl);(case hg=>rfl);(case hr=>first|(go_simp;done)|(go_simp;rfl));intro ac hg fU hbox hb;have ag:=qaa.mk (hbox);have aC:=qaa.mk ((by rw [hg];exact (qac sB):w.heap.size≤ac));have ai:=qaa.mk ((by rw [hg];exact (qac sB):w.heap.size≤ac));replace HB:=qaa.mk (qai sB hb);have ae:=qaa.mk ((by rw [hg];exact Nat.ne_of_lt (sLt aa.out):ab≠ac));have af:=qaa.mk ((by rw [hg];exact Nat.ne_of_gt (sLt aa.out):ac≠ab));replace aa:=qaa.mk (sKb aa.out hb);clear hb hbox hg;have fV:=ae.out;have fW:=af.out;obtain⟨ek,el,en,ep,eq,er,es⟩:=sC7 (w:=fU) aa.out;obtain⟨et,eu,ev,ew,ex,ey,ez⟩:=sF7 aa.out;obtain⟨eA,eB,eC,eD,eE,eF,eG⟩:=sC7 (w:=fU) ag.out;obtain⟨eH,eI,eJ,eK,eL,eM,eN⟩:=sF7 ag.out))
   go_ret
   exact⟨by first|rfl|(simp [qam,qal]<;>rfl)|(simp [bneNil,bneNilU]<;>rfl)|(simp [*,qam,qal]<;>rfl),by repeat (first|(with_reducible first|exact HB.out|apply qah|apply qae|apply qag|refine qad ?_ ah.out|refine qad ?_ ai.out)|exact HB.out)⟩
 ·rw [if_neg c3] at H
  have fu:(al == au)=false:=beq_eq_false_iff_ne.mpr c3
  have fv:(al != au)=true:=bne_iff_ne.mpr c3
  obtain rfl:=Option.some.inj H
  go_enter Tryd.func42,Tryd.ntmps42
  go_wp2_with (first|((with_reducible refine qap (N:=2) rfl ?_);refine qao ?hg (N:=2) ?hd (cs:=#[.int .i64 al,.int .i64 am,.int .i64 an,.int .i64 ap,.int .i64 aq,.slice A0_5 ar.length c0_5,.slice A0_6 aj.length c0_6]) (t:=53) ?hr ?_;(case hd=>rfl);(case hg=>rfl);(case hr=>first|(go_simp;done)|(go_simp;rfl));intro ab hg gj hbox hb;have aa:=qaa.mk (hbox);have aA:=qaa.mk ((by rw [hg];exact (qac sB):w.heap.size≤ab));have ah:=qaa.mk ((by rw [hg];exact (qac sB):w.heap.size≤ab));replace HB:=qaa.mk (qai sB hb);clear hb hbox hg)|((with_reducible refine qap (N:=3) rfl ?_);refine qao ?hg (N:=3) ?hd (cs:=#[.int .i64 au,.int .i64 av,.int .i64 aw,.int .i64 ax,.int .i64 ay,.slice aD az.length aE,.slice aG ak.length aH]) (t:=53) ?hr ?_;(case hd=>rfl);(case hg=>rfl);(case hr=>first|(go_simp;done)|(go_simp;rfl));intro ac hg fX hbox hb;have ag:=qaa.mk (hbox);have aC:=qaa.mk ((by rw [hg];exact (qac sB):w.heap.size≤ac));have ai:=qaa.mk ((by rw [hg];exact (qac sB):w.heap.size≤ac));replace HB:=qaa.mk (qai sB hb);have ae:=qaa.mk ((by rw [hg];exact Nat.ne_of_lt (sLt aa.out):ab≠ac));have af:=qaa.mk ((by rw [hg];exact Nat.ne_of_gt (sLt aa.out):ac≠ab));replace aa:=qaa.mk (sKb aa.out hb);clear hb hbox hg;have fY:=ae.out;have fZ:=af.out;obtain⟨eO,eP,eQ,eR,eS,eT,eU⟩:=sC7 (w:=fX) aa.out;obtain⟨eV,eW,eX,eY,eZ,fa,fb⟩:=sF7 aa.out;obtain⟨fc,fe,ff,fg,fh,fi,fj⟩:=sC7 (w:=fX) ag.out;obtain⟨fk,fl,fm,fo,fp,fq,ft⟩:=sF7 ag.out))
  go_ret
  exact⟨by first|rfl|(simp [qam,qal]<;>rfl)|(simp [bneNil,bneNilU]<;>rfl)|(simp [*,qam,qal]<;>rfl),by repeat (first|(with_reducible first|exact HB.out|apply qah|apply qae|apply qag|refine qad ?_ ah.out|refine qad ?_ ai.out)|exact HB.out)⟩
def sameO (k:Nat) (x y:Tk):Option Bool:=tasks_SameTask.f k x.id x.c x.d x.t x.p x.ch x.us y.id y.c y.d y.t y.p y.ch y.us
def sameP (k:Nat) (x y:Tk):Bool:=(sameO k x y).getD false
def sameGo (k:Nat):List Tk→List Tk→Option Bool
 |x::r,y::q=>(sameO k x y).bind fun b=>(sameGo k r q).bind fun c=>some (b && c)
 |_,_=>some true
theorem sameGo_all (k:Nat):∀ (L M:List Tk) (b:Bool),L.length=M.length→sameGo k L M=some b→(∀ i (h:i<L.length) (h':i<M.length),sameO k L[i] M[i]=some (sameP k L[i] M[i]))∧b=allG (sameP k) L M:=by
 intro L
 induction L with
 |nil=>intro M b _ h;exact⟨fun i hi=>absurd hi (Nat.not_lt_zero _),by cases M<;>exact (Option.some.inj h).symm⟩
 |cons x r ih=>
  intro M b hl h
  cases M with
  |nil=>simp at hl
  |cons y q=>
   rw [sameGo] at h
   obtain⟨c,hc,h⟩:=Option.bind_eq_some_iff.1 h
   obtain⟨d,hd,h⟩:=Option.bind_eq_some_iff.1 h
   obtain rfl:=Option.some.inj h
   obtain⟨h1,rfl⟩:=ih q d (by simpa using hl) hd
   have hx:sameP k x y=c:=by unfold sameP;rw [hc];rfl
   refine⟨fun i hi hi'=>?_,by rw [allG,hx]⟩
   cases i with
   |zero=>show sameO k x y=some (sameP k x y);rw [hx,hc]
   |succ i=>exact h1 i (by simpa using hi) (by simpa using hi')
def api_Task.f (k:Nat) (l0 l1:List S53) (_:ByteArray):Option Bool:=if l0.length≤70000 then (if l0.length=l1.length then sameGo k (l0.map tkOf) (l1.map tkOf) else some false) else none
theorem api_Task.calls (k:Nat) (A0:Option Addr) (c0:Nat) (l0:List S53) (A1:Option Addr) (c1:Nat) (l1:List S53) (a2:ByteArray) (r:Bool) (w:World) (aa:Kd.C k53 w A0 l0.length l0) (ag:l0.length≤c0) (ab:Kd.C k53 w A1 l1.length l1) (ah:l1.length≤c1) (h:api_Task.f k l0 l1 a2=some r) :
  Calls Tryd.prog 41 #[.slice A0 l0.length c0,.slice A1 l1.length c1,.func (Fn.func 42) #[] #[]] w fun e w'=>e=.returned (.bool r)∧Below w.heap.size w w':=by
 unfold api_Task.f at h
 split at h
 ·rename_i h1
  have g0':=C_of_tk aa
  have g1':=C_of_tk ab
  have ha:∀ (i:Nat) (hi:i<(l0.map tkOf).length) (hi':i<(l1.map tkOf).length),(l0.length=l1.length→SaysTk (l0.map tkOf)[i] (l1.map tkOf)[i] (sameP k (l0.map tkOf)[i] (l1.map tkOf)[i])):=by
   intro i hi hi' hl
   rw [if_pos hl] at h
   have hs:=(sameGo_all k (l0.map tkOf) (l1.map tkOf) r (by rw [List.length_map,List.length_map];exact hl) h).1 i hi hi'
   intro A5 c5 A6 c6 B5 d5 B6 d6 W p5 p6 p7 p8 p9 ac ae af
   exact tasks_SameTask.calls k _ _ _ _ _ A5 c5 _ A6 c6 _ _ _ _ _ _ B5 d5 _ B6 d6 _ _ W p5 p6 p7 p8 p9 ac ae af hs
  by_cases hl:l0.length=l1.length
  ·have:=eqFunc_any (sameP k) A0 c0 A1 c1 (l0.map tkOf) (l1.map tkOf) w (by rw [List.length_map];exact h1) g0' g1' (fun _ i hi hi'=>ha i hi hi' hl)
   rw [if_pos hl] at h
   have hb:=(sameGo_all k (l0.map tkOf) (l1.map tkOf) r (by rw [List.length_map,List.length_map];exact hl) h).2
   rw [List.length_map,List.length_map,decide_eq_true hl,Bool.true_and,← hb] at this
   exact this
  ·rw [if_neg hl] at h
   obtain rfl:=Option.some.inj h
   have:=eqFunc_any (fun _ _=>false) A0 c0 A1 c1 (l0.map tkOf) (l1.map tkOf) w (by rw [List.length_map];exact h1) g0' g1' (fun he=>absurd (by rw [List.length_map,List.length_map] at he;exact he) hl)
   rw [List.length_map,List.length_map,decide_eq_false hl,Bool.false_and] at this
   exact this
 ·cases h
def tasks_Same.f (k:Nat) (aa:Int) (ab:Int) (ac:List (S53)) (ae:Int) (af:Int) (ag:List (S53)):Option (Bool):=if aa=ae then (if ab=af then ((api_Task.f k ac ag (⟨#[70,78,0,42]⟩:ByteArray)).bind fun ah=>(some ah)) else (some false)) else (some false)
theorem tasks_Same.calls (k:Nat) (ah:Int) (ai:Int) (A0_2:Option Addr) (c0_2:Nat) (al:List (S53)) (aj:Int) (ak:Int) (aq:Option Addr) (ar:Nat) (am:List (S53)) (r:Bool) (w:World) (hr0_2:Kd.C k53 w A0_2 al.length al) (hc0_2:al.length≤c0_2) (av:Kd.C k53 w aq am.length am) (aw:am.length≤ar) (h:tasks_Same.f k ah ai al aj ak am=some r) :
  Calls Tryd.prog 19 #[.agg #[.int .i64 ah,.int .i64 ai,.slice A0_2 al.length c0_2],.agg #[.int .i64 aj,.int .i64 ak,.slice aq am.length ar]] w fun e w'=>e=.returned (.bool r)∧Below w.heap.size w w':=by
 have bT:=Tryd.underlying33
 have az:=qaa.mk hr0_2
 have aA:=qaa.mk hc0_2
 clear hr0_2 hc0_2
 have aC:=qaa.mk av
 have aD:=qaa.mk aw
 clear av aw
 have HB:=qaa.mk (Below.refl w.heap.size w)
 have H:(if ah=aj then (if ai=ak then ((api_Task.f k al am (⟨#[70,78,0,42]⟩:ByteArray)).bind fun au=>(some au)) else (some false)) else (some false))=some r:=h
 clear h
 by_cases c3:ah=aj
 ·rw [if_pos c3] at H
  have bC:(ah == aj)=true:=beq_iff_eq.mpr c3
  have bD:(ah != aj)=false:=bne_eq_false_iff_eq.mpr c3
  clear c3
  by_cases c4:ai=ak
  ·rw [if_pos c4] at H
   have bE:(ai == ak)=true:=beq_iff_eq.mpr c4
   have bF:(ai != ak)=false:=bne_eq_false_iff_eq.mpr c4
   clear c4
   replace H:=Option.bind_eq_some_iff.mp H
   obtain⟨au,bM,H⟩:=H
   replace H:(some au)=some r:=H
   have A5:=qaa.mk bM
   clear bM
   obtain rfl:=Option.some.inj H
   go_enter Tryd.func19,Tryd.ntmps19
   go_wp2_with (first|((with_reducible refine qap (N:=2) rfl ?_);refine qao ?hg (N:=2) ?hd (cs:=#[.int .i64 ah,.int .i64 ai,.slice A0_2 al.length c0_2]) (t:=33) ?hr ?_;(case hd=>rfl);(case hg=>rfl);(case hr=>first|(go_simp;done)|(go_simp;rfl));intro ab hg w6 hbox hb;have aa:=qaa.mk (hbox);have ax:=qaa.mk ((by rw [hg];exact (qac sB):w.heap.size≤ab));have an:=qaa.mk ((by rw [hg];exact (qac sB):w.heap.size≤ab));replace HB:=qaa.mk (qai sB hb);clear hb hbox hg)|((with_reducible refine qap (N:=3) rfl ?_);refine qao ?hg (N:=3) ?hd (cs:=#[.int .i64 aj,.int .i64 ak,.slice aq am.length ar]) (t:=33) ?hr ?_;(case hd=>rfl);(case hg=>rfl);(case hr=>first|(go_simp;done)|(go_simp;rfl));intro ac hg w7 hbox hb;have ag:=qaa.mk (hbox);have ay:=qaa.mk ((by rw [hg];exact (qac sB):w.heap.size≤ac));have ap:=qaa.mk ((by rw [hg];exact (qac sB):w.heap.size≤ac));replace HB:=qaa.mk (qai sB hb);have ae:=qaa.mk ((by rw [hg];exact Nat.ne_of_lt (sLt aa.out):ab≠ac));have af:=qaa.mk ((by rw [hg];exact Nat.ne_of_gt (sLt aa.out):ac≠ab));replace aa:=qaa.mk (sKb aa.out hb);clear hb hbox hg;have bU:=ae.out;have bV:=af.out;obtain⟨bG,bH,bI⟩:=sC3 (w:=w7) aa.out;obtain⟨bJ,bK,bL⟩:=sF3 aa.out;obtain⟨aJ,aK,aM⟩:=sC3 (w:=w7) ag.out;obtain⟨aN,aQ,aT⟩:=sF3 ag.out)|(go_at_call 41;(with_reducible refine (api_Task.calls k _ _ al _ _ am (⟨#[70,78,0,42]⟩:ByteArray) au _ ?aE ?aG ?aH ?aI A5.out).mono ?_);(case aE=>repeat (first|exact (Kd.C_below az.out HB.out)|(with_reducible refine Kd.C_alloc ?_ _)|(with_reducible refine Kd.C_drewN ?_ _)|(with_reducible refine Kd.C_drew ?_)));(case aG=>exact aA.out);(case aH=>repeat (first|exact (Kd.C_below aC.out HB.out)|(with_reducible refine Kd.C_alloc ?_ _)|(with_reducible refine Kd.C_drewN ?_ _)|(with_reducible refine Kd.C_drew ?_)));(case aI=>exact aD.out);rintro e bW ⟨rfl,hb⟩;replace aa:=qaa.mk (sKb aa.out hb);replace ag:=qaa.mk (sKb ag.out hb);replace HB:=qaa.mk (qai sB hb);(try clear hb);(try clear bX);(try clear hk);(try clear hi)))
   go_ret
   exact⟨by first|rfl|(simp [qam,qal]<;>rfl)|(simp [bneNil,bneNilU]<;>rfl)|(simp [*,qam,qal]<;>rfl),by repeat (first|(with_reducible first|exact HB.out|apply qah|apply qae|apply qag|refine qad ?_ an.out|refine qad ?_ ap.out)|exact HB.out)⟩
  ·rw [if_neg c4] at H
   have bE:(ai == ak)=false:=beq_eq_false_iff_ne.mpr c4
   have bF:(ai != ak)=true:=bne_iff_ne.mpr c4
   obtain rfl:=Option.some.inj H
   go_enter Tryd.func19,Tryd.ntmps19
   go_wp2_with (first|((with_reducible refine qap (N:=2) rfl ?_);refine qao ?hg (N:=2) ?hd (cs:=#[.int .i64 ah,.int .i64 ai,.slice A0_2 al.length c0_2]) (t:=33) ?hr ?_;(case hd=>rfl);(case hg=>rfl);(case hr=>first|(go_simp;done)|(go_simp;rfl));intro ab hg bY hbox hb;have aa:=qaa.mk (hbox);have ax:=qaa.mk ((by rw [hg];exact (qac sB):w.heap.size≤ab));have an:=qaa.mk ((by rw [hg];exact (qac sB):w.heap.size≤ab));replace HB:=qaa.mk (qai sB hb);clear hb hbox hg)|((with_reducible refine qap (N:=3) rfl ?_);refine qao ?hg (N:=3) ?hd (cs:=#[.int .i64 aj,.int .i64 ak,.slice aq am.length ar]) (t:=33) ?hr ?_;(case hd=>rfl);(case hg=>rfl);(case hr=>first|(go_simp;done)|(go_simp;rfl));intro ac hg bN hbox hb;have ag:=qaa.mk (hbox);have ay:=qaa.mk ((by rw [hg];exact (qac sB):w.heap.size≤ac));have ap:=qaa.mk ((by rw [hg];exact (qac sB):w.heap.size≤ac));replace HB:=qaa.mk (qai sB hb);have ae:=qaa.mk ((by rw [hg];exact Nat.ne_of_lt (sLt aa.out):ab≠ac));have af:=qaa.mk ((by rw [hg];exact Nat.ne_of_gt (sLt aa.out):ac≠ab));replace aa:=qaa.mk (sKb aa.out hb);clear hb hbox hg;have bO:=ae.out;have bP:=af.out;obtain⟨aU,aV,aW⟩:=sC3 (w:=bN) aa.out;obtain⟨aX,aY,aZ⟩:=sF3 aa.out;obtain⟨a8,ba,be⟩:=sC3 (w:=bN) ag.out;obtain⟨bf,bg,bh⟩:=sF3 ag.out))
   go_ret
   exact⟨by first|rfl|(simp [qam,qal]<;>rfl)|(simp [bneNil,bneNilU]<;>rfl)|(simp [*,qam,qal]<;>rfl),by repeat (first|(with_reducible first|exact HB.out|apply qah|apply qae|apply qag|refine qad ?_ an.out|refine qad ?_ ap.out)|exact HB.out)⟩
 ·rw [if_neg c3] at H
  have bC:(ah == aj)=false:=beq_eq_false_iff_ne.mpr c3
  have bD:(ah != aj)=true:=bne_iff_ne.mpr c3
  obtain rfl:=Option.some.inj H
  go_enter Tryd.func19,Tryd.ntmps19
  go_wp2_with (first|((with_reducible refine qap (N:=2) rfl ?_);refine qao ?hg (N:=2) ?hd (cs:=#[.int .i64 ah,.int .i64 ai,.slice A0_2 al.length c0_2]) (t:=33) ?hr ?_;(case hd=>rfl);(case hg=>rfl);(case hr=>first|(go_simp;done)|(go_simp;rfl));intro ab hg bZ hbox hb;have aa:=qaa.mk (hbox);have ax:=qaa.mk ((by rw [hg];exact (qac sB):w.heap.size≤ab));have an:=qaa.mk ((by rw [hg];exact (qac sB):w.heap.size≤ab));replace HB:=qaa.mk (qai sB hb);clear hb hbox hg)|((with_reducible refine qap (N:=3) rfl ?_);refine qao ?hg (N:=3) ?hd (cs:=#[.int .i64 aj,.int .i64 ak,.slice aq am.length ar]) (t:=33) ?hr ?_;(case hd=>rfl);(case hg=>rfl);(case hr=>first|(go_simp;done)|(go_simp;rfl));intro ac hg bQ hbox hb;have ag:=qaa.mk (hbox);have ay:=qaa.mk ((by rw [hg];exact (qac sB):w.heap.size≤ac));have ap:=qaa.mk ((by rw [hg];exact (qac sB):w.heap.size≤ac));replace HB:=qaa.mk (qai sB hb);have ae:=qaa.mk ((by rw [hg];exact Nat.ne_of_lt (sLt aa.out):ab≠ac));have af:=qaa.mk ((by rw [hg];exact Nat.ne_of_gt (sLt aa.out):ac≠ab));replace aa:=qaa.mk (sKb aa.out hb);clear hb hbox hg;have bR:=ae.out;have bS:=af.out;obtain⟨bi,bj,bm⟩:=sC3 (w:=bQ) aa.out;obtain⟨bn,bp,bq⟩:=sF3 aa.out;obtain⟨bt,bv,bw⟩:=sC3 (w:=bQ) ag.out;obtain⟨bx,bz,bB⟩:=sF3 ag.out))
  go_ret
  exact⟨by first|rfl|(simp [qam,qal]<;>rfl)|(simp [bneNil,bneNilU]<;>rfl)|(simp [*,qam,qal]<;>rfl),by repeat (first|(with_reducible first|exact HB.out|apply qah|apply qae|apply qag|refine qad ?_ an.out|refine qad ?_ ap.out)|exact HB.out)⟩
def api_Bound_22.l0:Nat→List (S49)→List (S49)→Int→Int→Option (Bool)
 |0,_,_,_,_=>none
 |k+1,x0,x1,ab,aa=>if aa<ab then (if 0≤aa then (if aa<(x0.length:Int) then (if aa<(x1.length:Int) then (if (!(((qaw x0 aa).f0) == ((qaw x1 aa).f0)) || (!(((qaw x0 aa).f1) == ((qaw x1 aa).f1)) || (!(((qaw x0 aa).f2) == ((qaw x1 aa).f2)) || (!(((qaw x0 aa).f3) == ((qaw x1 aa).f3))))))=true then (some false) else (api_Bound_22.l0 k x0 x1 ab (wrap64 (aa+1)))) else (none)) else (none)) else (none)) else (some true)
def api_Bound_22.f (k:Nat) (l0:List (S49)) (l1:List (S49)):Option (Bool):=if (l0.length:Int)=(l1.length:Int) then (api_Bound_22.l0 k l0 l1 (l0.length:Int) 0) else (some false)
theorem api_Bound_22.calls (k:Nat) (A0:Option Addr) (c0:Nat) (l0:List (S49)) (A1:Option Addr) (c1:Nat) (l1:List (S49)) (r:Bool) (w:World) (aA:Kd.C k49 w A0 l0.length l0) (aC:l0.length≤c0) (aD:Kd.C k49 w A1 l1.length l1) (aE:l1.length≤c1) (h:api_Bound_22.f k l0 l1=some r) :
  Calls Tryd.prog 22 #[.slice A0 l0.length c0,.slice A1 l1.length c1] w fun e w'=>e=.returned (.bool r)∧qar w w':=by
 have aJ:=Tryd.underlying49
 have aG:=qaa.mk aA
 have aT:=qaa.mk aC
 clear aA aC
 have aH:=qaa.mk aD
 have aU:=qaa.mk aE
 clear aD aE
 have H:(if (l0.length:Int)=(l1.length:Int) then (api_Bound_22.l0 k l0 l1 (l0.length:Int) 0) else (some false))=some r:=h
 clear h
 by_cases c3:(l0.length:Int)=(l1.length:Int)
 ·rw [if_pos c3] at H
  have ar:((l0.length:Int) == (l1.length:Int))=true:=beq_iff_eq.mpr c3
  have au:((l0.length:Int) != (l1.length:Int))=false:=bne_eq_false_iff_eq.mpr c3
  have av:(l0.length == l1.length)=true:=by first|simpa using c3|(simp at c3 ⊢;omega)
  clear c3
  have H':=qaa.mk H
  clear H
  go_enter Tryd.func22,Tryd.ntmps22
  go_wp2
  repeat (go_quiet (fail);try go_wp2)
  go_loopg [13] k (fun kq aK w'=>∃ (aa:Int),aK=.int .i64 aa∧qaa (api_Bound_22.l0 kq l0 l1 (l0.length:Int) aa=some r)∧qaa (kq≤k)∧qar w w')
  case atStart=>exact⟨(0),(by first|rfl|(simp;done)|(simp [*];done)),H',⟨Nat.le_refl _⟩,by repeat (first|exact qar.refl _|apply qar.step)⟩
  case round=>
   clear H'
   try clear c1
   try clear c2
   try clear p2
   try clear c3
   try clear ar
   try clear au
   try clear av
   obtain⟨aa,rfl,HA,aI,⟨m1,rfl⟩⟩:=hrel
   cases gk with
   |zero=>exact absurd HA.out (by simp [api_Bound_22.l0])
   |succ k1=>
    have H:=HA.out
    clear HA
    simp only [api_Bound_22.l0] at H
    by_cases c4:aa<(l0.length:Int)
    ·rw [if_pos c4] at H
     have ay:decide (aa<(l0.length:Int))=true:=decide_eq_true c4
     clear c4
     by_cases c5:0≤aa
     ·rw [if_pos c5] at H
      have aM:decide (0≤aa)=true:=decide_eq_true c5
      clear c5
      by_cases c6:aa<(l0.length:Int)
      ·rw [if_pos c6] at H
       have aN:decide (aa<(l0.length:Int))=true:=decide_eq_true c6
       clear c6
       by_cases c7:aa<(l1.length:Int)
       ·rw [if_pos c7] at H
        have aQ:decide (aa<(l1.length:Int))=true:=decide_eq_true c7
        clear c7
        by_cases c8:(!(((qaw l0 aa).f0) == ((qaw l1 aa).f0)) || (!(((qaw l0 aa).f1) == ((qaw l1 aa).f1)) || (!(((qaw l0 aa).f2) == ((qaw l1 aa).f2)) || (!(((qaw l0 aa).f3) == ((qaw l1 aa).f3))))))=true
        ·rw [if_pos c8] at H
         have az:(!(((qaw l0 aa).f0) == ((qaw l1 aa).f0)) || (!(((qaw l0 aa).f1) == ((qaw l1 aa).f1)) || (!(((qaw l0 aa).f2) == ((qaw l1 aa).f2)) || (!(((qaw l0 aa).f3) == ((qaw l1 aa).f3))))))=true:=c8
         clear c8
         obtain rfl:=Option.some.inj H
         have ab:0≤(aa:Int):=of_decide_eq_true sA
         have ac:aa<(l0.length:Int):=of_decide_eq_true sA
         obtain⟨aw,ap,ag,ah,ai,aj⟩:=at_T49 aG.out aa ab ac
         cases ap
         replace ab:=eq_true ab
         replace ac:=eq_true ac
         have ae:0≤(aa:Int):=of_decide_eq_true sA
         have af:aa<(l1.length:Int):=of_decide_eq_true sA
         obtain⟨ax,aq,ak,al,am,an⟩:=at_T49 aH.out aa ae af
         cases aq
         replace ae:=eq_true ae
         replace af:=eq_true af
         go_wp2
         repeat (go_quiet (fail);try go_wp2)
         go_ret
         exact⟨by first|rfl|(simp;done)|(simp [*];done),by repeat (first|exact qar.refl _|apply qar.step)⟩
        ·rw [if_neg c8] at H
         have az:(!(((qaw l0 aa).f0) == ((qaw l1 aa).f0)) || (!(((qaw l0 aa).f1) == ((qaw l1 aa).f1)) || (!(((qaw l0 aa).f2) == ((qaw l1 aa).f2)) || (!(((qaw l0 aa).f3) == ((qaw l1 aa).f3))))))=false:=by simpa using c8
         clear c8
         have H':=qaa.mk H
         clear H
         have ab:0≤(aa:Int):=of_decide_eq_true sA
         have ac:aa<(l0.length:Int):=of_decide_eq_true sA
         obtain⟨aw,ap,ag,ah,ai,aj⟩:=at_T49 aG.out aa ab ac
         cases ap
         replace ab:=eq_true ab
         replace ac:=eq_true ac
         have ae:0≤(aa:Int):=of_decide_eq_true sA
         have af:aa<(l1.length:Int):=of_decide_eq_true sA
         obtain⟨ax,aq,ak,al,am,an⟩:=at_T49 aH.out aa ae af
         cases aq
         replace ae:=eq_true ae
         replace af:=eq_true af
         go_wp2
         repeat (go_quiet (fail);try go_wp2)
         go_roundg k1
         case measure=>have:=aI.out;omega
         case rel=>exact⟨(wrap64 (aa+1)),(by first|rfl|(simp;done)|(simp [*];done)),H',⟨by have:=aI.out;omega⟩,by repeat (first|exact qar.refl _|apply qar.step)⟩
       ·rw [if_neg c7] at H
        exact absurd H (by simp)
      ·rw [if_neg c6] at H
       exact absurd H (by simp)
     ·rw [if_neg c5] at H
      exact absurd H (by simp)
    ·rw [if_neg c4] at H
     have ay:decide (aa<(l0.length:Int))=false:=decide_eq_false c4
     clear c4
     obtain rfl:=Option.some.inj H
     go_wp2
     repeat (go_quiet (fail);try go_wp2)
     go_ret
     exact⟨by first|rfl|(simp;done)|(simp [*];done),by repeat (first|exact qar.refl _|apply qar.step)⟩
 ·rw [if_neg c3] at H
  have ar:((l0.length:Int) == (l1.length:Int))=false:=beq_eq_false_iff_ne.mpr c3
  have au:((l0.length:Int) != (l1.length:Int))=true:=bne_iff_ne.mpr c3
  have av:(l0.length == l1.length)=false:=by first|simpa using c3|(simp at c3 ⊢;omega)
  obtain rfl:=Option.some.inj H
  go_enter Tryd.func22,Tryd.ntmps22
  go_wp2
  repeat (go_quiet (fail);try go_wp2)
  go_ret
  exact⟨by first|rfl|(simp;done)|(simp [*];done),by repeat (first|exact qar.refl _|apply qar.step)⟩
end
end Go.Proofs.YtgnaaokhfpfglaaDoor.PCertTold
end
