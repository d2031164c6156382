/- Texts of this claim, one behind the other: PParseRight5, PParseRight6, PParseRight, QParseRightQAwk, QParseRightQSm, QParseRightQChk, PrnA, PrnB. -/
import Derived.Test.YtcfknijdhmildaaDoorZParseRight3
import Derived.Test.YtcfknijdhmildaaDoorZParseRight1
import Derived.Test.YtcfknijdhmildaaDoorZParseRight2

set_option maxHeartbeats 8000000
set_option maxRecDepth 100000
set_option linter.unusedVariables false
set_option linter.unusedSimpArgs false
section
namespace Go.Proofs.YtcfknijdhmildaaDoor.PParseRight
open Go.RowKit Go.Proofs.YtcfknijdhmildaaDoorW.PrintWords Go.Proofs.YtcfknijdhmildaaDoorW.PrintLast Go.Proofs.YtcfknijdhmildaaDoorW.PrintMore
attribute [local go_sem] max2_int min2_int max_two min_two max_three min_three max_four min_four
set_option linter.unusedVariables false
set_option linter.unusedSimpArgs false
noncomputable section
mutual
def ostinatoref05_Check.j0:Nat→Bool→Int→Int→List (S52)→Option (Int)
 |0,_,_,_,_=>none
 |k+1,x29,x120000,x120001,x120002=>if x29=true then (some 1) else (if (x120002.length:Int) > 64 then (some 15) else (ostinatoref05_Check.l0 k 0 x120000 x120001 x120002))
def ostinatoref05_Check.l0:Nat→Int→Int→Int→List (S52)→Option (Int)
 |0,_,_,_,_=>none
 |k+1,x3,x120000,x120001,x120002=>if x3<(x120002.length:Int) then (if 0≤x3 then ((ostinatoref05_Right.f k ((qak x120002 x3).f0) ((qak x120002 x3).f1) ((qak x120002 x3).f2) ((qak x120002 x3).f3) ((qak x120002 x3).f4) ((qak x120002 x3).f5) ((qak x120002 x3).f6) x120000).bind fun t121=>(if t121=0 then (if x3 > 0 then (if 0≤(wrap64 (x3 - 1)) then (if (wrap64 (x3 - 1))<(x120002.length:Int) then (ostinatoref05_Check.j2 k x3 (decide (((qak x120002 x3).f0)≤((qak x120002 (wrap64 (x3 - 1))).f0))) x120000 x120001 x120002) else (none)) else (none)) else (ostinatoref05_Check.j2 k x3 false x120000 x120001 x120002)) else (some t121))) else (none)) else (some 0)
def ostinatoref05_Check.j2:Nat→Int→Bool→Int→Int→List (S52)→Option (Int)
 |0,_,_,_,_,_=>none
 |k+1,x3,x69,x120000,x120001,x120002=>if x69=true then (some 10) else (ostinatoref05_Check.l1 k x3 0 x120000 x120001 x120002)
def ostinatoref05_Check.l1:Nat→Int→Int→Int→Int→List (S52)→Option (Int)
 |0,_,_,_,_,_=>none
 |k+1,x3,x5,x120000,x120001,x120002=>if x5<x3 then (if 0≤x5 then (if x5<(x120002.length:Int) then (if 0≤x3 then (if x3<(x120002.length:Int) then (if ((qak x120002 x5).f4)=((qak x120002 x3).f4) then (some 14) else (ostinatoref05_Check.l1 k x3 (wrap64 (x5+1)) x120000 x120001 x120002)) else (none)) else (none)) else (none)) else (none)) else (ostinatoref05_Check.l0 k (wrap64 (x3+1)) x120000 x120001 x120002)
end
def ostinatoref05_Check.f (k:Nat) (a0_0:Int) (a0_1:Int) (l0_2:List (S52)):Option (Int):=if a0_0<0 then (ostinatoref05_Check.j0 k true a0_0 a0_1 l0_2) else (if a0_0 > 256 then (ostinatoref05_Check.j0 k true a0_0 a0_1 l0_2) else (if a0_1<0 then (ostinatoref05_Check.j0 k true a0_0 a0_1 l0_2) else (if a0_1 > 1000 then (ostinatoref05_Check.j0 k true a0_0 a0_1 l0_2) else (ostinatoref05_Check.j0 k ((l0_2.length:Int) == 0) a0_0 a0_1 l0_2))))
def ostinatoref05_Check.T8:Bool × List (List Nat × List Nat):=(true,[([],[]),([0],[0]),([],[]),([1,2],[1,2]),([3],[3]),([],[]),([5],[5]),([4,6],[4,6]),([7,7,0,1,2,3,4,5,6,7],[7])])
def ostinatoref05_Check.B8:List Nat:=[0,1,0,7,15,0,32,127,255]
theorem ostinatoref05_Check.tab8:rtab .any (opsOf Tryd.f16 8)=ostinatoref05_Check.T8:=by kernel_rfl
theorem ostinatoref05_Check.bits8:waitsOk ostinatoref05_Check.T8.2 ostinatoref05_Check.B8=true:=by kernel_rfl
def ostinatoref05_Check.T11:Bool × List (List Nat × List Nat):=(true,[([],[]),([0],[0]),([1],[1]),([2],[2]),([3,2],[2,3]),([2],[2]),([4,5,2],[2,4,5]),([6,2],[2,6]),([7,2],[2,7]),([2],[2]),([9,2],[2,9]),([2],[2]),([11,2],[2,11]),([10,12,2],[2,10,12]),([13,2],[2,13]),([14,2],[2,14]),([8,15,2],[2,8,15]),([2,16],[2,16])])
def ostinatoref05_Check.B11:List Nat:=[0,1,3,7,15,7,63,127,255,7,519,7,2055,7687,15879,32263,65535,131071]
theorem ostinatoref05_Check.tab11:rtab .any (opsOf Tryd.f16 11)=ostinatoref05_Check.T11:=by kernel_rfl
theorem ostinatoref05_Check.bits11:waitsOk ostinatoref05_Check.T11.2 ostinatoref05_Check.B11=true:=by kernel_rfl
def ostinatoref05_Check.T16:Bool × List (List Nat × List Nat):=(true,[([],[]),([0],[0]),([],[]),([1,2],[1,2]),([3],[3]),([4],[4]),([],[]),([6],[6]),([],[]),([7,8],[7,8]),([9],[9]),([10],[10]),([5,11],[5,11])])
def ostinatoref05_Check.B16:List Nat:=[0,1,0,7,15,31,0,64,0,448,960,1984,4095]
theorem ostinatoref05_Check.tab16:rtab .any (opsOf Tryd.f16 16)=ostinatoref05_Check.T16:=by kernel_rfl
theorem ostinatoref05_Check.bits16:waitsOk ostinatoref05_Check.T16.2 ostinatoref05_Check.B16=true:=by kernel_rfl
theorem ostinatoref05_Check.calls (k:Nat) (a0_0:Int) (a0_1:Int) (A0_2:Option Addr) (c0_2:Nat) (l0_2:List (S52)) (r:Int) (w:World) (hr0_2:Kd.C k52 w A0_2 l0_2.length l0_2) (hc0_2:l0_2.length≤c0_2) (h:ostinatoref05_Check.f k a0_0 a0_1 l0_2=some r) :
  Calls Tryd.prog 16 #[.agg #[.int .i64 a0_0,.int .i64 a0_1,.slice A0_2 l0_2.length c0_2]] w fun e w'=>e=.returned (.int .i64 r)∧Below w.heap.size w w':=by
 have hu32:=Tryd.underlying32
 have hu52:=Tryd.underlying52
 have HR0_2:=qaf.mk hr0_2
 have HC0_2:=qaf.mk hc0_2
 clear hr0_2 hc0_2
 have HB:=qaf.mk (Below.refl w.heap.size w)
 have H:(if a0_0<0 then (ostinatoref05_Check.j0 k true a0_0 a0_1 l0_2) else (if a0_0 > 256 then (ostinatoref05_Check.j0 k true a0_0 a0_1 l0_2) else (if a0_1<0 then (ostinatoref05_Check.j0 k true a0_0 a0_1 l0_2) else (if a0_1 > 1000 then (ostinatoref05_Check.j0 k true a0_0 a0_1 l0_2) else (ostinatoref05_Check.j0 k ((l0_2.length:Int) == 0) a0_0 a0_1 l0_2)))))=some r:=h
 clear h
 have HC2:=qaf.mk H
 clear H
 go_enter Tryd.func16,Tryd.ntmps16
 go_upto_region 1 with (first|((with_reducible refine qaD (N:=1) rfl ?_);(try (refine qaz (by rfl) ?_;dsimp only));refine qay ?hg (N:=1) ?hd (cs:=#[.int .i64 a0_0,.int .i64 a0_1,.slice A0_2 l0_2.length c0_2]) (t:=32) ?hr ?_;(case hd=>rfl);(case hg=>rfl);(case hr=>first|(go_simp;done)|(go_simp;rfl));intro gb119 hg w3 hbox hb;have n0_:=qaf.mk (qal (by repeat (first|(with_reducible first|exact HB.out|apply qae|apply qab|apply qad)|exact HB.out)) hb);have n1_:=qaf.mk (hbox);have n2_:=qaf.mk ((by rw [hg];exact (qam (by repeat (first|(with_reducible first|exact HB.out|apply qae|apply qab|apply qad)|exact HB.out))):w.heap.size≤gb119));have n3_:=qaf.mk ((by rw [hg];exact (qam (by repeat (first|(with_reducible first|exact HB.out|apply qae|apply qab|apply qad)|exact HB.out))):w.heap.size≤gb119));clear HB;have HB:=n0_;have BK119:=n1_;have GW119:=n2_;have GE119:=n3_;clear n0_ n1_ n2_ n3_;clear hb hbox hg))
 (try simp only [Act.put,List.setIfInBounds_toArray,List.set_cons_zero,List.set_cons_succ])
 go_cut [29] (fun v29 wc=>∃ (kq:Nat) (x29_1:Bool),v29=.bool x29_1∧qaf (ostinatoref05_Check.j0 kq x29_1 a0_0 a0_1 l0_2=some r)∧qaf (kq≤k)∧qaf (wc.heap[gb119]? = some (.cells #[.int .i64 a0_0,.int .i64 a0_1,(.slice A0_2 l0_2.length c0_2)] 32 (0,0)))∧qaf (Below w.heap.size w wc))
 case first=>
  have H:=HC2.out
  clear HC2
  by_cases c4:a0_0<0
  ·rw [if_pos c4] at H
   have c4b0:decide (a0_0<0)=true:=decide_eq_true c4
   clear c4
   (first|rw [c4b0]|(simp only [qav,qaw];rw [c4b0])|skip)
   have H':=qaf.mk H
   clear H
   have hcz5_0:w3.cell? ⟨gb119,0,none⟩=some (.int .i64 a0_0):=(qac BK119.out 0).trans rfl
   have hcz5_1:w3.cell? ⟨gb119,1,none⟩=some (.int .i64 a0_1):=(qac BK119.out 1).trans rfl
   have hcz5_2:w3.cell? ⟨gb119,2,none⟩=some (.slice A0_2 l0_2.length c0_2):=(qac BK119.out 2).trans rfl
   have hfz5_0:=qaa BK119.out 0
   have hfz5_1:=qaa BK119.out 1
   have hfz5_2:=qaa BK119.out 2
   go_wp2
   go_meet
   case rel=>exact⟨_,(true),(by first|rfl|(simp;done)|(simp [*];done)),H',⟨by first|omega|exact Nat.le_refl _⟩,⟨by (with_reducible repeat (first|refine qah ?_ _|refine qaj ?_|refine qai ?_ _));exact BK119.out⟩,⟨by repeat (first|(with_reducible first|exact HB.out|apply qae|apply qab|apply qad|refine qag ?_ GE119.out)|exact HB.out)⟩⟩
  ·rw [if_neg c4] at H
   have c4b0:decide (a0_0<0)=false:=decide_eq_false c4
   clear c4
   (first|rw [c4b0]|(simp only [qav,qaw];rw [c4b0])|skip)
   by_cases c6:a0_0 > 256
   ·rw [if_pos c6] at H
    have c6b0:decide (256<a0_0)=true:=decide_eq_true c6
    clear c6
    have H':=qaf.mk H
    clear H
    have hcz7_0:w3.cell? ⟨gb119,0,none⟩=some (.int .i64 a0_0):=(qac BK119.out 0).trans rfl
    have hcz7_1:w3.cell? ⟨gb119,1,none⟩=some (.int .i64 a0_1):=(qac BK119.out 1).trans rfl
    have hcz7_2:w3.cell? ⟨gb119,2,none⟩=some (.slice A0_2 l0_2.length c0_2):=(qac BK119.out 2).trans rfl
    have hfz7_0:=qaa BK119.out 0
    have hfz7_1:=qaa BK119.out 1
    have hfz7_2:=qaa BK119.out 2
    go_wp2
    go_meet
    case rel=>exact⟨_,(true),(by first|rfl|(simp;done)|(simp [*];done)),H',⟨by first|omega|exact Nat.le_refl _⟩,⟨by (with_reducible repeat (first|refine qah ?_ _|refine qaj ?_|refine qai ?_ _));exact BK119.out⟩,⟨by repeat (first|(with_reducible first|exact HB.out|apply qae|apply qab|apply qad|refine qag ?_ GE119.out)|exact HB.out)⟩⟩
   ·rw [if_neg c6] at H
    have c6b0:decide (256<a0_0)=false:=decide_eq_false c6
    clear c6
    by_cases c8:a0_1<0
    ·rw [if_pos c8] at H
     have c8b0:decide (a0_1<0)=true:=decide_eq_true c8
     clear c8
     have H':=qaf.mk H
     clear H
     have hcz9_0:w3.cell? ⟨gb119,0,none⟩=some (.int .i64 a0_0):=(qac BK119.out 0).trans rfl
     have hcz9_1:w3.cell? ⟨gb119,1,none⟩=some (.int .i64 a0_1):=(qac BK119.out 1).trans rfl
     have hcz9_2:w3.cell? ⟨gb119,2,none⟩=some (.slice A0_2 l0_2.length c0_2):=(qac BK119.out 2).trans rfl
     have hfz9_0:=qaa BK119.out 0
     have hfz9_1:=qaa BK119.out 1
     have hfz9_2:=qaa BK119.out 2
     go_wp2
     go_meet
     case rel=>exact⟨_,(true),(by first|rfl|(simp;done)|(simp [*];done)),H',⟨by first|omega|exact Nat.le_refl _⟩,⟨by (with_reducible repeat (first|refine qah ?_ _|refine qaj ?_|refine qai ?_ _));exact BK119.out⟩,⟨by repeat (first|(with_reducible first|exact HB.out|apply qae|apply qab|apply qad|refine qag ?_ GE119.out)|exact HB.out)⟩⟩
    ·rw [if_neg c8] at H
     have c8b0:decide (a0_1<0)=false:=decide_eq_false c8
     clear c8
     by_cases c10:a0_1 > 1000
     ·rw [if_pos c10] at H
      have c10b0:decide (1000<a0_1)=true:=decide_eq_true c10
      clear c10
      have H':=qaf.mk H
      clear H
      have hcz11_0:w3.cell? ⟨gb119,0,none⟩=some (.int .i64 a0_0):=(qac BK119.out 0).trans rfl
      have hcz11_1:w3.cell? ⟨gb119,1,none⟩=some (.int .i64 a0_1):=(qac BK119.out 1).trans rfl
      have hcz11_2:w3.cell? ⟨gb119,2,none⟩=some (.slice A0_2 l0_2.length c0_2):=(qac BK119.out 2).trans rfl
      have hfz11_0:=qaa BK119.out 0
      have hfz11_1:=qaa BK119.out 1
      have hfz11_2:=qaa BK119.out 2
      go_wp2
      go_meet
      case rel=>exact⟨_,(true),(by first|rfl|(simp;done)|(simp [*];done)),H',⟨by first|omega|exact Nat.le_refl _⟩,⟨by (with_reducible repeat (first|refine qah ?_ _|refine qaj ?_|refine qai ?_ _));exact BK119.out⟩,⟨by repeat (first|(with_reducible first|exact HB.out|apply qae|apply qab|apply qad|refine qag ?_ GE119.out)|exact HB.out)⟩⟩
     ·rw [if_neg c10] at H
      have c10b0:decide (1000<a0_1)=false:=decide_eq_false c10
      clear c10
      have H':=qaf.mk H
      clear H
      have hcz12_0:w3.cell? ⟨gb119,0,none⟩=some (.int .i64 a0_0):=(qac BK119.out 0).trans rfl
      have hcz12_1:w3.cell? ⟨gb119,1,none⟩=some (.int .i64 a0_1):=(qac BK119.out 1).trans rfl
      have hcz12_2:w3.cell? ⟨gb119,2,none⟩=some (.slice A0_2 l0_2.length c0_2):=(qac BK119.out 2).trans rfl
      have hfz12_0:=qaa BK119.out 0
      have hfz12_1:=qaa BK119.out 1
      have hfz12_2:=qaa BK119.out 2
      go_wp2
      go_meet
      case rel=>exact⟨_,(((l0_2.length:Int) == 0)),(by first|rfl|(simp;done)|(simp [*];done)),H',⟨by first|omega|exact Nat.le_refl _⟩,⟨by (with_reducible repeat (first|refine qah ?_ _|refine qaj ?_|refine qai ?_ _));exact BK119.out⟩,⟨by repeat (first|(with_reducible first|exact HB.out|apply qae|apply qab|apply qad|refine qag ?_ GE119.out)|exact HB.out)⟩⟩
 case rest=>
  clear HC2
  try clear c1
  try clear p2
  try clear c4
  try clear c4b0
  try clear c6
  try clear c6b0
  try clear c8
  try clear c8b0
  try clear c10
  try clear c10b0
  try clear hcz11_0
  try clear hcz11_1
  try clear hcz11_2
  try clear hcz12_0
  try clear hcz12_1
  try clear hcz12_2
  try clear hcz5_0
  try clear hcz5_1
  try clear hcz5_2
  try clear hcz7_0
  try clear hcz7_1
  try clear hcz7_2
  try clear hcz9_0
  try clear hcz9_1
  try clear hcz9_2
  try clear hfz11_0
  try clear hfz11_1
  try clear hfz11_2
  try clear hfz12_0
  try clear hfz12_1
  try clear hfz12_2
  try clear hfz5_0
  try clear hfz5_1
  try clear hfz5_2
  try clear hfz7_0
  try clear hfz7_1
  try clear hfz7_2
  try clear hfz9_0
  try clear hfz9_1
  try clear hfz9_2
  obtain⟨kq,x29_1,rfl,HA,HJ1,BK119,HB⟩:=hcut
  cases kq with
  |zero=>exact absurd HA.out (by simp [ostinatoref05_Check.j0])
  |succ kj1=>
   have H:=HA.out
   clear HA
   simp only [ostinatoref05_Check.j0] at H
   by_cases c13:x29_1=true
   ·subst c13
    have H1:(some 1)=some r:=by rw [if_pos rfl] at H;exact H
    clear H
    have H:=H1
    clear H1
    obtain rfl:=Option.some.inj H
    go_wp2
    go_ret
    exact⟨by first|rfl|(simp [qao,qan]<;>rfl)|(simp [bneNil,bneNilU]<;>rfl)|(simp [*,qao,qan]<;>rfl),by repeat (first|(with_reducible first|exact HB.out|apply qae|apply qab|apply qad|refine qag ?_ GE119.out)|exact HB.out)⟩
   ·replace c13:=Bool.eq_false_iff.mpr c13
    subst c13
    have H1:(if (l0_2.length:Int) > 64 then (some 15) else (ostinatoref05_Check.l0 kj1 0 a0_0 a0_1 l0_2))=some r:=by rw [if_neg (show ¬ (false=true) by decide)] at H;exact H
    clear H
    have H:=H1
    clear H1
    by_cases c14:(l0_2.length:Int) > 64
    ·rw [if_pos c14] at H
     have c14b0:decide (64<(l0_2.length:Int))=true:=decide_eq_true c14
     have c14b1:decide (64<l0_2.length)=true:=decide_eq_true (by omega)
     clear c14
     obtain rfl:=Option.some.inj H
     have hcz15_0:wc.cell? ⟨gb119,0,none⟩=some (.int .i64 a0_0):=(qac BK119.out 0).trans rfl
     have hcz15_1:wc.cell? ⟨gb119,1,none⟩=some (.int .i64 a0_1):=(qac BK119.out 1).trans rfl
     have hcz15_2:wc.cell? ⟨gb119,2,none⟩=some (.slice A0_2 l0_2.length c0_2):=(qac BK119.out 2).trans rfl
     have hfz15_0:=qaa BK119.out 0
     have hfz15_1:=qaa BK119.out 1
     have hfz15_2:=qaa BK119.out 2
     go_wp2
     go_ret
     exact⟨by first|rfl|(simp [qao,qan]<;>rfl)|(simp [bneNil,bneNilU]<;>rfl)|(simp [*,qao,qan]<;>rfl),by repeat (first|(with_reducible first|exact HB.out|apply qae|apply qab|apply qad|refine qag ?_ GE119.out)|exact HB.out)⟩
    ·rw [if_neg c14] at H
     have c14b0:decide (64<(l0_2.length:Int))=false:=decide_eq_false c14
     have c14b1:decide (64<l0_2.length)=false:=decide_eq_false (by omega)
     clear c14
     have H':=qaf.mk H
     clear H
     have hcz16_0:wc.cell? ⟨gb119,0,none⟩=some (.int .i64 a0_0):=(qac BK119.out 0).trans rfl
     have hcz16_1:wc.cell? ⟨gb119,1,none⟩=some (.int .i64 a0_1):=(qac BK119.out 1).trans rfl
     have hcz16_2:wc.cell? ⟨gb119,2,none⟩=some (.slice A0_2 l0_2.length c0_2):=(qac BK119.out 2).trans rfl
     have hfz16_0:=qaa BK119.out 0
     have hfz16_1:=qaa BK119.out 1
     have hfz16_2:=qaa BK119.out 2
     go_wp2
     go_loopg [3] kj1 (fun kq v3 w'=>∃ (x3_2:Int),v3=.int .i64 x3_2∧qaf (ostinatoref05_Check.l0 kq x3_2 a0_0 a0_1 l0_2=some r)∧qaf (kq≤kj1)∧qaf (w'.heap[gb119]? = some (.cells #[.int .i64 a0_0,.int .i64 a0_1,(.slice A0_2 l0_2.length c0_2)] 32 (0,0)))∧qaf (Below w.heap.size w w'))
     case atStart=>exact⟨(0),(by first|rfl|(simp;done)|(simp [*];done)),H',⟨Nat.le_refl _⟩,⟨by (with_reducible repeat (first|refine qah ?_ _|refine qaj ?_|refine qai ?_ _));exact BK119.out⟩,⟨by repeat (first|(with_reducible first|exact HB.out|apply qae|apply qab|apply qad|refine qag ?_ GE119.out)|exact HB.out)⟩⟩
     case round=>
      clear H'
      try clear c1
      try clear p2
      try clear c4
      try clear c4b0
      try clear c6
      try clear c6b0
      try clear c8
      try clear c8b0
      try clear c10
      try clear c10b0
      try clear c13
      try clear c14
      try clear c14b0
      try clear c14b1
      try clear c16
      try clear hcz11_0
      try clear hcz11_1
      try clear hcz11_2
      try clear hcz12_0
      try clear hcz12_1
      try clear hcz12_2
      try clear hcz15_0
      try clear hcz15_1
      try clear hcz15_2
      try clear hcz16_0
      try clear hcz16_1
      try clear hcz16_2
      try clear hcz5_0
      try clear hcz5_1
      try clear hcz5_2
      try clear hcz7_0
      try clear hcz7_1
      try clear hcz7_2
      try clear hcz9_0
      try clear hcz9_1
      try clear hcz9_2
      try clear hfz11_0
      try clear hfz11_1
      try clear hfz11_2
      try clear hfz12_0
      try clear hfz12_1
      try clear hfz12_2
      try clear hfz15_0
      try clear hfz15_1
      try clear hfz15_2
      try clear hfz16_0
      try clear hfz16_1
      try clear hfz16_2
      try clear hfz5_0
      try clear hfz5_1
      try clear hfz5_2
      try clear hfz7_0
      try clear hfz7_1
      try clear hfz7_2
      try clear hfz9_0
      try clear hfz9_1
      try clear hfz9_2
      try clear p2
      obtain⟨x3_2,rfl,HA,HK2,BK119,HB⟩:=hrel
      cases gk with
      |zero=>exact absurd HA.out (by simp [ostinatoref05_Check.l0])
      |succ k2=>
       have H:=HA.out
       clear HA
       simp only [ostinatoref05_Check.l0] at H
       by_cases c17:x3_2<(l0_2.length:Int)
       ·rw [if_pos c17] at H
        have c17b0:decide (x3_2<(l0_2.length:Int))=true:=decide_eq_true c17
        clear c17
        by_cases c18:0≤x3_2
        ·rw [if_pos c18] at H
         have c18b0:decide (0≤x3_2)=true:=decide_eq_true c18
         clear c18
         replace H:=Option.bind_eq_some_iff.mp H
         obtain⟨t121,A190,H⟩:=H
         replace H:(if t121=0 then (if x3_2 > 0 then (if 0≤(wrap64 (x3_2 - 1)) then (if (wrap64 (x3_2 - 1))<(l0_2.length:Int) then (ostinatoref05_Check.j2 k2 x3_2 (decide (((qak l0_2 x3_2).f0)≤((qak l0_2 (wrap64 (x3_2 - 1))).f0))) a0_0 a0_1 l0_2) else (none)) else (none)) else (ostinatoref05_Check.j2 k2 x3_2 false a0_0 a0_1 l0_2)) else (some t121))=some r:=H
         have A19:=qaf.mk A190
         clear A190
         by_cases c20:t121=0
         ·rw [if_pos c20] at H
          have c20b0:(t121 == 0)=true:=beq_iff_eq.mpr c20
          have c20b1:(t121 != 0)=false:=bne_eq_false_iff_eq.mpr c20
          clear c20
          have HC21:=qaf.mk H
          clear H
          have hcz22_0:wr.cell? ⟨gb119,0,none⟩=some (.int .i64 a0_0):=(qac BK119.out 0).trans rfl
          have hcz22_1:wr.cell? ⟨gb119,1,none⟩=some (.int .i64 a0_1):=(qac BK119.out 1).trans rfl
          have hcz22_2:wr.cell? ⟨gb119,2,none⟩=some (.slice A0_2 l0_2.length c0_2):=(qac BK119.out 2).trans rfl
          have hfz22_0:=qaa BK119.out 0
          have hfz22_1:=qaa BK119.out 1
          have hfz22_2:=qaa BK119.out 2
          try go_wp2
          have n0_:=qaf.mk (qaj BK119.out)
          have n1_:=qaf.mk (qad HB.out)
          clear BK119
          clear HB
          have BK119:=n0_
          have HB:=n1_
          clear n0_ n1_
          have p120:0≤(x3_2:Int):=of_decide_eq_true (by first|(with_reducible assumption)|assumption)
          have q120:x3_2<(l0_2.length:Int):=of_decide_eq_true (by first|(with_reducible assumption)|assumption)
          obtain⟨ad120,A120_5,c120_5,A120_6,c120_6,e120,hx120_0,hx120_1,hx120_2,hx120_3,hx120_4,hx120_5,hx120_6,hl120_5,hi120_5,hl120_6,hi120_6⟩:=at_T52 HR0_2.out x3_2 p120 q120
          have hw120_6:=hx120_6
          have hw120_5:=hx120_5
          have hw120_4:=hx120_4
          have hw120_3:=hx120_3
          have hw120_2:=hx120_2
          have hw120_1:=hx120_1
          have hw120_0:=hx120_0
          cases e120
          replace hx120_0:=(HB.out.cell (bLt w _ hx120_0)).trans hx120_0
          replace hx120_1:=(HB.out.cell (bLt w _ hx120_1)).trans hx120_1
          replace hx120_2:=(HB.out.cell (bLt w _ hx120_2)).trans hx120_2
          replace hx120_3:=(HB.out.cell (bLt w _ hx120_3)).trans hx120_3
          replace hx120_4:=(HB.out.cell (bLt w _ hx120_4)).trans hx120_4
          replace hx120_5:=(HB.out.cell (bLt w _ hx120_5)).trans hx120_5
          replace hx120_6:=(HB.out.cell (bLt w _ hx120_6)).trans hx120_6
          have HR120_5:=qaf.mk hi120_5
          have HC120_5:=qaf.mk hl120_5
          clear hi120_5 hl120_5
          have HR120_6:=qaf.mk hi120_6
          have HC120_6:=qaf.mk hl120_6
          clear hi120_6 hl120_6
          replace p120:=eq_true p120
          replace q120:=eq_true q120
          refine start_ (n:=9) (S:=fun w'=>w'.cell? ⟨gb119,0,none⟩=some (.int .i64 a0_0)∧w'.cell? ⟨gb119,1,none⟩=some (.int .i64 a0_1)∧w'.cell? ⟨gb119,2,none⟩=some (.slice (some ad120) l0_2.length c0_2)∧w'.cell? (ad120.add ((x3_2).toNat * 7))=some (.int .i64 ((qak l0_2 x3_2).f0))∧w'.cell? ⟨(ad120.add ((x3_2).toNat * 7)).block,(ad120.add ((x3_2).toNat * 7)).off+1,none⟩=some (.int .i64 ((qak l0_2 x3_2).f1))∧w'.cell? ⟨(ad120.add ((x3_2).toNat * 7)).block,(ad120.add ((x3_2).toNat * 7)).off+2,none⟩=some (.int .i64 ((qak l0_2 x3_2).f2))∧w'.cell? ⟨(ad120.add ((x3_2).toNat * 7)).block,(ad120.add ((x3_2).toNat * 7)).off+3,none⟩=some (.int .i64 ((qak l0_2 x3_2).f3))∧w'.cell? ⟨(ad120.add ((x3_2).toNat * 7)).block,(ad120.add ((x3_2).toNat * 7)).off+4,none⟩=some (.int .i64 ((qak l0_2 x3_2).f4))∧w'.cell? ⟨(ad120.add ((x3_2).toNat * 7)).block,(ad120.add ((x3_2).toNat * 7)).off+5,none⟩=some (.slice A120_5 ((qak l0_2 x3_2).f5).length c120_5)∧w'.cell? ⟨(ad120.add ((x3_2).toNat * 7)).block,(ad120.add ((x3_2).toNat * 7)).off+6,none⟩=some (.slice A120_6 ((qak l0_2 x3_2).f6).length c120_6)) (ds:=[]) #[false,false,false,false,false,false,false,false,false] (by kernel_rfl) rfl rfl ⟨(qac BK119.out 0).trans rfl,(qac BK119.out 1).trans rfl,(qac BK119.out 2).trans rfl,((HB.out.cell (bLt w _ hw120_0)).trans hw120_0),((HB.out.cell (bLt w _ hw120_1)).trans hw120_1),((HB.out.cell (bLt w _ hw120_2)).trans hw120_2),((HB.out.cell (bLt w _ hw120_3)).trans hw120_3),((HB.out.cell (bLt w _ hw120_4)).trans hw120_4),((HB.out.cell (bLt w _ hw120_5)).trans hw120_5),((HB.out.cell (bLt w _ hw120_6)).trans hw120_6)⟩ (fun hHeld=>?_);refine with_tabW ostinatoref05_Check.tab8 ostinatoref05_Check.bits8 (fun HT_ HW_=>?_)
          generalize wr.drew=w23 at BK119 HB HR120_5 HR120_6 hx120_0 hx120_1 hx120_2 hx120_3 hx120_4 hx120_5 hx120_6 hHeld ⊢
          refine qaE (i:=0) (N:=some 41) (v:=?_) (a':=?_) #[true,false,false,false,false,false,false,false,false] rfl rfl (qax HT_.out (by kernel_rfl)) (fun _ _ _ h=>h) (Or.inl ⟨by rfl,?_⟩) ?_ ?_
          rotate_left
          ·intro w'
           go_simp
           with_reducible rfl
          rotate_left
          ·simp only [Act.put,List.setIfInBounds_toArray,List.set_cons_zero,List.set_cons_succ,qav,qaw]
           rfl
          refine qaE (i:=2) (N:=some 43) (v:=?_) (a':=?_) #[true,false,true,false,false,false,false,false,false] rfl rfl (qax HT_.out (by kernel_rfl)) (fun _ _ _ h=>h) (Or.inl ⟨by rfl,?_⟩) ?_ ?_
          rotate_left
          ·intro w'
           go_simp
           with_reducible rfl
          rotate_left
          ·simp only [Act.put,List.setIfInBounds_toArray,List.set_cons_zero,List.set_cons_succ,qav,qaw]
           rfl
          refine qaE (i:=5) (N:=some 46) (v:=?_) (a':=?_) #[true,false,true,false,false,true,false,false,false] rfl rfl (qax HT_.out (by kernel_rfl)) (fun _ _ _ h=>h) (Or.inl ⟨by rfl,?_⟩) ?_ ?_
          rotate_left
          ·intro w'
           go_simp
           with_reducible rfl
          rotate_left
          ·simp only [Act.put,List.setIfInBounds_toArray,List.set_cons_zero,List.set_cons_succ,qav,qaw]
           rfl
          refine take_ (i:=1) (N:=some 42) (v:=?_) (a':=?_) #[true,true,true,false,false,true,false,false,false] rfl rfl (qaH HT_.out HW_.out (by kernel_rfl)) (fun _ _ _ h=>h) (Or.inl ⟨by rfl,?_⟩) hHeld ?_ ?_
          rotate_left
          ·rintro w' ⟨s0,s1,s2,s3,s4,s5,s6,s7,s8,s9⟩
           go_simp
           with_reducible rfl
          rotate_left
          ·simp only [Act.put,List.setIfInBounds_toArray,List.set_cons_zero,List.set_cons_succ,qav,qaw]
           rfl
          refine qaE (i:=3) (N:=some 44) (v:=?_) (a':=?_) #[true,true,true,true,false,true,false,false,false] rfl rfl (qax HT_.out (by kernel_rfl)) (fun _ _ _ h=>h) (Or.inl ⟨by rfl,?_⟩) ?_ ?_
          rotate_left
          ·intro w'
           go_simp
           with_reducible rfl
          rotate_left
          ·simp only [Act.put,List.setIfInBounds_toArray,List.set_cons_zero,List.set_cons_succ,qav,qaw]
           rfl
          refine take_ (i:=4) (N:=some 45) (v:=?_) (a':=?_) #[true,true,true,true,true,true,false,false,false] rfl rfl (qaH HT_.out HW_.out (by kernel_rfl)) (fun _ _ _ h=>h) (Or.inl ⟨by rfl,?_⟩) hHeld ?_ ?_
          rotate_left
          ·rintro w' ⟨s0,s1,s2,s3,s4,s5,s6,s7,s8,s9⟩
           go_simp
           with_reducible rfl
          rotate_left
          ·simp only [Act.put,List.setIfInBounds_toArray,List.set_cons_zero,List.set_cons_succ,qav,qaw]
           rfl
          refine take_ (i:=6) (N:=some 47) (v:=?_) (a':=?_) #[true,true,true,true,true,true,true,false,false] rfl rfl (qaH HT_.out HW_.out (by kernel_rfl)) (fun _ _ _ h=>h) (Or.inl ⟨by rfl,?_⟩) hHeld ?_ ?_
          rotate_left
          ·rintro w' ⟨s0,s1,s2,s3,s4,s5,s6,s7,s8,s9⟩
           go_simp
           with_reducible rfl
          rotate_left
          ·simp only [Act.put,List.setIfInBounds_toArray,List.set_cons_zero,List.set_cons_succ,qav,qaw]
           rfl
          refine one_ (i:=7) (N:=some 48) #[true,true,true,true,true,true,true,true,false] rfl rfl (one_of HT_.out (by kernel_rfl)) (by decide) (fun K hK=>?_)
          refine goes_ Tryd.func35 (by kernel_rfl) rfl #[.agg #[.int .i64 ((qak l0_2 x3_2).f0),.int .i64 ((qak l0_2 x3_2).f1),.int .i64 ((qak l0_2 x3_2).f2),.int .i64 ((qak l0_2 x3_2).f3),.int .i64 ((qak l0_2 x3_2).f4),.slice A120_5 ((qak l0_2 x3_2).f5).length c120_5,.slice A120_6 ((qak l0_2 x3_2).f6).length c120_6],.int .i64 a0_0] (by rfl) rfl rfl (by (try simp only [List.map_toArray,List.map_cons,List.map_nil]);first|done|rfl|(simp only [List.length_drop,List.length_take];rfl)) ?_
          with_reducible refine (ostinatoref05_Right.calls k2 ((qak l0_2 x3_2).f0) ((qak l0_2 x3_2).f1) ((qak l0_2 x3_2).f2) ((qak l0_2 x3_2).f3) ((qak l0_2 x3_2).f4) _ _ ((qak l0_2 x3_2).f5) _ _ ((qak l0_2 x3_2).f6) a0_0 t121 _ ?side1 ?side2 ?side3 ?side4 A19.out).mono ?_
          (case side1=>repeat (first|exact (Kd.C_below HR120_5.out HB.out)|(with_reducible refine Kd.C_alloc ?_ _)|(with_reducible refine Kd.C_drewN ?_ _)|(with_reducible refine Kd.C_drew ?_)))
          (case side2=>exact HC120_5.out)
          (case side3=>repeat (first|exact (Kd.C_below HR120_6.out HB.out)|(with_reducible refine Kd.C_alloc ?_ _)|(with_reducible refine Kd.C_drewN ?_ _)|(with_reducible refine Kd.C_drew ?_)))
          (case side4=>exact HC120_6.out)
          rintro e w24 ⟨rfl,hb⟩
          refine⟨_,rfl,?_⟩
          have n0_:=qaf.mk (qas (g:=gb119) (o:=.cells #[.int .i64 a0_0,.int .i64 a0_1,.slice (some ad120) l0_2.length c0_2] 32 (0,0)) (by (with_reducible repeat (first|refine qah ?_ _|refine qaj ?_|refine qai ?_ _));exact BK119.out) hb)
          have n1_:=qaf.mk (qal (by repeat (first|(with_reducible first|exact HB.out|apply qae|apply qab|apply qad|refine qag ?_ GE119.out)|exact HB.out)) hb)
          clear BK119
          clear HB
          have BK119:=n0_
          have HB:=n1_
          clear n0_ n1_
          (try clear hb)
          (try clear hb2)
          (try clear hk)
          (try clear hi)
          refine hK.out _ _ ⟨(qac BK119.out 0).trans rfl,(qac BK119.out 1).trans rfl,(qac BK119.out 2).trans rfl,((HB.out.cell (bLt w _ hw120_0)).trans hw120_0),((HB.out.cell (bLt w _ hw120_1)).trans hw120_1),((HB.out.cell (bLt w _ hw120_2)).trans hw120_2),((HB.out.cell (bLt w _ hw120_3)).trans hw120_3),((HB.out.cell (bLt w _ hw120_4)).trans hw120_4),((HB.out.cell (bLt w _ hw120_5)).trans hw120_5),((HB.out.cell (bLt w _ hw120_6)).trans hw120_6)⟩ (fun hHeld=>?_)
          clear hK K
          refine norm_ (a':=?_) ?_ ?_
          rotate_left
          ·show Act.put _ (some 48) _=_
           simp only [Act.put,List.setIfInBounds_toArray,List.set_cons_zero,List.set_cons_succ,qav,qaw]
           rfl
          refine qaE (i:=8) (N:=some 4) (v:=?_) (a':=?_) #[true,true,true,true,true,true,true,true,true] rfl rfl (qax HT_.out (by kernel_rfl)) (fun _ _ _ h=>h) (Or.inl ⟨by rfl,?_⟩) ?_ ?_
          rotate_left
          ·intro w'
           go_simp
           with_reducible rfl
          rotate_left
          ·simp only [Act.put,List.setIfInBounds_toArray,List.set_cons_zero,List.set_cons_succ,qav,qaw]
           rfl
          refine done_ (done_of HT_.out (by kernel_rfl)) ?_
          go_upto_region 11 with (fail)
          go_cut [69] (fun v69 wc=>∃ (kq:Nat) (x69_20:Bool),v69=.bool x69_20∧qaf (ostinatoref05_Check.j2 kq x3_2 x69_20 a0_0 a0_1 l0_2=some r)∧qaf (kq≤k2)∧qaf (wc.heap[gb119]? = some (.cells #[.int .i64 a0_0,.int .i64 a0_1,(.slice (some ad120) l0_2.length c0_2)] 32 (0,0)))∧qaf (Below w.heap.size w wc))
          case first=>
           have H:=HC21.out
           clear HC21
           by_cases c25:x3_2 > 0
           ·rw [if_pos c25] at H
            have c25b0:decide (0<x3_2)=true:=decide_eq_true c25
            clear c25
            (first|rw [c25b0]|(simp only [qav,qaw];rw [c25b0])|skip)
            obtain⟨ji26,hji26⟩:∃ j_:Int,(wrap64 (x3_2 - 1))=j_:=⟨_,rfl⟩
            replace H:(if 0≤(ji26) then (if (ji26)<(l0_2.length:Int) then (ostinatoref05_Check.j2 k2 x3_2 (decide (((qak l0_2 x3_2).f0)≤((qak l0_2 (ji26)).f0))) a0_0 a0_1 l0_2) else (none)) else (none))=some r:=by first|(rw [hji26] at H;exact H)|(simp only [hji26] at H ⊢;exact H)
            have hji26w:(IntKind.i64.wrap (x3_2 - 1))=ji26:=(qav _).trans hji26
            by_cases c27:0≤(ji26)
            ·rw [if_pos c27] at H
             have c27b0:decide (0≤(ji26))=true:=decide_eq_true c27
             clear c27
             by_cases c28:(ji26)<(l0_2.length:Int)
             ·rw [if_pos c28] at H
              have c28b0:decide ((ji26)<(l0_2.length:Int))=true:=decide_eq_true c28
              clear c28
              have H':=qaf.mk H
              clear H
              try go_wp2
              have n0_:=qaf.mk (qaj BK119.out)
              have n1_:=qaf.mk (qad HB.out)
              clear BK119
              clear HB
              have BK119:=n0_
              have HB:=n1_
              clear n0_ n1_
              have p122:0≤(x3_2:Int):=of_decide_eq_true (by first|(with_reducible assumption)|assumption)
              have q122:x3_2<(l0_2.length:Int):=of_decide_eq_true (by first|(with_reducible assumption)|assumption)
              obtain⟨ad122,A122_5,c122_5,A122_6,c122_6,e122,hx122_0,hx122_1,hx122_2,hx122_3,hx122_4,hx122_5,hx122_6,hl122_5,hi122_5,hl122_6,hi122_6⟩:=at_T52 HR0_2.out x3_2 p122 q122
              have hw122_6:=hx122_6
              have hw122_5:=hx122_5
              have hw122_4:=hx122_4
              have hw122_3:=hx122_3
              have hw122_2:=hx122_2
              have hw122_1:=hx122_1
              have hw122_0:=hx122_0
              obtain rfl:ad120=ad122:=(by injection e122)
              replace hx122_0:=(HB.out.cell (bLt w _ hx122_0)).trans hx122_0
              replace hx122_1:=(HB.out.cell (bLt w _ hx122_1)).trans hx122_1
              replace hx122_2:=(HB.out.cell (bLt w _ hx122_2)).trans hx122_2
              replace hx122_3:=(HB.out.cell (bLt w _ hx122_3)).trans hx122_3
              replace hx122_4:=(HB.out.cell (bLt w _ hx122_4)).trans hx122_4
              replace hx122_5:=(HB.out.cell (bLt w _ hx122_5)).trans hx122_5
              replace hx122_6:=(HB.out.cell (bLt w _ hx122_6)).trans hx122_6
              have HR122_5:=qaf.mk hi122_5
              have HC122_5:=qaf.mk hl122_5
              clear hi122_5 hl122_5
              have HR122_6:=qaf.mk hi122_6
              have HC122_6:=qaf.mk hl122_6
              clear hi122_6 hl122_6
              replace p122:=eq_true p122
              replace q122:=eq_true q122
              have p123:0≤((ji26):Int):=of_decide_eq_true (by first|(with_reducible assumption)|assumption)
              have q123:(ji26)<(l0_2.length:Int):=of_decide_eq_true (by first|(with_reducible assumption)|assumption)
              obtain⟨ad123,A123_5,c123_5,A123_6,c123_6,e123,hx123_0,hx123_1,hx123_2,hx123_3,hx123_4,hx123_5,hx123_6,hl123_5,hi123_5,hl123_6,hi123_6⟩:=at_T52 HR0_2.out (ji26) p123 q123
              have hw123_6:=hx123_6
              have hw123_5:=hx123_5
              have hw123_4:=hx123_4
              have hw123_3:=hx123_3
              have hw123_2:=hx123_2
              have hw123_1:=hx123_1
              have hw123_0:=hx123_0
              obtain rfl:ad120=ad123:=(by injection e123)
              replace hx123_0:=(HB.out.cell (bLt w _ hx123_0)).trans hx123_0
              replace hx123_1:=(HB.out.cell (bLt w _ hx123_1)).trans hx123_1
              replace hx123_2:=(HB.out.cell (bLt w _ hx123_2)).trans hx123_2
              replace hx123_3:=(HB.out.cell (bLt w _ hx123_3)).trans hx123_3
              replace hx123_4:=(HB.out.cell (bLt w _ hx123_4)).trans hx123_4
              replace hx123_5:=(HB.out.cell (bLt w _ hx123_5)).trans hx123_5
              replace hx123_6:=(HB.out.cell (bLt w _ hx123_6)).trans hx123_6
              have HR123_5:=qaf.mk hi123_5
              have HC123_5:=qaf.mk hl123_5
              clear hi123_5 hl123_5
              have HR123_6:=qaf.mk hi123_6
              have HC123_6:=qaf.mk hl123_6
              clear hi123_6 hl123_6
              replace p123:=eq_true p123
              replace q123:=eq_true q123
              refine start_ (n:=18) (S:=fun w'=>w'.cell? ⟨gb119,0,none⟩=some (.int .i64 a0_0)∧w'.cell? ⟨gb119,1,none⟩=some (.int .i64 a0_1)∧w'.cell? ⟨gb119,2,none⟩=some (.slice (some ad120) l0_2.length c0_2)∧w'.cell? (ad120.add ((x3_2).toNat * 7))=some (.int .i64 ((qak l0_2 x3_2).f0))∧w'.cell? ⟨(ad120.add ((x3_2).toNat * 7)).block,(ad120.add ((x3_2).toNat * 7)).off+1,none⟩=some (.int .i64 ((qak l0_2 x3_2).f1))∧w'.cell? ⟨(ad120.add ((x3_2).toNat * 7)).block,(ad120.add ((x3_2).toNat * 7)).off+2,none⟩=some (.int .i64 ((qak l0_2 x3_2).f2))∧w'.cell? ⟨(ad120.add ((x3_2).toNat * 7)).block,(ad120.add ((x3_2).toNat * 7)).off+3,none⟩=some (.int .i64 ((qak l0_2 x3_2).f3))∧w'.cell? ⟨(ad120.add ((x3_2).toNat * 7)).block,(ad120.add ((x3_2).toNat * 7)).off+4,none⟩=some (.int .i64 ((qak l0_2 x3_2).f4))∧w'.cell? ⟨(ad120.add ((x3_2).toNat * 7)).block,(ad120.add ((x3_2).toNat * 7)).off+5,none⟩=some (.slice A122_5 ((qak l0_2 x3_2).f5).length c122_5)∧w'.cell? ⟨(ad120.add ((x3_2).toNat * 7)).block,(ad120.add ((x3_2).toNat * 7)).off+6,none⟩=some (.slice A122_6 ((qak l0_2 x3_2).f6).length c122_6)∧w'.cell? (ad120.add (((ji26)).toNat * 7))=some (.int .i64 ((qak l0_2 (ji26)).f0))∧w'.cell? ⟨(ad120.add (((ji26)).toNat * 7)).block,(ad120.add (((ji26)).toNat * 7)).off+1,none⟩=some (.int .i64 ((qak l0_2 (ji26)).f1))∧w'.cell? ⟨(ad120.add (((ji26)).toNat * 7)).block,(ad120.add (((ji26)).toNat * 7)).off+2,none⟩=some (.int .i64 ((qak l0_2 (ji26)).f2))∧w'.cell? ⟨(ad120.add (((ji26)).toNat * 7)).block,(ad120.add (((ji26)).toNat * 7)).off+3,none⟩=some (.int .i64 ((qak l0_2 (ji26)).f3))∧w'.cell? ⟨(ad120.add (((ji26)).toNat * 7)).block,(ad120.add (((ji26)).toNat * 7)).off+4,none⟩=some (.int .i64 ((qak l0_2 (ji26)).f4))∧w'.cell? ⟨(ad120.add (((ji26)).toNat * 7)).block,(ad120.add (((ji26)).toNat * 7)).off+5,none⟩=some (.slice A123_5 ((qak l0_2 (ji26)).f5).length c123_5)∧w'.cell? ⟨(ad120.add (((ji26)).toNat * 7)).block,(ad120.add (((ji26)).toNat * 7)).off+6,none⟩=some (.slice A123_6 ((qak l0_2 (ji26)).f6).length c123_6)) (ds:=[]) #[false,false,false,false,false,false,false,false,false,false,false,false,false,false,false,false,false,false] (by kernel_rfl) rfl rfl ⟨(qac BK119.out 0).trans rfl,(qac BK119.out 1).trans rfl,(qac BK119.out 2).trans rfl,((HB.out.cell (bLt w _ hw122_0)).trans hw122_0),((HB.out.cell (bLt w _ hw122_1)).trans hw122_1),((HB.out.cell (bLt w _ hw122_2)).trans hw122_2),((HB.out.cell (bLt w _ hw122_3)).trans hw122_3),((HB.out.cell (bLt w _ hw122_4)).trans hw122_4),((HB.out.cell (bLt w _ hw122_5)).trans hw122_5),((HB.out.cell (bLt w _ hw122_6)).trans hw122_6),((HB.out.cell (bLt w _ hw123_0)).trans hw123_0),((HB.out.cell (bLt w _ hw123_1)).trans hw123_1),((HB.out.cell (bLt w _ hw123_2)).trans hw123_2),((HB.out.cell (bLt w _ hw123_3)).trans hw123_3),((HB.out.cell (bLt w _ hw123_4)).trans hw123_4),((HB.out.cell (bLt w _ hw123_5)).trans hw123_5),((HB.out.cell (bLt w _ hw123_6)).trans hw123_6)⟩ (fun hHeld=>?_);refine with_tabW ostinatoref05_Check.tab11 ostinatoref05_Check.bits11 (fun HT_ HW_=>?_)
              generalize w24.drew=w29 at BK119 HB HR122_5 HR122_6 HR123_5 HR123_6 hx122_0 hx122_1 hx122_2 hx122_3 hx122_4 hx122_5 hx122_6 hx123_0 hx123_1 hx123_2 hx123_3 hx123_4 hx123_5 hx123_6 hHeld ⊢
              refine qaE (i:=0) (N:=some 52) (v:=?_) (a':=?_) #[true,false,false,false,false,false,false,false,false,false,false,false,false,false,false,false,false,false] rfl rfl (qax HT_.out (by kernel_rfl)) (fun _ _ _ h=>h) (Or.inl ⟨by rfl,?_⟩) ?_ ?_
              rotate_left
              ·intro w'
               go_simp
               with_reducible rfl
              rotate_left
              ·simp only [Act.put,List.setIfInBounds_toArray,List.set_cons_zero,List.set_cons_succ,qav,qaw]
               rfl
              refine qaE (i:=1) (N:=some 53) (v:=?_) (a':=?_) #[true,true,false,false,false,false,false,false,false,false,false,false,false,false,false,false,false,false] rfl rfl (qax HT_.out (by kernel_rfl)) (fun _ _ _ h=>h) (Or.inl ⟨by rfl,?_⟩) ?_ ?_
              rotate_left
              ·intro w'
               go_simp
               with_reducible rfl
              rotate_left
              ·simp only [Act.put,List.setIfInBounds_toArray,List.set_cons_zero,List.set_cons_succ,qav,qaw]
               rfl
              refine qaE (i:=2) (N:=some 54) (v:=?_) (a':=?_) #[true,true,true,false,false,false,false,false,false,false,false,false,false,false,false,false,false,false] rfl rfl (qax HT_.out (by kernel_rfl)) (fun _ _ _ h=>h) (Or.inl ⟨by rfl,?_⟩) ?_ ?_
              rotate_left
              ·intro w'
               go_simp
               with_reducible rfl
              rotate_left
              ·simp only [Act.put,List.setIfInBounds_toArray,List.set_cons_zero,List.set_cons_succ,qav,qaw]
               rfl
              refine qaE (i:=3) (N:=some 55) (v:=?_) (a':=?_) #[true,true,true,true,false,false,false,false,false,false,false,false,false,false,false,false,false,false] rfl rfl (qax HT_.out (by kernel_rfl)) (fun _ _ _ h=>h) (Or.inl ⟨by rfl,?_⟩) ?_ ?_
              rotate_left
              ·intro w'
               go_simp
               with_reducible rfl
              rotate_left
              ·simp only [Act.put,List.setIfInBounds_toArray,List.set_cons_zero,List.set_cons_succ,qav,qaw]
               rfl
              refine qaE (i:=5) (N:=some 57) (v:=?_) (a':=?_) #[true,true,true,true,false,true,false,false,false,false,false,false,false,false,false,false,false,false] rfl rfl (qax HT_.out (by kernel_rfl)) (fun _ _ _ h=>h) (Or.inl ⟨by rfl,?_⟩) ?_ ?_
              rotate_left
              ·intro w'
               go_simp
               with_reducible rfl
              rotate_left
              ·simp only [Act.put,List.setIfInBounds_toArray,List.set_cons_zero,List.set_cons_succ,qav,qaw]
               rfl
              refine qaE (i:=9) (N:=some 61) (v:=?_) (a':=?_) #[true,true,true,true,false,true,false,false,false,true,false,false,false,false,false,false,false,false] rfl rfl (qax HT_.out (by kernel_rfl)) (fun _ _ _ h=>h) (Or.inl ⟨by rfl,?_⟩) ?_ ?_
              rotate_left
              ·intro w'
               go_simp
               with_reducible rfl
              rotate_left
              ·simp only [Act.put,List.setIfInBounds_toArray,List.set_cons_zero,List.set_cons_succ,qav,qaw]
               rfl
              refine qaE (i:=11) (N:=some 63) (v:=?_) (a':=?_) #[true,true,true,true,false,true,false,false,false,true,false,true,false,false,false,false,false,false] rfl rfl (qax HT_.out (by kernel_rfl)) (fun _ _ _ h=>h) (Or.inl ⟨by rfl,?_⟩) ?_ ?_
              rotate_left
              ·intro w'
               go_simp
               with_reducible rfl
              rotate_left
              ·simp only [Act.put,List.setIfInBounds_toArray,List.set_cons_zero,List.set_cons_succ,qav,qaw]
               rfl
              refine qaE (i:=12) (N:=some 64) (v:=?_) (a':=?_) #[true,true,true,true,false,true,false,false,false,true,false,true,true,false,false,false,false,false] rfl rfl (qax HT_.out (by kernel_rfl)) (fun _ _ _ h=>h) (Or.inl ⟨by rfl,?_⟩) ?_ ?_
              rotate_left
              ·intro w'
               go_simp
               with_reducible rfl
              rotate_left
              ·simp only [Act.put,List.setIfInBounds_toArray,List.set_cons_zero,List.set_cons_succ,qav,qaw]
               rfl
              refine take_ (i:=4) (N:=some 56) (v:=?_) (a':=?_) #[true,true,true,true,true,true,false,false,false,true,false,true,true,false,false,false,false,false] rfl rfl (qaH HT_.out HW_.out (by kernel_rfl)) (fun _ _ _ h=>h) (Or.inl ⟨by rfl,?_⟩) hHeld ?_ ?_
              rotate_left
              ·rintro w' ⟨s0,s1,s2,s3,s4,s5,s6,s7,s8,s9,s10,s11,s12,s13,s14,s15,s16⟩
               go_simp
               with_reducible rfl
              rotate_left
              ·simp only [Act.put,List.setIfInBounds_toArray,List.set_cons_zero,List.set_cons_succ,qav,qaw]
               rfl
              refine qaE (i:=6) (N:=some 58) (v:=?_) (a':=?_) #[true,true,true,true,true,true,true,false,false,true,false,true,true,false,false,false,false,false] rfl rfl (qax HT_.out (by kernel_rfl)) (fun _ _ _ h=>h) (Or.inl ⟨by rfl,?_⟩) ?_ ?_
              rotate_left
              ·intro w'
               go_simp
               with_reducible rfl
              rotate_left
              ·simp only [Act.put,List.setIfInBounds_toArray,List.set_cons_zero,List.set_cons_succ,qav,qaw]
               rfl
              refine qaE (i:=7) (N:=some 59) (v:=?_) (a':=?_) #[true,true,true,true,true,true,true,true,false,true,false,true,true,false,false,false,false,false] rfl rfl (qax HT_.out (by kernel_rfl)) (fun _ _ _ h=>h) (Or.inl ⟨by rfl,?_⟩) ?_ ?_
              rotate_left
              ·intro w'
               go_simp
               with_reducible rfl
              rotate_left
              ·simp only [Act.put,List.setIfInBounds_toArray,List.set_cons_zero,List.set_cons_succ,qav,qaw]
               rfl
              refine take_ (i:=8) (N:=some 60) (v:=?_) (a':=?_) #[true,true,true,true,true,true,true,true,true,true,false,true,true,false,false,false,false,false] rfl rfl (qaH HT_.out HW_.out (by kernel_rfl)) (fun _ _ _ h=>h) (Or.inl ⟨by rfl,?_⟩) hHeld ?_ ?_
              rotate_left
              ·rintro w' ⟨s0,s1,s2,s3,s4,s5,s6,s7,s8,s9,s10,s11,s12,s13,s14,s15,s16⟩
               go_simp
               with_reducible rfl
              rotate_left
              ·simp only [Act.put,List.setIfInBounds_toArray,List.set_cons_zero,List.set_cons_succ,qav,qaw]
               rfl
              refine take_ (i:=10) (N:=some 62) (v:=?_) (a':=?_) #[true,true,true,true,true,true,true,true,true,true,true,true,true,false,false,false,false,false] rfl rfl (qaH HT_.out HW_.out (by kernel_rfl)) (fun _ _ _ h=>h) (Or.inl ⟨by rfl,?_⟩) hHeld ?_ ?_
              rotate_left
              ·rintro w' ⟨s0,s1,s2,s3,s4,s5,s6,s7,s8,s9,s10,s11,s12,s13,s14,s15,s16⟩
               go_simp
               with_reducible rfl
              rotate_left
              ·simp only [Act.put,List.setIfInBounds_toArray,List.set_cons_zero,List.set_cons_succ,qav,qaw]
               rfl
              refine qaE (i:=13) (N:=some 65) (v:=?_) (a':=?_) #[true,true,true,true,true,true,true,true,true,true,true,true,true,true,false,false,false,false] rfl rfl (qax HT_.out (by kernel_rfl)) (fun _ _ _ h=>h) (Or.inl ⟨by rfl,?_⟩) ?_ ?_
              rotate_left
              ·intro w'
               go_simp
               with_reducible rfl
              rotate_left
              ·simp only [Act.put,List.setIfInBounds_toArray,List.set_cons_zero,List.set_cons_succ,qav,qaw]
               rfl
              refine qaE (i:=14) (N:=some 66) (v:=?_) (a':=?_) #[true,true,true,true,true,true,true,true,true,true,true,true,true,true,true,false,false,false] rfl rfl (qax HT_.out (by kernel_rfl)) (fun _ _ _ h=>h) (Or.inl ⟨by rfl,?_⟩) ?_ ?_
              rotate_left
              ·intro w'
               go_simp
               with_reducible rfl
              rotate_left
              ·simp only [Act.put,List.setIfInBounds_toArray,List.set_cons_zero,List.set_cons_succ,qav,qaw]
               rfl
              refine take_ (i:=15) (N:=some 67) (v:=?_) (a':=?_) #[true,true,true,true,true,true,true,true,true,true,true,true,true,true,true,true,false,false] rfl rfl (qaH HT_.out HW_.out (by kernel_rfl)) (fun _ _ _ h=>h) (Or.inl ⟨by rfl,?_⟩) hHeld ?_ ?_
              rotate_left
              ·rintro w' ⟨s0,s1,s2,s3,s4,s5,s6,s7,s8,s9,s10,s11,s12,s13,s14,s15,s16⟩
               go_simp
               with_reducible rfl
              rotate_left
              ·simp only [Act.put,List.setIfInBounds_toArray,List.set_cons_zero,List.set_cons_succ,qav,qaw]
               rfl
              refine qaE (i:=16) (N:=some 68) (v:=?_) (a':=?_) #[true,true,true,true,true,true,true,true,true,true,true,true,true,true,true,true,true,false] rfl rfl (qax HT_.out (by kernel_rfl)) (fun _ _ _ h=>h) (Or.inl ⟨by rfl,?_⟩) ?_ ?_
              rotate_left
              ·intro w'
               go_simp
               with_reducible rfl
              rotate_left
              ·simp only [Act.put,List.setIfInBounds_toArray,List.set_cons_zero,List.set_cons_succ,qav,qaw]
               rfl
              refine qaE (i:=17) (N:=some 69) (v:=?_) (a':=?_) #[true,true,true,true,true,true,true,true,true,true,true,true,true,true,true,true,true,true] rfl rfl (qax HT_.out (by kernel_rfl)) (fun _ _ _ h=>h) (Or.inl ⟨by rfl,?_⟩) ?_ ?_
              rotate_left
              ·intro w'
               go_simp
               with_reducible rfl
              rotate_left
              ·simp only [Act.put,List.setIfInBounds_toArray,List.set_cons_zero,List.set_cons_succ,qav,qaw]
               rfl
              refine done_ (done_of HT_.out (by kernel_rfl)) ?_
              try go_wp2
              go_meet
              case rel=>exact⟨_,(decide (((qak l0_2 x3_2).f0)≤((qak l0_2 (ji26)).f0))),(by first|rfl|(simp;done)|(simp only [← hji26]<;>(first|rfl|simp))|(simp [*];done)),H',⟨by have:=HJ1.out;have:=HK2.out;first|omega|exact Nat.le_refl _⟩,⟨by (with_reducible repeat (first|refine qah ?_ _|refine qaj ?_|refine qai ?_ _));exact BK119.out⟩,⟨by repeat (first|(with_reducible first|exact HB.out|apply qae|apply qab|apply qad|refine qag ?_ GE119.out)|exact HB.out)⟩⟩
             ·rw [if_neg c28] at H
              exact absurd H (by simp)
            ·rw [if_neg c27] at H
             exact absurd H (by simp)
           ·rw [if_neg c25] at H
            have c25b0:decide (0<x3_2)=false:=decide_eq_false c25
            clear c25
            (first|rw [c25b0]|(simp only [qav,qaw];rw [c25b0])|skip)
            have H':=qaf.mk H
            clear H
            try go_wp2
            have n0_:=qaf.mk (qaj BK119.out)
            have n1_:=qaf.mk (qad HB.out)
            clear BK119
            clear HB
            have BK119:=n0_
            have HB:=n1_
            clear n0_ n1_
            refine start_ (n:=18) (S:=fun w'=>True) (ds:=[]) #[false,false,false,false,false,false,false,false,false,false,false,false,false,false,false,false,false,false] (by kernel_rfl) rfl rfl trivial (fun hHeld=>?_);refine with_tabW ostinatoref05_Check.tab11 ostinatoref05_Check.bits11 (fun HT_ HW_=>?_)
            generalize w24.drew=w30 at BK119 HB hHeld ⊢
            refine qaE (i:=0) (N:=some 52) (v:=?_) (a':=?_) #[true,false,false,false,false,false,false,false,false,false,false,false,false,false,false,false,false,false] rfl rfl (qax HT_.out (by kernel_rfl)) (fun _ _ _ h=>h) (Or.inl ⟨by rfl,?_⟩) ?_ ?_
            rotate_left
            ·intro w'
             go_simp
             with_reducible rfl
            rotate_left
            ·simp only [Act.put,List.setIfInBounds_toArray,List.set_cons_zero,List.set_cons_succ,qav,qaw]
             rfl
            refine qaE (i:=1) (N:=some 53) (v:=?_) (a':=?_) #[true,true,false,false,false,false,false,false,false,false,false,false,false,false,false,false,false,false] rfl rfl (qax HT_.out (by kernel_rfl)) (fun _ _ _ h=>h) (Or.inl ⟨by rfl,?_⟩) ?_ ?_
            rotate_left
            ·intro w'
             go_simp
             with_reducible rfl
            rotate_left
            ·simp only [Act.put,List.setIfInBounds_toArray,List.set_cons_zero,List.set_cons_succ,qav,qaw]
             rfl
            refine qaE (i:=2) (N:=some 54) (v:=?_) (a':=?_) #[true,true,true,false,false,false,false,false,false,false,false,false,false,false,false,false,false,false] rfl rfl (qax HT_.out (by kernel_rfl)) (fun _ _ _ h=>h) (Or.inl ⟨by rfl,?_⟩) ?_ ?_
            rotate_left
            ·intro w'
             go_simp
             with_reducible rfl
            rotate_left
            ·simp only [Act.put,List.setIfInBounds_toArray,List.set_cons_zero,List.set_cons_succ,qav,qaw]
             rfl
            refine qaE (i:=3) (N:=some 55) (v:=undef) (a':=?_) #[true,true,true,true,false,false,false,false,false,false,false,false,false,false,false,false,false,false] rfl rfl (qax HT_.out (by kernel_rfl)) (fun _ _ _ h=>h) (Or.inr ⟨by rfl,rfl⟩) ?_ ?_
            rotate_left
            ·simp only [Act.put,List.setIfInBounds_toArray,List.set_cons_zero,List.set_cons_succ,qav,qaw]
             rfl
            refine qaE (i:=4) (N:=some 56) (v:=undef) (a':=?_) #[true,true,true,true,true,false,false,false,false,false,false,false,false,false,false,false,false,false] rfl rfl (qax HT_.out (by kernel_rfl)) (fun _ _ _ h=>h) (Or.inr ⟨by rfl,rfl⟩) ?_ ?_
            rotate_left
            ·simp only [Act.put,List.setIfInBounds_toArray,List.set_cons_zero,List.set_cons_succ,qav,qaw]
             rfl
            refine qaE (i:=5) (N:=some 57) (v:=undef) (a':=?_) #[true,true,true,true,true,true,false,false,false,false,false,false,false,false,false,false,false,false] rfl rfl (qax HT_.out (by kernel_rfl)) (fun _ _ _ h=>h) (Or.inr ⟨by rfl,rfl⟩) ?_ ?_
            rotate_left
            ·simp only [Act.put,List.setIfInBounds_toArray,List.set_cons_zero,List.set_cons_succ,qav,qaw]
             rfl
            refine qaE (i:=6) (N:=some 58) (v:=undef) (a':=?_) #[true,true,true,true,true,true,true,false,false,false,false,false,false,false,false,false,false,false] rfl rfl (qax HT_.out (by kernel_rfl)) (fun _ _ _ h=>h) (Or.inr ⟨by rfl,rfl⟩) ?_ ?_
            rotate_left
            ·simp only [Act.put,List.setIfInBounds_toArray,List.set_cons_zero,List.set_cons_succ,qav,qaw]
             rfl
            refine qaE (i:=7) (N:=some 59) (v:=undef) (a':=?_) #[true,true,true,true,true,true,true,true,false,false,false,false,false,false,false,false,false,false] rfl rfl (qax HT_.out (by kernel_rfl)) (fun _ _ _ h=>h) (Or.inr ⟨by rfl,rfl⟩) ?_ ?_
            rotate_left
            ·simp only [Act.put,List.setIfInBounds_toArray,List.set_cons_zero,List.set_cons_succ,qav,qaw]
             rfl
            refine qaE (i:=8) (N:=some 60) (v:=undef) (a':=?_) #[true,true,true,true,true,true,true,true,true,false,false,false,false,false,false,false,false,false] rfl rfl (qax HT_.out (by kernel_rfl)) (fun _ _ _ h=>h) (Or.inr ⟨by rfl,rfl⟩) ?_ ?_
            rotate_left
            ·simp only [Act.put,List.setIfInBounds_toArray,List.set_cons_zero,List.set_cons_succ,qav,qaw]
             rfl
            refine qaE (i:=9) (N:=some 61) (v:=undef) (a':=?_) #[true,true,true,true,true,true,true,true,true,true,false,false,false,false,false,false,false,false] rfl rfl (qax HT_.out (by kernel_rfl)) (fun _ _ _ h=>h) (Or.inr ⟨by rfl,rfl⟩) ?_ ?_
            rotate_left
            ·simp only [Act.put,List.setIfInBounds_toArray,List.set_cons_zero,List.set_cons_succ,qav,qaw]
             rfl
            refine qaE (i:=10) (N:=some 62) (v:=undef) (a':=?_) #[true,true,true,true,true,true,true,true,true,true,true,false,false,false,false,false,false,false] rfl rfl (qax HT_.out (by kernel_rfl)) (fun _ _ _ h=>h) (Or.inr ⟨by rfl,rfl⟩) ?_ ?_
            rotate_left
            ·simp only [Act.put,List.setIfInBounds_toArray,List.set_cons_zero,List.set_cons_succ,qav,qaw]
             rfl
            refine qaE (i:=11) (N:=some 63) (v:=undef) (a':=?_) #[true,true,true,true,true,true,true,true,true,true,true,true,false,false,false,false,false,false] rfl rfl (qax HT_.out (by kernel_rfl)) (fun _ _ _ h=>h) (Or.inr ⟨by rfl,rfl⟩) ?_ ?_
            rotate_left
            ·simp only [Act.put,List.setIfInBounds_toArray,List.set_cons_zero,List.set_cons_succ,qav,qaw]
             rfl
            refine qaE (i:=12) (N:=some 64) (v:=undef) (a':=?_) #[true,true,true,true,true,true,true,true,true,true,true,true,true,false,false,false,false,false] rfl rfl (qax HT_.out (by kernel_rfl)) (fun _ _ _ h=>h) (Or.inr ⟨by rfl,rfl⟩) ?_ ?_
            rotate_left
            ·simp only [Act.put,List.setIfInBounds_toArray,List.set_cons_zero,List.set_cons_succ,qav,qaw]
             rfl
            refine qaE (i:=13) (N:=some 65) (v:=undef) (a':=?_) #[true,true,true,true,true,true,true,true,true,true,true,true,true,true,false,false,false,false] rfl rfl (qax HT_.out (by kernel_rfl)) (fun _ _ _ h=>h) (Or.inr ⟨by rfl,rfl⟩) ?_ ?_
            rotate_left
            ·simp only [Act.put,List.setIfInBounds_toArray,List.set_cons_zero,List.set_cons_succ,qav,qaw]
             rfl
            refine qaE (i:=14) (N:=some 66) (v:=undef) (a':=?_) #[true,true,true,true,true,true,true,true,true,true,true,true,true,true,true,false,false,false] rfl rfl (qax HT_.out (by kernel_rfl)) (fun _ _ _ h=>h) (Or.inr ⟨by rfl,rfl⟩) ?_ ?_
            rotate_left
            ·simp only [Act.put,List.setIfInBounds_toArray,List.set_cons_zero,List.set_cons_succ,qav,qaw]
             rfl
            refine qaE (i:=15) (N:=some 67) (v:=undef) (a':=?_) #[true,true,true,true,true,true,true,true,true,true,true,true,true,true,true,true,false,false] rfl rfl (qax HT_.out (by kernel_rfl)) (fun _ _ _ h=>h) (Or.inr ⟨by rfl,rfl⟩) ?_ ?_
            rotate_left
            ·simp only [Act.put,List.setIfInBounds_toArray,List.set_cons_zero,List.set_cons_succ,qav,qaw]
             rfl
            refine qaE (i:=16) (N:=some 68) (v:=undef) (a':=?_) #[true,true,true,true,true,true,true,true,true,true,true,true,true,true,true,true,true,false] rfl rfl (qax HT_.out (by kernel_rfl)) (fun _ _ _ h=>h) (Or.inr ⟨by rfl,rfl⟩) ?_ ?_
            rotate_left
            ·simp only [Act.put,List.setIfInBounds_toArray,List.set_cons_zero,List.set_cons_succ,qav,qaw]
             rfl
            refine qaE (i:=17) (N:=some 69) (v:=?_) (a':=?_) #[true,true,true,true,true,true,true,true,true,true,true,true,true,true,true,true,true,true] rfl rfl (qax HT_.out (by kernel_rfl)) (fun _ _ _ h=>h) (Or.inl ⟨by rfl,?_⟩) ?_ ?_
            rotate_left
            ·intro w'
             go_simp
             with_reducible rfl
            rotate_left
            ·simp only [Act.put,List.setIfInBounds_toArray,List.set_cons_zero,List.set_cons_succ,qav,qaw]
             rfl
            refine done_ (done_of HT_.out (by kernel_rfl)) ?_
            try go_wp2
            go_meet
            case rel=>exact⟨_,(false),(by first|rfl|(simp;done)|(simp [*];done)),H',⟨by have:=HJ1.out;have:=HK2.out;first|omega|exact Nat.le_refl _⟩,⟨by (with_reducible repeat (first|refine qah ?_ _|refine qaj ?_|refine qai ?_ _));exact BK119.out⟩,⟨by repeat (first|(with_reducible first|exact HB.out|apply qae|apply qab|apply qad|refine qag ?_ GE119.out)|exact HB.out)⟩⟩
          case rest=>
           clear HC21
           try clear c1
           try clear p1
           try clear q1
           try clear hx1
           try clear c2
           try clear p2
           try clear c3
           try clear c4
           try clear c4b0
           try clear c6
           try clear c6b0
           try clear p6
           try clear c8
           try clear c8b0
           try clear c10
           try clear c10b0
           try clear c12
           try clear p12
           try clear q12
           try clear hx12
           try clear c13
           try clear c14
           try clear c14b0
           try clear c14b1
           try clear c16
           try clear c17
           try clear c17b0
           try clear c18
           try clear c18b0
           try clear c20
           try clear c20b0
           try clear c20b1
           try clear c25
           try clear c25b0
           try clear c27
           try clear c27b0
           try clear c28
           try clear c28b0
           try clear hcz11_0
           try clear hcz11_1
           try clear hcz11_2
           try clear hcz12_0
           try clear hcz12_1
           try clear hcz12_2
           try clear hcz15_0
           try clear hcz15_1
           try clear hcz15_2
           try clear hcz16_0
           try clear hcz16_1
           try clear hcz16_2
           try clear hcz22_0
           try clear hcz22_1
           try clear hcz22_2
           try clear hcz5_0
           try clear hcz5_1
           try clear hcz5_2
           try clear hcz7_0
           try clear hcz7_1
           try clear hcz7_2
           try clear hcz9_0
           try clear hcz9_1
           try clear hcz9_2
           try clear hfz11_0
           try clear hfz11_1
           try clear hfz11_2
           try clear hfz12_0
           try clear hfz12_1
           try clear hfz12_2
           try clear hfz15_0
           try clear hfz15_1
           try clear hfz15_2
           try clear hfz16_0
           try clear hfz16_1
           try clear hfz16_2
           try clear hfz22_0
           try clear hfz22_1
           try clear hfz22_2
           try clear hfz5_0
           try clear hfz5_1
           try clear hfz5_2
           try clear hfz7_0
           try clear hfz7_1
           try clear hfz7_2
           try clear hfz9_0
           try clear hfz9_1
           try clear hfz9_2
           try clear hx120_0
           try clear hx120_1
           try clear hx120_2
           try clear hx120_3
           try clear hx120_4
           try clear hx120_5
           try clear hx120_6
           try clear hx122_0
           try clear hx122_1
           try clear hx122_2
           try clear hx122_3
           try clear hx122_4
           try clear hx122_5
           try clear hx122_6
           try clear hx123_0
           try clear hx123_1
           try clear hx123_2
           try clear hx123_3
           try clear hx123_4
           try clear hx123_5
           try clear hx123_6
           try clear p120
           try clear p122
           try clear p123
           try clear p2
           try clear q120
           try clear q122
           try clear q123
           obtain⟨kq,x69_20,rfl,HA,HJ20,BK119,HB⟩:=hcut
           cases kq with
           |zero=>exact absurd HA.out (by simp [ostinatoref05_Check.j2])
           |succ kj20=>
            have H:=HA.out
            clear HA
            simp only [ostinatoref05_Check.j2] at H
            by_cases c31:x69_20=true
            ·subst c31
             have H1:(some 10)=some r:=by rw [if_pos rfl] at H;exact H
             clear H
             have H:=H1
             clear H1
             obtain rfl:=Option.some.inj H
             go_wp2
             go_ret
             exact⟨by first|rfl|(simp [qao,qan]<;>rfl)|(simp [bneNil,bneNilU]<;>rfl)|(simp [*,qao,qan]<;>rfl),by repeat (first|(with_reducible first|exact HB.out|apply qae|apply qab|apply qad|refine qag ?_ GE119.out)|exact HB.out)⟩
            ·replace c31:=Bool.eq_false_iff.mpr c31
             subst c31
             have H1:(ostinatoref05_Check.l1 kj20 x3_2 0 a0_0 a0_1 l0_2)=some r:=by rw [if_neg (show ¬ (false=true) by decide)] at H;exact H
             clear H
             have H:=H1
             clear H1
             have H':=qaf.mk H
             clear H
             go_wp2
             go_loopg [5] kj20 (fun kq v5 w'=>∃ (x5_4:Int),v5=.int .i64 x5_4∧qaf (ostinatoref05_Check.l1 kq x3_2 x5_4 a0_0 a0_1 l0_2=some r)∧qaf (kq≤kj20)∧qaf (w'.heap[gb119]? = some (.cells #[.int .i64 a0_0,.int .i64 a0_1,(.slice (some ad120) l0_2.length c0_2)] 32 (0,0)))∧qaf (Below w.heap.size w w'))
             case atStart=>exact⟨(0),(by first|rfl|(simp;done)|(simp [*];done)),H',⟨Nat.le_refl _⟩,⟨by (with_reducible repeat (first|refine qah ?_ _|refine qaj ?_|refine qai ?_ _));exact BK119.out⟩,⟨by repeat (first|(with_reducible first|exact HB.out|apply qae|apply qab|apply qad|refine qag ?_ GE119.out)|exact HB.out)⟩⟩
             case round=>
              clear H'
              try clear c1
              try clear p1
              try clear q1
              try clear hx1
              try clear c2
              try clear p2
              try clear c3
              try clear c4
              try clear c4b0
              try clear c6
              try clear c6b0
              try clear p6
              try clear c8
              try clear c8b0
              try clear c10
              try clear c10b0
              try clear c12
              try clear p12
              try clear q12
              try clear hx12
              try clear c13
              try clear c14
              try clear c14b0
              try clear c14b1
              try clear c16
              try clear c17
              try clear c17b0
              try clear c18
              try clear c18b0
              try clear c20
              try clear c20b0
              try clear c20b1
              try clear c25
              try clear c25b0
              try clear c27
              try clear c27b0
              try clear c28
              try clear c28b0
              try clear c31
              try clear hcz11_0
              try clear hcz11_1
              try clear hcz11_2
              try clear hcz12_0
              try clear hcz12_1
              try clear hcz12_2
              try clear hcz15_0
              try clear hcz15_1
              try clear hcz15_2
              try clear hcz16_0
              try clear hcz16_1
              try clear hcz16_2
              try clear hcz22_0
              try clear hcz22_1
              try clear hcz22_2
              try clear hcz5_0
              try clear hcz5_1
              try clear hcz5_2
              try clear hcz7_0
              try clear hcz7_1
              try clear hcz7_2
              try clear hcz9_0
              try clear hcz9_1
              try clear hcz9_2
              try clear hfz11_0
              try clear hfz11_1
              try clear hfz11_2
              try clear hfz12_0
              try clear hfz12_1
              try clear hfz12_2
              try clear hfz15_0
              try clear hfz15_1
              try clear hfz15_2
              try clear hfz16_0
              try clear hfz16_1
              try clear hfz16_2
              try clear hfz22_0
              try clear hfz22_1
              try clear hfz22_2
              try clear hfz5_0
              try clear hfz5_1
              try clear hfz5_2
              try clear hfz7_0
              try clear hfz7_1
              try clear hfz7_2
              try clear hfz9_0
              try clear hfz9_1
              try clear hfz9_2
              try clear hx120_0
              try clear hx120_1
              try clear hx120_2
              try clear hx120_3
              try clear hx120_4
              try clear hx120_5
              try clear hx120_6
              try clear hx122_0
              try clear hx122_1
              try clear hx122_2
              try clear hx122_3
              try clear hx122_4
              try clear hx122_5
              try clear hx122_6
              try clear hx123_0
              try clear hx123_1
              try clear hx123_2
              try clear hx123_3
              try clear hx123_4
              try clear hx123_5
              try clear hx123_6
              try clear p1
              try clear p12
              try clear p120
              try clear p122
              try clear p123
              try clear p2
              try clear p6
              try clear q1
              try clear q12
              try clear q120
              try clear q122
              try clear q123
              obtain⟨x5_4,rfl,HA,HK4,BK119,HB⟩:=hrel
              cases gk with
              |zero=>exact absurd HA.out (by simp [ostinatoref05_Check.l1])
              |succ k4=>
               have H:=HA.out
               clear HA
               simp only [ostinatoref05_Check.l1] at H
               by_cases c32:x5_4<x3_2
               ·rw [if_pos c32] at H
                have c32b0:decide (x5_4<x3_2)=true:=decide_eq_true c32
                clear c32
                by_cases c33:0≤x5_4
                ·rw [if_pos c33] at H
                 have c33b0:decide (0≤x5_4)=true:=decide_eq_true c33
                 clear c33
                 by_cases c34:x5_4<(l0_2.length:Int)
                 ·rw [if_pos c34] at H
                  have c34b0:decide (x5_4<(l0_2.length:Int))=true:=decide_eq_true c34
                  clear c34
                  by_cases c35:0≤x3_2
                  ·rw [if_pos c35] at H
                   have c35b0:decide (0≤x3_2)=true:=decide_eq_true c35
                   clear c35
                   by_cases c36:x3_2<(l0_2.length:Int)
                   ·rw [if_pos c36] at H
                    have c36b0:decide (x3_2<(l0_2.length:Int))=true:=decide_eq_true c36
                    clear c36
                    by_cases c37:((qak l0_2 x5_4).f4)=((qak l0_2 x3_2).f4)
                    ·rw [if_pos c37] at H
                     have c37b0:(((qak l0_2 x5_4).f4) == ((qak l0_2 x3_2).f4))=true:=beq_iff_eq.mpr c37
                     have c37b1:(((qak l0_2 x5_4).f4) != ((qak l0_2 x3_2).f4))=false:=bne_eq_false_iff_eq.mpr c37
                     clear c37
                     obtain rfl:=Option.some.inj H
                     try go_wp2
                     have n0_:=qaf.mk (qaj BK119.out)
                     have n1_:=qaf.mk (qad HB.out)
                     clear BK119
                     clear HB
                     have BK119:=n0_
                     have HB:=n1_
                     clear n0_ n1_
                     have p124:0≤(x5_4:Int):=of_decide_eq_true (by first|(with_reducible assumption)|assumption)
                     have q124:x5_4<(l0_2.length:Int):=of_decide_eq_true (by first|(with_reducible assumption)|assumption)
                     obtain⟨ad124,A124_5,c124_5,A124_6,c124_6,e124,hx124_0,hx124_1,hx124_2,hx124_3,hx124_4,hx124_5,hx124_6,hl124_5,hi124_5,hl124_6,hi124_6⟩:=at_T52 HR0_2.out x5_4 p124 q124
                     have hw124_6:=hx124_6
                     have hw124_5:=hx124_5
                     have hw124_4:=hx124_4
                     have hw124_3:=hx124_3
                     have hw124_2:=hx124_2
                     have hw124_1:=hx124_1
                     have hw124_0:=hx124_0
                     obtain rfl:ad120=ad124:=(by injection e124)
                     replace hx124_0:=(HB.out.cell (bLt w _ hx124_0)).trans hx124_0
                     replace hx124_1:=(HB.out.cell (bLt w _ hx124_1)).trans hx124_1
                     replace hx124_2:=(HB.out.cell (bLt w _ hx124_2)).trans hx124_2
                     replace hx124_3:=(HB.out.cell (bLt w _ hx124_3)).trans hx124_3
                     replace hx124_4:=(HB.out.cell (bLt w _ hx124_4)).trans hx124_4
                     replace hx124_5:=(HB.out.cell (bLt w _ hx124_5)).trans hx124_5
                     replace hx124_6:=(HB.out.cell (bLt w _ hx124_6)).trans hx124_6
                     have HR124_5:=qaf.mk hi124_5
                     have HC124_5:=qaf.mk hl124_5
                     clear hi124_5 hl124_5
                     have HR124_6:=qaf.mk hi124_6
                     have HC124_6:=qaf.mk hl124_6
                     clear hi124_6 hl124_6
                     replace p124:=eq_true p124
                     replace q124:=eq_true q124
                     have p125:0≤(x3_2:Int):=of_decide_eq_true (by first|(with_reducible assumption)|assumption)
                     have q125:x3_2<(l0_2.length:Int):=of_decide_eq_true (by first|(with_reducible assumption)|assumption)
                     obtain⟨ad125,A125_5,c125_5,A125_6,c125_6,e125,hx125_0,hx125_1,hx125_2,hx125_3,hx125_4,hx125_5,hx125_6,hl125_5,hi125_5,hl125_6,hi125_6⟩:=at_T52 HR0_2.out x3_2 p125 q125
                     have hw125_6:=hx125_6
                     have hw125_5:=hx125_5
                     have hw125_4:=hx125_4
                     have hw125_3:=hx125_3
                     have hw125_2:=hx125_2
                     have hw125_1:=hx125_1
                     have hw125_0:=hx125_0
                     obtain rfl:ad120=ad125:=(by injection e125)
                     replace hx125_0:=(HB.out.cell (bLt w _ hx125_0)).trans hx125_0
                     replace hx125_1:=(HB.out.cell (bLt w _ hx125_1)).trans hx125_1
                     replace hx125_2:=(HB.out.cell (bLt w _ hx125_2)).trans hx125_2
                     replace hx125_3:=(HB.out.cell (bLt w _ hx125_3)).trans hx125_3
                     replace hx125_4:=(HB.out.cell (bLt w _ hx125_4)).trans hx125_4
                     replace hx125_5:=(HB.out.cell (bLt w _ hx125_5)).trans hx125_5
                     replace hx125_6:=(HB.out.cell (bLt w _ hx125_6)).trans hx125_6
                     have HR125_5:=qaf.mk hi125_5
                     have HC125_5:=qaf.mk hl125_5
                     clear hi125_5 hl125_5
                     have HR125_6:=qaf.mk hi125_6
                     have HC125_6:=qaf.mk hl125_6
                     clear hi125_6 hl125_6
                     replace p125:=eq_true p125
                     replace q125:=eq_true q125
                     refine start_ (n:=13) (S:=fun w'=>w'.cell? ⟨gb119,0,none⟩=some (.int .i64 a0_0)∧w'.cell? ⟨gb119,1,none⟩=some (.int .i64 a0_1)∧w'.cell? ⟨gb119,2,none⟩=some (.slice (some ad120) l0_2.length c0_2)∧w'.cell? (ad120.add ((x5_4).toNat * 7))=some (.int .i64 ((qak l0_2 x5_4).f0))∧w'.cell? ⟨(ad120.add ((x5_4).toNat * 7)).block,(ad120.add ((x5_4).toNat * 7)).off+1,none⟩=some (.int .i64 ((qak l0_2 x5_4).f1))∧w'.cell? ⟨(ad120.add ((x5_4).toNat * 7)).block,(ad120.add ((x5_4).toNat * 7)).off+2,none⟩=some (.int .i64 ((qak l0_2 x5_4).f2))∧w'.cell? ⟨(ad120.add ((x5_4).toNat * 7)).block,(ad120.add ((x5_4).toNat * 7)).off+3,none⟩=some (.int .i64 ((qak l0_2 x5_4).f3))∧w'.cell? ⟨(ad120.add ((x5_4).toNat * 7)).block,(ad120.add ((x5_4).toNat * 7)).off+4,none⟩=some (.int .i64 ((qak l0_2 x5_4).f4))∧w'.cell? ⟨(ad120.add ((x5_4).toNat * 7)).block,(ad120.add ((x5_4).toNat * 7)).off+5,none⟩=some (.slice A124_5 ((qak l0_2 x5_4).f5).length c124_5)∧w'.cell? ⟨(ad120.add ((x5_4).toNat * 7)).block,(ad120.add ((x5_4).toNat * 7)).off+6,none⟩=some (.slice A124_6 ((qak l0_2 x5_4).f6).length c124_6)∧w'.cell? (ad120.add ((x3_2).toNat * 7))=some (.int .i64 ((qak l0_2 x3_2).f0))∧w'.cell? ⟨(ad120.add ((x3_2).toNat * 7)).block,(ad120.add ((x3_2).toNat * 7)).off+1,none⟩=some (.int .i64 ((qak l0_2 x3_2).f1))∧w'.cell? ⟨(ad120.add ((x3_2).toNat * 7)).block,(ad120.add ((x3_2).toNat * 7)).off+2,none⟩=some (.int .i64 ((qak l0_2 x3_2).f2))∧w'.cell? ⟨(ad120.add ((x3_2).toNat * 7)).block,(ad120.add ((x3_2).toNat * 7)).off+3,none⟩=some (.int .i64 ((qak l0_2 x3_2).f3))∧w'.cell? ⟨(ad120.add ((x3_2).toNat * 7)).block,(ad120.add ((x3_2).toNat * 7)).off+4,none⟩=some (.int .i64 ((qak l0_2 x3_2).f4))∧w'.cell? ⟨(ad120.add ((x3_2).toNat * 7)).block,(ad120.add ((x3_2).toNat * 7)).off+5,none⟩=some (.slice A125_5 ((qak l0_2 x3_2).f5).length c125_5)∧w'.cell? ⟨(ad120.add ((x3_2).toNat * 7)).block,(ad120.add ((x3_2).toNat * 7)).off+6,none⟩=some (.slice A125_6 ((qak l0_2 x3_2).f6).length c125_6)) (ds:=[]) #[false,false,false,false,false,false,false,false,false,false,false,false,false] (by kernel_rfl) rfl rfl ⟨(qac BK119.out 0).trans rfl,(qac BK119.out 1).trans rfl,(qac BK119.out 2).trans rfl,((HB.out.cell (bLt w _ hw124_0)).trans hw124_0),((HB.out.cell (bLt w _ hw124_1)).trans hw124_1),((HB.out.cell (bLt w _ hw124_2)).trans hw124_2),((HB.out.cell (bLt w _ hw124_3)).trans hw124_3),((HB.out.cell (bLt w _ hw124_4)).trans hw124_4),((HB.out.cell (bLt w _ hw124_5)).trans hw124_5),((HB.out.cell (bLt w _ hw124_6)).trans hw124_6),((HB.out.cell (bLt w _ hw125_0)).trans hw125_0),((HB.out.cell (bLt w _ hw125_1)).trans hw125_1),((HB.out.cell (bLt w _ hw125_2)).trans hw125_2),((HB.out.cell (bLt w _ hw125_3)).trans hw125_3),((HB.out.cell (bLt w _ hw125_4)).trans hw125_4),((HB.out.cell (bLt w _ hw125_5)).trans hw125_5),((HB.out.cell (bLt w _ hw125_6)).trans hw125_6)⟩ (fun hHeld=>?_);refine with_tabW ostinatoref05_Check.tab16 ostinatoref05_Check.bits16 (fun HT_ HW_=>?_)
                     generalize wr.drew=w38 at BK119 HB HR124_5 HR124_6 HR125_5 HR125_6 hx124_0 hx124_1 hx124_2 hx124_3 hx124_4 hx124_5 hx124_6 hx125_0 hx125_1 hx125_2 hx125_3 hx125_4 hx125_5 hx125_6 hHeld ⊢
                     refine qaE (i:=0) (N:=some 75) (v:=?_) (a':=?_) #[true,false,false,false,false,false,false,false,false,false,false,false,false] rfl rfl (qax HT_.out (by kernel_rfl)) (fun _ _ _ h=>h) (Or.inl ⟨by rfl,?_⟩) ?_ ?_
                     rotate_left
                     ·intro w'
                      go_simp
                      with_reducible rfl
                     rotate_left
                     ·simp only [Act.put,List.setIfInBounds_toArray,List.set_cons_zero,List.set_cons_succ,qav,qaw]
                      rfl
                     refine qaE (i:=2) (N:=some 77) (v:=?_) (a':=?_) #[true,false,true,false,false,false,false,false,false,false,false,false,false] rfl rfl (qax HT_.out (by kernel_rfl)) (fun _ _ _ h=>h) (Or.inl ⟨by rfl,?_⟩) ?_ ?_
                     rotate_left
                     ·intro w'
                      go_simp
                      with_reducible rfl
                     rotate_left
                     ·simp only [Act.put,List.setIfInBounds_toArray,List.set_cons_zero,List.set_cons_succ,qav,qaw]
                      rfl
                     refine qaE (i:=6) (N:=some 81) (v:=?_) (a':=?_) #[true,false,true,false,false,false,true,false,false,false,false,false,false] rfl rfl (qax HT_.out (by kernel_rfl)) (fun _ _ _ h=>h) (Or.inl ⟨by rfl,?_⟩) ?_ ?_
                     rotate_left
                     ·intro w'
                      go_simp
                      with_reducible rfl
                     rotate_left
                     ·simp only [Act.put,List.setIfInBounds_toArray,List.set_cons_zero,List.set_cons_succ,qav,qaw]
                      rfl
                     refine qaE (i:=8) (N:=some 83) (v:=?_) (a':=?_) #[true,false,true,false,false,false,true,false,true,false,false,false,false] rfl rfl (qax HT_.out (by kernel_rfl)) (fun _ _ _ h=>h) (Or.inl ⟨by rfl,?_⟩) ?_ ?_
                     rotate_left
                     ·intro w'
                      go_simp
                      with_reducible rfl
                     rotate_left
                     ·simp only [Act.put,List.setIfInBounds_toArray,List.set_cons_zero,List.set_cons_succ,qav,qaw]
                      rfl
                     refine take_ (i:=1) (N:=some 76) (v:=?_) (a':=?_) #[true,true,true,false,false,false,true,false,true,false,false,false,false] rfl rfl (qaH HT_.out HW_.out (by kernel_rfl)) (fun _ _ _ h=>h) (Or.inl ⟨by rfl,?_⟩) hHeld ?_ ?_
                     rotate_left
                     ·rintro w' ⟨s0,s1,s2,s3,s4,s5,s6,s7,s8,s9,s10,s11,s12,s13,s14,s15,s16⟩
                      go_simp
                      with_reducible rfl
                     rotate_left
                     ·simp only [Act.put,List.setIfInBounds_toArray,List.set_cons_zero,List.set_cons_succ,qav,qaw]
                      rfl
                     refine qaE (i:=3) (N:=some 78) (v:=?_) (a':=?_) #[true,true,true,true,false,false,true,false,true,false,false,false,false] rfl rfl (qax HT_.out (by kernel_rfl)) (fun _ _ _ h=>h) (Or.inl ⟨by rfl,?_⟩) ?_ ?_
                     rotate_left
                     ·intro w'
                      go_simp
                      with_reducible rfl
                     rotate_left
                     ·simp only [Act.put,List.setIfInBounds_toArray,List.set_cons_zero,List.set_cons_succ,qav,qaw]
                      rfl
                     refine qaE (i:=4) (N:=some 79) (v:=?_) (a':=?_) #[true,true,true,true,true,false,true,false,true,false,false,false,false] rfl rfl (qax HT_.out (by kernel_rfl)) (fun _ _ _ h=>h) (Or.inl ⟨by rfl,?_⟩) ?_ ?_
                     rotate_left
                     ·intro w'
                      go_simp
                      with_reducible rfl
                     rotate_left
                     ·simp only [Act.put,List.setIfInBounds_toArray,List.set_cons_zero,List.set_cons_succ,qav,qaw]
                      rfl
                     refine take_ (i:=5) (N:=some 80) (v:=?_) (a':=?_) #[true,true,true,true,true,true,true,false,true,false,false,false,false] rfl rfl (qaH HT_.out HW_.out (by kernel_rfl)) (fun _ _ _ h=>h) (Or.inl ⟨by rfl,?_⟩) hHeld ?_ ?_
                     rotate_left
                     ·rintro w' ⟨s0,s1,s2,s3,s4,s5,s6,s7,s8,s9,s10,s11,s12,s13,s14,s15,s16⟩
                      go_simp
                      with_reducible rfl
                     rotate_left
                     ·simp only [Act.put,List.setIfInBounds_toArray,List.set_cons_zero,List.set_cons_succ,qav,qaw]
                      rfl
                     refine take_ (i:=7) (N:=some 82) (v:=?_) (a':=?_) #[true,true,true,true,true,true,true,true,true,false,false,false,false] rfl rfl (qaH HT_.out HW_.out (by kernel_rfl)) (fun _ _ _ h=>h) (Or.inl ⟨by rfl,?_⟩) hHeld ?_ ?_
                     rotate_left
                     ·rintro w' ⟨s0,s1,s2,s3,s4,s5,s6,s7,s8,s9,s10,s11,s12,s13,s14,s15,s16⟩
                      go_simp
                      with_reducible rfl
                     rotate_left
                     ·simp only [Act.put,List.setIfInBounds_toArray,List.set_cons_zero,List.set_cons_succ,qav,qaw]
                      rfl
                     refine qaE (i:=9) (N:=some 84) (v:=?_) (a':=?_) #[true,true,true,true,true,true,true,true,true,true,false,false,false] rfl rfl (qax HT_.out (by kernel_rfl)) (fun _ _ _ h=>h) (Or.inl ⟨by rfl,?_⟩) ?_ ?_
                     rotate_left
                     ·intro w'
                      go_simp
                      with_reducible rfl
                     rotate_left
                     ·simp only [Act.put,List.setIfInBounds_toArray,List.set_cons_zero,List.set_cons_succ,qav,qaw]
                      rfl
                     refine qaE (i:=10) (N:=some 85) (v:=?_) (a':=?_) #[true,true,true,true,true,true,true,true,true,true,true,false,false] rfl rfl (qax HT_.out (by kernel_rfl)) (fun _ _ _ h=>h) (Or.inl ⟨by rfl,?_⟩) ?_ ?_
                     rotate_left
                     ·intro w'
                      go_simp
                      with_reducible rfl
                     rotate_left
                     ·simp only [Act.put,List.setIfInBounds_toArray,List.set_cons_zero,List.set_cons_succ,qav,qaw]
                      rfl
                     refine take_ (i:=11) (N:=some 86) (v:=?_) (a':=?_) #[true,true,true,true,true,true,true,true,true,true,true,true,false] rfl rfl (qaH HT_.out HW_.out (by kernel_rfl)) (fun _ _ _ h=>h) (Or.inl ⟨by rfl,?_⟩) hHeld ?_ ?_
                     rotate_left
                     ·rintro w' ⟨s0,s1,s2,s3,s4,s5,s6,s7,s8,s9,s10,s11,s12,s13,s14,s15,s16⟩
                      go_simp
                      with_reducible rfl
                     rotate_left
                     ·simp only [Act.put,List.setIfInBounds_toArray,List.set_cons_zero,List.set_cons_succ,qav,qaw]
                      rfl
                     refine qaE (i:=12) (N:=some 87) (v:=?_) (a':=?_) #[true,true,true,true,true,true,true,true,true,true,true,true,true] rfl rfl (qax HT_.out (by kernel_rfl)) (fun _ _ _ h=>h) (Or.inl ⟨by rfl,?_⟩) ?_ ?_
                     rotate_left
                     ·intro w'
                      go_simp
                      with_reducible rfl
                     rotate_left
                     ·simp only [Act.put,List.setIfInBounds_toArray,List.set_cons_zero,List.set_cons_succ,qav,qaw]
                      rfl
                     refine done_ (done_of HT_.out (by kernel_rfl)) ?_
                     try go_wp2
                     go_ret
                     exact⟨by first|rfl|(simp [qao,qan]<;>rfl)|(simp [bneNil,bneNilU]<;>rfl)|(simp [*,qao,qan]<;>rfl),by repeat (first|(with_reducible first|exact HB.out|apply qae|apply qab|apply qad|refine qag ?_ GE119.out)|exact HB.out)⟩
                    ·rw [if_neg c37] at H
                     have c37b0:(((qak l0_2 x5_4).f4) == ((qak l0_2 x3_2).f4))=false:=beq_eq_false_iff_ne.mpr c37
                     have c37b1:(((qak l0_2 x5_4).f4) != ((qak l0_2 x3_2).f4))=true:=bne_iff_ne.mpr c37
                     have H':=qaf.mk H
                     clear H
                     try go_wp2
                     have n0_:=qaf.mk (qaj BK119.out)
                     have n1_:=qaf.mk (qad HB.out)
                     clear BK119
                     clear HB
                     have BK119:=n0_
                     have HB:=n1_
                     clear n0_ n1_
                     have p124:0≤(x5_4:Int):=of_decide_eq_true (by first|(with_reducible assumption)|assumption)
                     have q124:x5_4<(l0_2.length:Int):=of_decide_eq_true (by first|(with_reducible assumption)|assumption)
                     obtain⟨ad124,A124_5,c124_5,A124_6,c124_6,e124,hx124_0,hx124_1,hx124_2,hx124_3,hx124_4,hx124_5,hx124_6,hl124_5,hi124_5,hl124_6,hi124_6⟩:=at_T52 HR0_2.out x5_4 p124 q124
                     have hw124_6:=hx124_6
                     have hw124_5:=hx124_5
                     have hw124_4:=hx124_4
                     have hw124_3:=hx124_3
                     have hw124_2:=hx124_2
                     have hw124_1:=hx124_1
                     have hw124_0:=hx124_0
                     obtain rfl:ad120=ad124:=(by injection e124)
                     replace hx124_0:=(HB.out.cell (bLt w _ hx124_0)).trans hx124_0
                     replace hx124_1:=(HB.out.cell (bLt w _ hx124_1)).trans hx124_1
                     replace hx124_2:=(HB.out.cell (bLt w _ hx124_2)).trans hx124_2
                     replace hx124_3:=(HB.out.cell (bLt w _ hx124_3)).trans hx124_3
                     replace hx124_4:=(HB.out.cell (bLt w _ hx124_4)).trans hx124_4
                     replace hx124_5:=(HB.out.cell (bLt w _ hx124_5)).trans hx124_5
                     replace hx124_6:=(HB.out.cell (bLt w _ hx124_6)).trans hx124_6
                     have HR124_5:=qaf.mk hi124_5
                     have HC124_5:=qaf.mk hl124_5
                     clear hi124_5 hl124_5
                     have HR124_6:=qaf.mk hi124_6
                     have HC124_6:=qaf.mk hl124_6
                     clear hi124_6 hl124_6
                     replace p124:=eq_true p124
                     replace q124:=eq_true q124
                     have p125:0≤(x3_2:Int):=of_decide_eq_true (by first|(with_reducible assumption)|assumption)
                     have q125:x3_2<(l0_2.length:Int):=of_decide_eq_true (by first|(with_reducible assumption)|assumption)
                     obtain⟨ad125,A125_5,c125_5,A125_6,c125_6,e125,hx125_0,hx125_1,hx125_2,hx125_3,hx125_4,hx125_5,hx125_6,hl125_5,hi125_5,hl125_6,hi125_6⟩:=at_T52 HR0_2.out x3_2 p125 q125
                     have hw125_6:=hx125_6
                     have hw125_5:=hx125_5
                     have hw125_4:=hx125_4
                     have hw125_3:=hx125_3
                     have hw125_2:=hx125_2
                     have hw125_1:=hx125_1
                     have hw125_0:=hx125_0
                     obtain rfl:ad120=ad125:=(by injection e125)
                     replace hx125_0:=(HB.out.cell (bLt w _ hx125_0)).trans hx125_0
                     replace hx125_1:=(HB.out.cell (bLt w _ hx125_1)).trans hx125_1
                     replace hx125_2:=(HB.out.cell (bLt w _ hx125_2)).trans hx125_2
                     replace hx125_3:=(HB.out.cell (bLt w _ hx125_3)).trans hx125_3
                     replace hx125_4:=(HB.out.cell (bLt w _ hx125_4)).trans hx125_4
                     replace hx125_5:=(HB.out.cell (bLt w _ hx125_5)).trans hx125_5
                     replace hx125_6:=(HB.out.cell (bLt w _ hx125_6)).trans hx125_6
                     have HR125_5:=qaf.mk hi125_5
                     have HC125_5:=qaf.mk hl125_5
                     clear hi125_5 hl125_5
                     have HR125_6:=qaf.mk hi125_6
                     have HC125_6:=qaf.mk hl125_6
                     clear hi125_6 hl125_6
                     replace p125:=eq_true p125
                     replace q125:=eq_true q125
                     refine start_ (n:=13) (S:=fun w'=>w'.cell? ⟨gb119,0,none⟩=some (.int .i64 a0_0)∧w'.cell? ⟨gb119,1,none⟩=some (.int .i64 a0_1)∧w'.cell? ⟨gb119,2,none⟩=some (.slice (some ad120) l0_2.length c0_2)∧w'.cell? (ad120.add ((x5_4).toNat * 7))=some (.int .i64 ((qak l0_2 x5_4).f0))∧w'.cell? ⟨(ad120.add ((x5_4).toNat * 7)).block,(ad120.add ((x5_4).toNat * 7)).off+1,none⟩=some (.int .i64 ((qak l0_2 x5_4).f1))∧w'.cell? ⟨(ad120.add ((x5_4).toNat * 7)).block,(ad120.add ((x5_4).toNat * 7)).off+2,none⟩=some (.int .i64 ((qak l0_2 x5_4).f2))∧w'.cell? ⟨(ad120.add ((x5_4).toNat * 7)).block,(ad120.add ((x5_4).toNat * 7)).off+3,none⟩=some (.int .i64 ((qak l0_2 x5_4).f3))∧w'.cell? ⟨(ad120.add ((x5_4).toNat * 7)).block,(ad120.add ((x5_4).toNat * 7)).off+4,none⟩=some (.int .i64 ((qak l0_2 x5_4).f4))∧w'.cell? ⟨(ad120.add ((x5_4).toNat * 7)).block,(ad120.add ((x5_4).toNat * 7)).off+5,none⟩=some (.slice A124_5 ((qak l0_2 x5_4).f5).length c124_5)∧w'.cell? ⟨(ad120.add ((x5_4).toNat * 7)).block,(ad120.add ((x5_4).toNat * 7)).off+6,none⟩=some (.slice A124_6 ((qak l0_2 x5_4).f6).length c124_6)∧w'.cell? (ad120.add ((x3_2).toNat * 7))=some (.int .i64 ((qak l0_2 x3_2).f0))∧w'.cell? ⟨(ad120.add ((x3_2).toNat * 7)).block,(ad120.add ((x3_2).toNat * 7)).off+1,none⟩=some (.int .i64 ((qak l0_2 x3_2).f1))∧w'.cell? ⟨(ad120.add ((x3_2).toNat * 7)).block,(ad120.add ((x3_2).toNat * 7)).off+2,none⟩=some (.int .i64 ((qak l0_2 x3_2).f2))∧w'.cell? ⟨(ad120.add ((x3_2).toNat * 7)).block,(ad120.add ((x3_2).toNat * 7)).off+3,none⟩=some (.int .i64 ((qak l0_2 x3_2).f3))∧w'.cell? ⟨(ad120.add ((x3_2).toNat * 7)).block,(ad120.add ((x3_2).toNat * 7)).off+4,none⟩=some (.int .i64 ((qak l0_2 x3_2).f4))∧w'.cell? ⟨(ad120.add ((x3_2).toNat * 7)).block,(ad120.add ((x3_2).toNat * 7)).off+5,none⟩=some (.slice A125_5 ((qak l0_2 x3_2).f5).length c125_5)∧w'.cell? ⟨(ad120.add ((x3_2).toNat * 7)).block,(ad120.add ((x3_2).toNat * 7)).off+6,none⟩=some (.slice A125_6 ((qak l0_2 x3_2).f6).length c125_6)) (ds:=[]) #[false,false,false,false,false,false,false,false,false,false,false,false,false] (by kernel_rfl) rfl rfl ⟨(qac BK119.out 0).trans rfl,(qac BK119.out 1).trans rfl,(qac BK119.out 2).trans rfl,((HB.out.cell (bLt w _ hw124_0)).trans hw124_0),((HB.out.cell (bLt w _ hw124_1)).trans hw124_1),((HB.out.cell (bLt w _ hw124_2)).trans hw124_2),((HB.out.cell (bLt w _ hw124_3)).trans hw124_3),((HB.out.cell (bLt w _ hw124_4)).trans hw124_4),((HB.out.cell (bLt w _ hw124_5)).trans hw124_5),((HB.out.cell (bLt w _ hw124_6)).trans hw124_6),((HB.out.cell (bLt w _ hw125_0)).trans hw125_0),((HB.out.cell (bLt w _ hw125_1)).trans hw125_1),((HB.out.cell (bLt w _ hw125_2)).trans hw125_2),((HB.out.cell (bLt w _ hw125_3)).trans hw125_3),((HB.out.cell (bLt w _ hw125_4)).trans hw125_4),((HB.out.cell (bLt w _ hw125_5)).trans hw125_5),((HB.out.cell (bLt w _ hw125_6)).trans hw125_6)⟩ (fun hHeld=>?_);refine with_tabW ostinatoref05_Check.tab16 ostinatoref05_Check.bits16 (fun HT_ HW_=>?_)
                     generalize wr.drew=w39 at BK119 HB HR124_5 HR124_6 HR125_5 HR125_6 hx124_0 hx124_1 hx124_2 hx124_3 hx124_4 hx124_5 hx124_6 hx125_0 hx125_1 hx125_2 hx125_3 hx125_4 hx125_5 hx125_6 hHeld ⊢
                     refine qaE (i:=0) (N:=some 75) (v:=?_) (a':=?_) #[true,false,false,false,false,false,false,false,false,false,false,false,false] rfl rfl (qax HT_.out (by kernel_rfl)) (fun _ _ _ h=>h) (Or.inl ⟨by rfl,?_⟩) ?_ ?_
                     rotate_left
                     ·intro w'
                      go_simp
                      with_reducible rfl
                     rotate_left
                     ·simp only [Act.put,List.setIfInBounds_toArray,List.set_cons_zero,List.set_cons_succ,qav,qaw]
                      rfl
                     refine qaE (i:=2) (N:=some 77) (v:=?_) (a':=?_) #[true,false,true,false,false,false,false,false,false,false,false,false,false] rfl rfl (qax HT_.out (by kernel_rfl)) (fun _ _ _ h=>h) (Or.inl ⟨by rfl,?_⟩) ?_ ?_
                     rotate_left
                     ·intro w'
                      go_simp
                      with_reducible rfl
                     rotate_left
                     ·simp only [Act.put,List.setIfInBounds_toArray,List.set_cons_zero,List.set_cons_succ,qav,qaw]
                      rfl
                     refine qaE (i:=6) (N:=some 81) (v:=?_) (a':=?_) #[true,false,true,false,false,false,true,false,false,false,false,false,false] rfl rfl (qax HT_.out (by kernel_rfl)) (fun _ _ _ h=>h) (Or.inl ⟨by rfl,?_⟩) ?_ ?_
                     rotate_left
                     ·intro w'
                      go_simp
                      with_reducible rfl
                     rotate_left
                     ·simp only [Act.put,List.setIfInBounds_toArray,List.set_cons_zero,List.set_cons_succ,qav,qaw]
                      rfl
                     refine qaE (i:=8) (N:=some 83) (v:=?_) (a':=?_) #[true,false,true,false,false,false,true,false,true,false,false,false,false] rfl rfl (qax HT_.out (by kernel_rfl)) (fun _ _ _ h=>h) (Or.inl ⟨by rfl,?_⟩) ?_ ?_
                     rotate_left
                     ·intro w'
                      go_simp
                      with_reducible rfl
                     rotate_left
                     ·simp only [Act.put,List.setIfInBounds_toArray,List.set_cons_zero,List.set_cons_succ,qav,qaw]
                      rfl
                     refine take_ (i:=1) (N:=some 76) (v:=?_) (a':=?_) #[true,true,true,false,false,false,true,false,true,false,false,false,false] rfl rfl (qaH HT_.out HW_.out (by kernel_rfl)) (fun _ _ _ h=>h) (Or.inl ⟨by rfl,?_⟩) hHeld ?_ ?_
                     rotate_left
                     ·rintro w' ⟨s0,s1,s2,s3,s4,s5,s6,s7,s8,s9,s10,s11,s12,s13,s14,s15,s16⟩
                      go_simp
                      with_reducible rfl
                     rotate_left
                     ·simp only [Act.put,List.setIfInBounds_toArray,List.set_cons_zero,List.set_cons_succ,qav,qaw]
                      rfl
                     refine qaE (i:=3) (N:=some 78) (v:=?_) (a':=?_) #[true,true,true,true,false,false,true,false,true,false,false,false,false] rfl rfl (qax HT_.out (by kernel_rfl)) (fun _ _ _ h=>h) (Or.inl ⟨by rfl,?_⟩) ?_ ?_
                     rotate_left
                     ·intro w'
                      go_simp
                      with_reducible rfl
                     rotate_left
                     ·simp only [Act.put,List.setIfInBounds_toArray,List.set_cons_zero,List.set_cons_succ,qav,qaw]
                      rfl
                     refine qaE (i:=4) (N:=some 79) (v:=?_) (a':=?_) #[true,true,true,true,true,false,true,false,true,false,false,false,false] rfl rfl (qax HT_.out (by kernel_rfl)) (fun _ _ _ h=>h) (Or.inl ⟨by rfl,?_⟩) ?_ ?_
                     rotate_left
                     ·intro w'
                      go_simp
                      with_reducible rfl
                     rotate_left
                     ·simp only [Act.put,List.setIfInBounds_toArray,List.set_cons_zero,List.set_cons_succ,qav,qaw]
                      rfl
                     refine take_ (i:=5) (N:=some 80) (v:=?_) (a':=?_) #[true,true,true,true,true,true,true,false,true,false,false,false,false] rfl rfl (qaH HT_.out HW_.out (by kernel_rfl)) (fun _ _ _ h=>h) (Or.inl ⟨by rfl,?_⟩) hHeld ?_ ?_
                     rotate_left
                     ·rintro w' ⟨s0,s1,s2,s3,s4,s5,s6,s7,s8,s9,s10,s11,s12,s13,s14,s15,s16⟩
                      go_simp
                      with_reducible rfl
                     rotate_left
                     ·simp only [Act.put,List.setIfInBounds_toArray,List.set_cons_zero,List.set_cons_succ,qav,qaw]
                      rfl
                     refine take_ (i:=7) (N:=some 82) (v:=?_) (a':=?_) #[true,true,true,true,true,true,true,true,true,false,false,false,false] rfl rfl (qaH HT_.out HW_.out (by kernel_rfl)) (fun _ _ _ h=>h) (Or.inl ⟨by rfl,?_⟩) hHeld ?_ ?_
                     rotate_left
                     ·rintro w' ⟨s0,s1,s2,s3,s4,s5,s6,s7,s8,s9,s10,s11,s12,s13,s14,s15,s16⟩
                      go_simp
                      with_reducible rfl
                     rotate_left
                     ·simp only [Act.put,List.setIfInBounds_toArray,List.set_cons_zero,List.set_cons_succ,qav,qaw]
                      rfl
                     refine qaE (i:=9) (N:=some 84) (v:=?_) (a':=?_) #[true,true,true,true,true,true,true,true,true,true,false,false,false] rfl rfl (qax HT_.out (by kernel_rfl)) (fun _ _ _ h=>h) (Or.inl ⟨by rfl,?_⟩) ?_ ?_
                     rotate_left
                     ·intro w'
                      go_simp
                      with_reducible rfl
                     rotate_left
                     ·simp only [Act.put,List.setIfInBounds_toArray,List.set_cons_zero,List.set_cons_succ,qav,qaw]
                      rfl
                     refine qaE (i:=10) (N:=some 85) (v:=?_) (a':=?_) #[true,true,true,true,true,true,true,true,true,true,true,false,false] rfl rfl (qax HT_.out (by kernel_rfl)) (fun _ _ _ h=>h) (Or.inl ⟨by rfl,?_⟩) ?_ ?_
                     rotate_left
                     ·intro w'
                      go_simp
                      with_reducible rfl
                     rotate_left
                     ·simp only [Act.put,List.setIfInBounds_toArray,List.set_cons_zero,List.set_cons_succ,qav,qaw]
                      rfl
                     refine take_ (i:=11) (N:=some 86) (v:=?_) (a':=?_) #[true,true,true,true,true,true,true,true,true,true,true,true,false] rfl rfl (qaH HT_.out HW_.out (by kernel_rfl)) (fun _ _ _ h=>h) (Or.inl ⟨by rfl,?_⟩) hHeld ?_ ?_
                     rotate_left
                     ·rintro w' ⟨s0,s1,s2,s3,s4,s5,s6,s7,s8,s9,s10,s11,s12,s13,s14,s15,s16⟩
                      go_simp
                      with_reducible rfl
                     rotate_left
                     ·simp only [Act.put,List.setIfInBounds_toArray,List.set_cons_zero,List.set_cons_succ,qav,qaw]
                      rfl
                     refine qaE (i:=12) (N:=some 87) (v:=?_) (a':=?_) #[true,true,true,true,true,true,true,true,true,true,true,true,true] rfl rfl (qax HT_.out (by kernel_rfl)) (fun _ _ _ h=>h) (Or.inl ⟨by rfl,?_⟩) ?_ ?_
                     rotate_left
                     ·intro w'
                      go_simp
                      with_reducible rfl
                     rotate_left
                     ·simp only [Act.put,List.setIfInBounds_toArray,List.set_cons_zero,List.set_cons_succ,qav,qaw]
                      rfl
                     refine done_ (done_of HT_.out (by kernel_rfl)) ?_
                     try go_wp2
                     go_roundg k4
                     case measure=>have:=HJ1.out;have:=HK2.out;have:=HJ20.out;have:=HK4.out;omega
                     case rel=>exact⟨(wrap64 (x5_4+1)),(by first|rfl|(simp;done)|(simp [*];done)),H',⟨by have:=HJ1.out;have:=HK2.out;have:=HJ20.out;have:=HK4.out;omega⟩,⟨by (with_reducible repeat (first|refine qah ?_ _|refine qaj ?_|refine qai ?_ _));exact BK119.out⟩,⟨by repeat (first|(with_reducible first|exact HB.out|apply qae|apply qab|apply qad|refine qag ?_ GE119.out)|exact HB.out)⟩⟩
                   ·rw [if_neg c36] at H
                    exact absurd H (by simp)
                  ·rw [if_neg c35] at H
                   exact absurd H (by simp)
                 ·rw [if_neg c34] at H
                  exact absurd H (by simp)
                ·rw [if_neg c33] at H
                 exact absurd H (by simp)
               ·rw [if_neg c32] at H
                have c32b0:decide (x5_4<x3_2)=false:=decide_eq_false c32
                clear c32
                have H':=qaf.mk H
                clear H
                go_wp2
                go_roundg k4
                case measure=>have:=HJ1.out;have:=HK2.out;have:=HJ20.out;have:=HK4.out;omega
                case rel=>exact⟨(wrap64 (x3_2+1)),(by first|rfl|(simp;done)|(simp [*];done)),H',⟨by have:=HJ1.out;have:=HK2.out;have:=HJ20.out;have:=HK4.out;omega⟩,⟨by (with_reducible repeat (first|refine qah ?_ _|refine qaj ?_|refine qai ?_ _));exact BK119.out⟩,⟨by repeat (first|(with_reducible first|exact HB.out|apply qae|apply qab|apply qad|refine qag ?_ GE119.out)|exact HB.out)⟩⟩
         ·rw [if_neg c20] at H
          have c20b0:(t121 == 0)=false:=beq_eq_false_iff_ne.mpr c20
          have c20b1:(t121 != 0)=true:=bne_iff_ne.mpr c20
          obtain rfl:=Option.some.inj H
          have hcz40_0:wr.cell? ⟨gb119,0,none⟩=some (.int .i64 a0_0):=(qac BK119.out 0).trans rfl
          have hcz40_1:wr.cell? ⟨gb119,1,none⟩=some (.int .i64 a0_1):=(qac BK119.out 1).trans rfl
          have hcz40_2:wr.cell? ⟨gb119,2,none⟩=some (.slice A0_2 l0_2.length c0_2):=(qac BK119.out 2).trans rfl
          have hfz40_0:=qaa BK119.out 0
          have hfz40_1:=qaa BK119.out 1
          have hfz40_2:=qaa BK119.out 2
          try go_wp2
          have n0_:=qaf.mk (qaj BK119.out)
          have n1_:=qaf.mk (qad HB.out)
          clear BK119
          clear HB
          have BK119:=n0_
          have HB:=n1_
          clear n0_ n1_
          have p120:0≤(x3_2:Int):=of_decide_eq_true (by first|(with_reducible assumption)|assumption)
          have q120:x3_2<(l0_2.length:Int):=of_decide_eq_true (by first|(with_reducible assumption)|assumption)
          obtain⟨ad120,A120_5,c120_5,A120_6,c120_6,e120,hx120_0,hx120_1,hx120_2,hx120_3,hx120_4,hx120_5,hx120_6,hl120_5,hi120_5,hl120_6,hi120_6⟩:=at_T52 HR0_2.out x3_2 p120 q120
          have hw120_6:=hx120_6
          have hw120_5:=hx120_5
          have hw120_4:=hx120_4
          have hw120_3:=hx120_3
          have hw120_2:=hx120_2
          have hw120_1:=hx120_1
          have hw120_0:=hx120_0
          cases e120
          replace hx120_0:=(HB.out.cell (bLt w _ hx120_0)).trans hx120_0
          replace hx120_1:=(HB.out.cell (bLt w _ hx120_1)).trans hx120_1
          replace hx120_2:=(HB.out.cell (bLt w _ hx120_2)).trans hx120_2
          replace hx120_3:=(HB.out.cell (bLt w _ hx120_3)).trans hx120_3
          replace hx120_4:=(HB.out.cell (bLt w _ hx120_4)).trans hx120_4
          replace hx120_5:=(HB.out.cell (bLt w _ hx120_5)).trans hx120_5
          replace hx120_6:=(HB.out.cell (bLt w _ hx120_6)).trans hx120_6
          have HR120_5:=qaf.mk hi120_5
          have HC120_5:=qaf.mk hl120_5
          clear hi120_5 hl120_5
          have HR120_6:=qaf.mk hi120_6
          have HC120_6:=qaf.mk hl120_6
          clear hi120_6 hl120_6
          replace p120:=eq_true p120
          replace q120:=eq_true q120
          refine start_ (n:=9) (S:=fun w'=>w'.cell? ⟨gb119,0,none⟩=some (.int .i64 a0_0)∧w'.cell? ⟨gb119,1,none⟩=some (.int .i64 a0_1)∧w'.cell? ⟨gb119,2,none⟩=some (.slice (some ad120) l0_2.length c0_2)∧w'.cell? (ad120.add ((x3_2).toNat * 7))=some (.int .i64 ((qak l0_2 x3_2).f0))∧w'.cell? ⟨(ad120.add ((x3_2).toNat * 7)).block,(ad120.add ((x3_2).toNat * 7)).off+1,none⟩=some (.int .i64 ((qak l0_2 x3_2).f1))∧w'.cell? ⟨(ad120.add ((x3_2).toNat * 7)).block,(ad120.add ((x3_2).toNat * 7)).off+2,none⟩=some (.int .i64 ((qak l0_2 x3_2).f2))∧w'.cell? ⟨(ad120.add ((x3_2).toNat * 7)).block,(ad120.add ((x3_2).toNat * 7)).off+3,none⟩=some (.int .i64 ((qak l0_2 x3_2).f3))∧w'.cell? ⟨(ad120.add ((x3_2).toNat * 7)).block,(ad120.add ((x3_2).toNat * 7)).off+4,none⟩=some (.int .i64 ((qak l0_2 x3_2).f4))∧w'.cell? ⟨(ad120.add ((x3_2).toNat * 7)).block,(ad120.add ((x3_2).toNat * 7)).off+5,none⟩=some (.slice A120_5 ((qak l0_2 x3_2).f5).length c120_5)∧w'.cell? ⟨(ad120.add ((x3_2).toNat * 7)).block,(ad120.add ((x3_2).toNat * 7)).off+6,none⟩=some (.slice A120_6 ((qak l0_2 x3_2).f6).length c120_6)) (ds:=[]) #[false,false,false,false,false,false,false,false,false] (by kernel_rfl) rfl rfl ⟨(qac BK119.out 0).trans rfl,(qac BK119.out 1).trans rfl,(qac BK119.out 2).trans rfl,((HB.out.cell (bLt w _ hw120_0)).trans hw120_0),((HB.out.cell (bLt w _ hw120_1)).trans hw120_1),((HB.out.cell (bLt w _ hw120_2)).trans hw120_2),((HB.out.cell (bLt w _ hw120_3)).trans hw120_3),((HB.out.cell (bLt w _ hw120_4)).trans hw120_4),((HB.out.cell (bLt w _ hw120_5)).trans hw120_5),((HB.out.cell (bLt w _ hw120_6)).trans hw120_6)⟩ (fun hHeld=>?_);refine with_tabW ostinatoref05_Check.tab8 ostinatoref05_Check.bits8 (fun HT_ HW_=>?_)
          generalize wr.drew=w41 at BK119 HB HR120_5 HR120_6 hx120_0 hx120_1 hx120_2 hx120_3 hx120_4 hx120_5 hx120_6 hHeld ⊢
          refine qaE (i:=0) (N:=some 41) (v:=?_) (a':=?_) #[true,false,false,false,false,false,false,false,false] rfl rfl (qax HT_.out (by kernel_rfl)) (fun _ _ _ h=>h) (Or.inl ⟨by rfl,?_⟩) ?_ ?_
          rotate_left
          ·intro w'
           go_simp
           with_reducible rfl
          rotate_left
          ·simp only [Act.put,List.setIfInBounds_toArray,List.set_cons_zero,List.set_cons_succ,qav,qaw]
           rfl
          refine qaE (i:=2) (N:=some 43) (v:=?_) (a':=?_) #[true,false,true,false,false,false,false,false,false] rfl rfl (qax HT_.out (by kernel_rfl)) (fun _ _ _ h=>h) (Or.inl ⟨by rfl,?_⟩) ?_ ?_
          rotate_left
          ·intro w'
           go_simp
           with_reducible rfl
          rotate_left
          ·simp only [Act.put,List.setIfInBounds_toArray,List.set_cons_zero,List.set_cons_succ,qav,qaw]
           rfl
          refine qaE (i:=5) (N:=some 46) (v:=?_) (a':=?_) #[true,false,true,false,false,true,false,false,false] rfl rfl (qax HT_.out (by kernel_rfl)) (fun _ _ _ h=>h) (Or.inl ⟨by rfl,?_⟩) ?_ ?_
          rotate_left
          ·intro w'
           go_simp
           with_reducible rfl
          rotate_left
          ·simp only [Act.put,List.setIfInBounds_toArray,List.set_cons_zero,List.set_cons_succ,qav,qaw]
           rfl
          refine take_ (i:=1) (N:=some 42) (v:=?_) (a':=?_) #[true,true,true,false,false,true,false,false,false] rfl rfl (qaH HT_.out HW_.out (by kernel_rfl)) (fun _ _ _ h=>h) (Or.inl ⟨by rfl,?_⟩) hHeld ?_ ?_
          rotate_left
          ·rintro w' ⟨s0,s1,s2,s3,s4,s5,s6,s7,s8,s9⟩
           go_simp
           with_reducible rfl
          rotate_left
          ·simp only [Act.put,List.setIfInBounds_toArray,List.set_cons_zero,List.set_cons_succ,qav,qaw]
           rfl
          refine qaE (i:=3) (N:=some 44) (v:=?_) (a':=?_) #[true,true,true,true,false,true,false,false,false] rfl rfl (qax HT_.out (by kernel_rfl)) (fun _ _ _ h=>h) (Or.inl ⟨by rfl,?_⟩) ?_ ?_
          rotate_left
          ·intro w'
           go_simp
           with_reducible rfl
          rotate_left
          ·simp only [Act.put,List.setIfInBounds_toArray,List.set_cons_zero,List.set_cons_succ,qav,qaw]
           rfl
          refine take_ (i:=4) (N:=some 45) (v:=?_) (a':=?_) #[true,true,true,true,true,true,false,false,false] rfl rfl (qaH HT_.out HW_.out (by kernel_rfl)) (fun _ _ _ h=>h) (Or.inl ⟨by rfl,?_⟩) hHeld ?_ ?_
          rotate_left
          ·rintro w' ⟨s0,s1,s2,s3,s4,s5,s6,s7,s8,s9⟩
           go_simp
           with_reducible rfl
          rotate_left
          ·simp only [Act.put,List.setIfInBounds_toArray,List.set_cons_zero,List.set_cons_succ,qav,qaw]
           rfl
          refine take_ (i:=6) (N:=some 47) (v:=?_) (a':=?_) #[true,true,true,true,true,true,true,false,false] rfl rfl (qaH HT_.out HW_.out (by kernel_rfl)) (fun _ _ _ h=>h) (Or.inl ⟨by rfl,?_⟩) hHeld ?_ ?_
          rotate_left
          ·rintro w' ⟨s0,s1,s2,s3,s4,s5,s6,s7,s8,s9⟩
           go_simp
           with_reducible rfl
          rotate_left
          ·simp only [Act.put,List.setIfInBounds_toArray,List.set_cons_zero,List.set_cons_succ,qav,qaw]
           rfl
          refine one_ (i:=7) (N:=some 48) #[true,true,true,true,true,true,true,true,false] rfl rfl (one_of HT_.out (by kernel_rfl)) (by decide) (fun K hK=>?_)
          refine goes_ Tryd.func35 (by kernel_rfl) rfl #[.agg #[.int .i64 ((qak l0_2 x3_2).f0),.int .i64 ((qak l0_2 x3_2).f1),.int .i64 ((qak l0_2 x3_2).f2),.int .i64 ((qak l0_2 x3_2).f3),.int .i64 ((qak l0_2 x3_2).f4),.slice A120_5 ((qak l0_2 x3_2).f5).length c120_5,.slice A120_6 ((qak l0_2 x3_2).f6).length c120_6],.int .i64 a0_0] (by rfl) rfl rfl (by (try simp only [List.map_toArray,List.map_cons,List.map_nil]);first|done|rfl|(simp only [List.length_drop,List.length_take];rfl)) ?_
          with_reducible refine (ostinatoref05_Right.calls k2 ((qak l0_2 x3_2).f0) ((qak l0_2 x3_2).f1) ((qak l0_2 x3_2).f2) ((qak l0_2 x3_2).f3) ((qak l0_2 x3_2).f4) _ _ ((qak l0_2 x3_2).f5) _ _ ((qak l0_2 x3_2).f6) a0_0 t121 _ ?side1 ?side2 ?side3 ?side4 A19.out).mono ?_
          (case side1=>repeat (first|exact (Kd.C_below HR120_5.out HB.out)|(with_reducible refine Kd.C_alloc ?_ _)|(with_reducible refine Kd.C_drewN ?_ _)|(with_reducible refine Kd.C_drew ?_)))
          (case side2=>exact HC120_5.out)
          (case side3=>repeat (first|exact (Kd.C_below HR120_6.out HB.out)|(with_reducible refine Kd.C_alloc ?_ _)|(with_reducible refine Kd.C_drewN ?_ _)|(with_reducible refine Kd.C_drew ?_)))
          (case side4=>exact HC120_6.out)
          rintro e w42 ⟨rfl,hb⟩
          refine⟨_,rfl,?_⟩
          have n0_:=qaf.mk (qas (g:=gb119) (o:=.cells #[.int .i64 a0_0,.int .i64 a0_1,.slice (some ad120) l0_2.length c0_2] 32 (0,0)) (by (with_reducible repeat (first|refine qah ?_ _|refine qaj ?_|refine qai ?_ _));exact BK119.out) hb)
          have n1_:=qaf.mk (qal (by repeat (first|(with_reducible first|exact HB.out|apply qae|apply qab|apply qad|refine qag ?_ GE119.out)|exact HB.out)) hb)
          clear BK119
          clear HB
          have BK119:=n0_
          have HB:=n1_
          clear n0_ n1_
          (try clear hb)
          (try clear hb2)
          (try clear hk)
          (try clear hi)
          refine hK.out _ _ ⟨(qac BK119.out 0).trans rfl,(qac BK119.out 1).trans rfl,(qac BK119.out 2).trans rfl,((HB.out.cell (bLt w _ hw120_0)).trans hw120_0),((HB.out.cell (bLt w _ hw120_1)).trans hw120_1),((HB.out.cell (bLt w _ hw120_2)).trans hw120_2),((HB.out.cell (bLt w _ hw120_3)).trans hw120_3),((HB.out.cell (bLt w _ hw120_4)).trans hw120_4),((HB.out.cell (bLt w _ hw120_5)).trans hw120_5),((HB.out.cell (bLt w _ hw120_6)).trans hw120_6)⟩ (fun hHeld=>?_)
          clear hK K
          refine norm_ (a':=?_) ?_ ?_
          rotate_left
          ·show Act.put _ (some 48) _=_
           simp only [Act.put,List.setIfInBounds_toArray,List.set_cons_zero,List.set_cons_succ,qav,qaw]
           rfl
          refine qaE (i:=8) (N:=some 4) (v:=?_) (a':=?_) #[true,true,true,true,true,true,true,true,true] rfl rfl (qax HT_.out (by kernel_rfl)) (fun _ _ _ h=>h) (Or.inl ⟨by rfl,?_⟩) ?_ ?_
          rotate_left
          ·intro w'
           go_simp
           with_reducible rfl
          rotate_left
          ·simp only [Act.put,List.setIfInBounds_toArray,List.set_cons_zero,List.set_cons_succ,qav,qaw]
           rfl
          refine done_ (done_of HT_.out (by kernel_rfl)) ?_
          try go_wp2
          go_ret
          exact⟨by first|rfl|(simp [qao,qan]<;>rfl)|(simp [bneNil,bneNilU]<;>rfl)|(simp [*,qao,qan]<;>rfl),by repeat (first|(with_reducible first|exact HB.out|apply qae|apply qab|apply qad|refine qag ?_ GE119.out)|exact HB.out)⟩
        ·rw [if_neg c18] at H
         exact absurd H (by simp)
       ·rw [if_neg c17] at H
        have c17b0:decide (x3_2<(l0_2.length:Int))=false:=decide_eq_false c17
        clear c17
        obtain rfl:=Option.some.inj H
        have hcz43_0:wr.cell? ⟨gb119,0,none⟩=some (.int .i64 a0_0):=(qac BK119.out 0).trans rfl
        have hcz43_1:wr.cell? ⟨gb119,1,none⟩=some (.int .i64 a0_1):=(qac BK119.out 1).trans rfl
        have hcz43_2:wr.cell? ⟨gb119,2,none⟩=some (.slice A0_2 l0_2.length c0_2):=(qac BK119.out 2).trans rfl
        have hfz43_0:=qaa BK119.out 0
        have hfz43_1:=qaa BK119.out 1
        have hfz43_2:=qaa BK119.out 2
        go_wp2
        go_ret
        exact⟨by first|rfl|(simp [qao,qan]<;>rfl)|(simp [bneNil,bneNilU]<;>rfl)|(simp [*,qao,qan]<;>rfl),by repeat (first|(with_reducible first|exact HB.out|apply qae|apply qab|apply qad|refine qag ?_ GE119.out)|exact HB.out)⟩
end
end Go.Proofs.YtcfknijdhmildaaDoor.PParseRight
end
section
namespace Go.Proofs.YtcfknijdhmildaaDoor.PParseRight
open Go.RowKit Go.Proofs.YtcfknijdhmildaaDoorW.PrintWords Go.Proofs.YtcfknijdhmildaaDoorW.PrintLast Go.Proofs.YtcfknijdhmildaaDoorW.PrintMore
attribute [local go_sem] max2_int min2_int max_two min_two max_three min_three max_four min_four
set_option linter.unusedVariables false
set_option linter.unusedSimpArgs false
noncomputable section
def ostinatolaw07_ParseRight.f (k:Nat) (a0:ByteArray):Option (Bool):=(ostinatolaw07_awake.f).bind fun t126=>((ostinatolaw07_short.f a0 200).bind fun t127=>((parse_Parse.f t127).bind fun bt128=>(if bt128.2.2.2.2=0 then ((parse_Print.f bt128.1 bt128.2.1 bt128.2.2.1).bind fun t136=>((parse_Parse.f t136).bind fun bt137=>((ostinatoref05_Same.f k bt128.1 bt128.2.1 bt128.2.2.1 bt137.1 bt137.2.1 bt137.2.2.1).bind fun t145=>(if t126=true then (if bt128.2.2.2.1=(t127.size:Int) then ((ostinatoref05_Check.f k bt128.1 bt128.2.1 bt128.2.2.1).bind fun t146=>(if t146=0 then (if bt137.2.2.2.2=0 then (some t145) else (some false)) else (some false))) else (some false)) else (some false))))) else (if t126=true then (if bt128.2.2.2.1 ≥ 0 then (if bt128.2.2.2.1≤(t127.size:Int) then (if (bt128.2.2.1.length:Int)=0 then (if bt128.1=0 then (some (bt128.2.1 == 0)) else (some false)) else (some false)) else (some false)) else (some false)) else (some false)))))
theorem ostinatolaw07_ParseRight.calls (k:Nat) (a0:ByteArray) (r:Bool) (w:World) (h:ostinatolaw07_ParseRight.f k a0=some r) (hT:Tabs w) :
  Calls Tryd.prog 5 #[.string a0] w fun e w'=>e=.returned (.bool r)∧Below w.heap.size w w':=by
 have hu32:=Tryd.underlying32
 have HB:=qaf.mk (Below.refl w.heap.size w)
 have H:((ostinatolaw07_awake.f).bind fun t126=>((ostinatolaw07_short.f a0 200).bind fun t127=>((parse_Parse.f t127).bind fun bt128=>(if bt128.2.2.2.2=0 then ((parse_Print.f bt128.1 bt128.2.1 bt128.2.2.1).bind fun t136=>((parse_Parse.f t136).bind fun bt137=>((ostinatoref05_Same.f k bt128.1 bt128.2.1 bt128.2.2.1 bt137.1 bt137.2.1 bt137.2.2.1).bind fun t145=>(if t126=true then (if bt128.2.2.2.1=(t127.size:Int) then ((ostinatoref05_Check.f k bt128.1 bt128.2.1 bt128.2.2.1).bind fun t146=>(if t146=0 then (if bt137.2.2.2.2=0 then (some t145) else (some false)) else (some false))) else (some false)) else (some false))))) else (if t126=true then (if bt128.2.2.2.1 ≥ 0 then (if bt128.2.2.2.1≤(t127.size:Int) then (if (bt128.2.2.1.length:Int)=0 then (if bt128.1=0 then (some (bt128.2.1 == 0)) else (some false)) else (some false)) else (some false)) else (some false)) else (some false))))))=some r:=h
 clear h
 have HT:=qaf.mk hT
 clear hT
 replace H:=Option.bind_eq_some_iff.mp H
 obtain⟨t126,A20,H⟩:=H
 replace H:((ostinatolaw07_short.f a0 200).bind fun t127=>((parse_Parse.f t127).bind fun bt128=>(if bt128.2.2.2.2=0 then ((parse_Print.f bt128.1 bt128.2.1 bt128.2.2.1).bind fun t136=>((parse_Parse.f t136).bind fun bt137=>((ostinatoref05_Same.f k bt128.1 bt128.2.1 bt128.2.2.1 bt137.1 bt137.2.1 bt137.2.2.1).bind fun t145=>(if t126=true then (if bt128.2.2.2.1=(t127.size:Int) then ((ostinatoref05_Check.f k bt128.1 bt128.2.1 bt128.2.2.1).bind fun t146=>(if t146=0 then (if bt137.2.2.2.2=0 then (some t145) else (some false)) else (some false))) else (some false)) else (some false))))) else (if t126=true then (if bt128.2.2.2.1 ≥ 0 then (if bt128.2.2.2.1≤(t127.size:Int) then (if (bt128.2.2.1.length:Int)=0 then (if bt128.1=0 then (some (bt128.2.1 == 0)) else (some false)) else (some false)) else (some false)) else (some false)) else (some false)))))=some r:=H
 have A2:=qaf.mk A20
 clear A20
 replace H:=Option.bind_eq_some_iff.mp H
 obtain⟨t127,A30,H⟩:=H
 replace H:((parse_Parse.f t127).bind fun bt128=>(if bt128.2.2.2.2=0 then ((parse_Print.f bt128.1 bt128.2.1 bt128.2.2.1).bind fun t136=>((parse_Parse.f t136).bind fun bt137=>((ostinatoref05_Same.f k bt128.1 bt128.2.1 bt128.2.2.1 bt137.1 bt137.2.1 bt137.2.2.1).bind fun t145=>(if t126=true then (if bt128.2.2.2.1=(t127.size:Int) then ((ostinatoref05_Check.f k bt128.1 bt128.2.1 bt128.2.2.1).bind fun t146=>(if t146=0 then (if bt137.2.2.2.2=0 then (some t145) else (some false)) else (some false))) else (some false)) else (some false))))) else (if t126=true then (if bt128.2.2.2.1 ≥ 0 then (if bt128.2.2.2.1≤(t127.size:Int) then (if (bt128.2.2.1.length:Int)=0 then (if bt128.1=0 then (some (bt128.2.1 == 0)) else (some false)) else (some false)) else (some false)) else (some false)) else (some false))))=some r:=H
 have A3:=qaf.mk A30
 clear A30
 replace H:=Option.bind_eq_some_iff.mp H
 obtain⟨⟨t128,t129,t130,t133,t134⟩,A40,H⟩:=H
 replace H:(if t134=0 then ((parse_Print.f t128 t129 t130).bind fun t136=>((parse_Parse.f t136).bind fun bt137=>((ostinatoref05_Same.f k t128 t129 t130 bt137.1 bt137.2.1 bt137.2.2.1).bind fun t145=>(if t126=true then (if t133=(t127.size:Int) then ((ostinatoref05_Check.f k t128 t129 t130).bind fun t146=>(if t146=0 then (if bt137.2.2.2.2=0 then (some t145) else (some false)) else (some false))) else (some false)) else (some false))))) else (if t126=true then (if t133 ≥ 0 then (if t133≤(t127.size:Int) then (if (t130.length:Int)=0 then (if t128=0 then (some (t129 == 0)) else (some false)) else (some false)) else (some false)) else (some false)) else (some false)))=some r:=H
 have A4:=qaf.mk A40
 clear A40
 by_cases c5:t134=0
 ·rw [if_pos c5] at H
  have c5b0:(t134 == 0)=true:=beq_iff_eq.mpr c5
  have c5b1:(t134 != 0)=false:=bne_eq_false_iff_eq.mpr c5
  clear c5
  replace H:=Option.bind_eq_some_iff.mp H
  obtain⟨t136,A60,H⟩:=H
  replace H:((parse_Parse.f t136).bind fun bt137=>((ostinatoref05_Same.f k t128 t129 t130 bt137.1 bt137.2.1 bt137.2.2.1).bind fun t145=>(if t126=true then (if t133=(t127.size:Int) then ((ostinatoref05_Check.f k t128 t129 t130).bind fun t146=>(if t146=0 then (if bt137.2.2.2.2=0 then (some t145) else (some false)) else (some false))) else (some false)) else (some false))))=some r:=H
  have A6:=qaf.mk A60
  clear A60
  replace H:=Option.bind_eq_some_iff.mp H
  obtain⟨⟨t137,t138,t139,t142,t143⟩,A70,H⟩:=H
  replace H:((ostinatoref05_Same.f k t128 t129 t130 t137 t138 t139).bind fun t145=>(if t126=true then (if t133=(t127.size:Int) then ((ostinatoref05_Check.f k t128 t129 t130).bind fun t146=>(if t146=0 then (if t143=0 then (some t145) else (some false)) else (some false))) else (some false)) else (some false)))=some r:=H
  have A7:=qaf.mk A70
  clear A70
  replace H:=Option.bind_eq_some_iff.mp H
  obtain⟨t145,A80,H⟩:=H
  replace H:(if t126=true then (if t133=(t127.size:Int) then ((ostinatoref05_Check.f k t128 t129 t130).bind fun t146=>(if t146=0 then (if t143=0 then (some t145) else (some false)) else (some false))) else (some false)) else (some false))=some r:=H
  have A8:=qaf.mk A80
  clear A80
  by_cases c9:t126=true
  ·subst c9
   have H1:(if t133=(t127.size:Int) then ((ostinatoref05_Check.f k t128 t129 t130).bind fun t146=>(if t146=0 then (if t143=0 then (some t145) else (some false)) else (some false))) else (some false))=some r:=by rw [if_pos rfl] at H;exact H
   clear H
   have H:=H1
   clear H1
   by_cases c10:t133=(t127.size:Int)
   ·rw [if_pos c10] at H
    have c10b0:(t133 == (t127.size:Int))=true:=beq_iff_eq.mpr c10
    have c10b1:(t133 != (t127.size:Int))=false:=bne_eq_false_iff_eq.mpr c10
    clear c10
    replace H:=Option.bind_eq_some_iff.mp H
    obtain⟨t146,A110,H⟩:=H
    replace H:(if t146=0 then (if t143=0 then (some t145) else (some false)) else (some false))=some r:=H
    have A11:=qaf.mk A110
    clear A110
    by_cases c12:t146=0
    ·rw [if_pos c12] at H
     have c12b0:(t146 == 0)=true:=beq_iff_eq.mpr c12
     have c12b1:(t146 != 0)=false:=bne_eq_false_iff_eq.mpr c12
     clear c12
     by_cases c13:t143=0
     ·rw [if_pos c13] at H
      have c13b0:(t143 == 0)=true:=beq_iff_eq.mpr c13
      have c13b1:(t143 != 0)=false:=bne_eq_false_iff_eq.mpr c13
      clear c13
      obtain rfl:=Option.some.inj H
      go_enter Tryd.func5,Tryd.ntmps5
      go_wp2_with (first|((with_reducible refine qaq (f:=8) rfl ?_);refine qaC (some 11) rfl rfl Tryd.func8 (by kernel_rfl) rfl #[] rfl (by (try simp only [List.map_toArray,List.map_cons,List.map_nil]);first|done|rfl|(simp only [List.length_drop,List.length_take];rfl)) ?_;(with_reducible refine (ostinatolaw07_awake.calls  true _ A2.out (Tabs.below HT.out (by repeat (first|(with_reducible first|exact HB.out|apply qae|apply qab|apply qad)|exact HB.out)))).mono ?_);rintro e w14 ⟨rfl,hb⟩;refine⟨_,rfl,?_⟩;have n0_:=qaf.mk (qal (by repeat (first|(with_reducible first|exact HB.out|apply qae|apply qab|apply qad)|exact HB.out)) hb);clear HB;have HB:=n0_;clear n0_;(try clear hb);(try clear hb2);(try clear hk);(try clear hi))|((with_reducible refine qaq (f:=9) rfl ?_);refine qaC (some 13) rfl rfl Tryd.func9 (by kernel_rfl) rfl #[.string a0,.int .i64 200] rfl (by (try simp only [List.map_toArray,List.map_cons,List.map_nil]);first|done|rfl|(simp only [List.length_drop,List.length_take];rfl)) ?_;(with_reducible refine (ostinatolaw07_short.calls a0 200 t127 _ A3.out).mono ?_);rintro e w' ⟨rfl,⟨nd,rfl⟩⟩;refine⟨_,rfl,?_⟩;(try (rw [qaM w14];generalize hq_:World.drewN w14 _=w14;have n0_:qaf (Below w.heap.size w w14):=⟨by rw [← hq_];exact (by repeat (first|(with_reducible first|exact HB.out|apply qae|apply qab|apply qad)|exact HB.out))⟩;clear HB hq_;have HB:=n0_;clear n0_)))|((with_reducible refine qaq (f:=12) rfl ?_);refine qaC (some 16) rfl rfl Tryd.func12 (by kernel_rfl) rfl #[.string t127] rfl (by (try simp only [List.map_toArray,List.map_cons,List.map_nil]);first|done|rfl|(simp only [List.length_drop,List.length_take];rfl)) ?_;(with_reducible refine (parse_Parse.calls t127 t128 t129 t130 t133 t134 _ A4.out (Tabs.below HT.out (by repeat (first|(with_reducible first|exact HB.out|apply qae|apply qab|apply qad)|exact HB.out)))).mono ?_);rintro e w15 ⟨v131,rfl,ho0,hb⟩;refine⟨_,rfl,?_⟩;have n0_:=qaf.mk (Kd.S_lower ho0 (qam (by repeat (first|(with_reducible first|exact HB.out|apply qae|apply qab|apply qad)|exact HB.out))));have n1_:=qaf.mk (qal (by repeat (first|(with_reducible first|exact HB.out|apply qae|apply qab|apply qad)|exact HB.out)) hb);clear HB;have HO132:=n0_;have HB:=n1_;clear n0_ n1_;(try clear hb);(try clear hb2);(try clear hk);(try clear hi);(try clear ho0))|((with_reducible refine qaD (N:=4) rfl ?_);(try (refine qaz (by rfl) ?_;dsimp only));refine qay ?hg (N:=4) ?hd (cs:=#[.int .i64 0,.int .i64 0,.slice none 0 0]) (t:=32) ?hr ?_;(case hd=>rfl);(case hg=>rfl);(case hr=>first|(go_simp;done)|(go_simp;rfl));intro gb135 hg w16 hbox hb;have n0_:=qaf.mk (Kd.S_below (by (with_reducible repeat (first|apply Kd.S_alloc|apply Kd.S_drewN|apply Kd.S_drew));exact HO132.out) hb);have n1_:=qaf.mk (qal (by repeat (first|(with_reducible first|exact HB.out|apply qae|apply qab|apply qad)|exact HB.out)) hb);have n2_:=qaf.mk (hbox);have n3_:=qaf.mk ((by rw [hg];exact (qam (by repeat (first|(with_reducible first|exact HB.out|apply qae|apply qab|apply qad)|exact HB.out))):w.heap.size≤gb135));have n4_:=qaf.mk ((by rw [hg];exact (qam (by repeat (first|(with_reducible first|exact HB.out|apply qae|apply qab|apply qad)|exact HB.out))):w.heap.size≤gb135));clear HO132;clear HB;have HO132:=n0_;have HB:=n1_;have BK135:=n2_;have GW135:=n3_;have GE135:=n4_;clear n0_ n1_ n2_ n3_ n4_;clear hb hbox hg;have hcz17_0:w16.cell? ⟨gb135,0,none⟩=some (.int .i64 0):=(qac BK135.out 0).trans rfl;have hcz17_1:w16.cell? ⟨gb135,1,none⟩=some (.int .i64 0):=(qac BK135.out 1).trans rfl;have hcz17_2:w16.cell? ⟨gb135,2,none⟩=some (.slice none 0 0):=(qac BK135.out 2).trans rfl;have hfz17_0:=qaa BK135.out 0;have hfz17_1:=qaa BK135.out 1;have hfz17_2:=qaa BK135.out 2;obtain⟨Ao18,co18,eo18⟩:=Kd.S_slice HO132.out;subst eo18)|((with_reducible refine qaq (f:=15) rfl ?_);refine qaC (some 51) rfl rfl Tryd.func15 (by kernel_rfl) rfl #[.agg #[.int .i64 t128,.int .i64 t129,.slice Ao18 t130.length co18]] rfl (by (try simp only [List.map_toArray,List.map_cons,List.map_nil]);first|done|rfl|(simp only [List.length_drop,List.length_take];rfl)) ?_;(with_reducible refine (parse_Print.calls t128 t129 _ _ t130 t136 _ ?side1 ?side2 A6.out (Tabs.below HT.out (by repeat (first|(with_reducible first|exact HB.out|apply qae|apply qab|apply qad|refine qag ?_ GE135.out)|exact HB.out)))).mono ?_);(case side1=>refine (Kd.S_reads' (e:=52) (base:=w.heap.size) (ok:=fun k_=>True) (n:=t130.length) (c:=co18) ?_).2.2;exact (by (with_reducible repeat (first|apply Kd.S_alloc|apply Kd.S_drewN|apply Kd.S_drew));exact (Kd.S_mono (Kd.S_far (p:=⟨gb135,2,none⟩) (Kd.S_far (p:=⟨gb135,1,none⟩) (Kd.S_far (p:=⟨gb135,0,none⟩) (Kd.S_types HO132.out BK135.out (by decide)) (fun _ hk=>hk.2) (.int .i64 t128)) (fun _ hk=>hk.2) (.int .i64 t129)) (fun _ hk=>hk.2) (.slice Ao18 t130.length co18)) (fun _ h_=>h_.1))));(case side2=>exact (Kd.S_reads' HO132.out).2.1);rintro e w19 ⟨rfl,hb⟩;refine⟨_,rfl,?_⟩;have n0_:=qaf.mk (Kd.S_below (by (with_reducible repeat (first|apply Kd.S_alloc|apply Kd.S_drewN|apply Kd.S_drew));exact (Kd.S_mono (Kd.S_far (p:=⟨gb135,2,none⟩) (Kd.S_far (p:=⟨gb135,1,none⟩) (Kd.S_far (p:=⟨gb135,0,none⟩) (Kd.S_types HO132.out BK135.out (by decide)) (fun _ hk=>hk.2) (.int .i64 t128)) (fun _ hk=>hk.2) (.int .i64 t129)) (fun _ hk=>hk.2) (.slice Ao18 t130.length co18)) (fun _ h_=>h_.1))) hb);have n1_:=qaf.mk (qas (g:=gb135) (o:=.cells #[.int .i64 t128,.int .i64 t129,.slice Ao18 t130.length co18] 32 (0,0)) (by (with_reducible repeat (first|refine qah ?_ _|refine qaj ?_|refine qai ?_ _));refine qaG (cs:=#[.int .i64 t128,.int .i64 t129,.slice none 0 0]) ?_ 2 _ rfl;(with_reducible repeat (first|refine qah ?_ _|refine qaj ?_|refine qai ?_ _));refine qaG (cs:=#[.int .i64 t128,.int .i64 0,.slice none 0 0]) ?_ 1 _ rfl;(with_reducible repeat (first|refine qah ?_ _|refine qaj ?_|refine qai ?_ _));refine qaG (cs:=#[.int .i64 0,.int .i64 0,.slice none 0 0]) ?_ 0 _ rfl;(with_reducible repeat (first|refine qah ?_ _|refine qaj ?_|refine qai ?_ _));exact BK135.out) hb);have n2_:=qaf.mk (qal (by repeat (first|(with_reducible first|exact HB.out|apply qae|apply qab|apply qad|refine qag ?_ GE135.out)|exact HB.out)) hb);clear HO132;clear BK135;clear HB;have HO132:=n0_;have BK135:=n1_;have HB:=n2_;clear n0_ n1_ n2_;(try clear hb);(try clear hb2);(try clear hk);(try clear hi))|((with_reducible refine qaq (f:=12) rfl ?_);refine qaC (some 52) rfl rfl Tryd.func12 (by kernel_rfl) rfl #[.string t136] rfl (by (try simp only [List.map_toArray,List.map_cons,List.map_nil]);first|done|rfl|(simp only [List.length_drop,List.length_take];rfl)) ?_;(with_reducible refine (parse_Parse.calls t136 t137 t138 t139 t142 t143 _ A7.out (Tabs.below HT.out (by repeat (first|(with_reducible first|exact HB.out|apply qae|apply qab|apply qad|refine qag ?_ GE135.out)|exact HB.out)))).mono ?_);rintro e w20 ⟨v140,rfl,ho0,hb⟩;refine⟨_,rfl,?_⟩;have n0_:=qaf.mk (Kd.S_elder' (by (with_reducible repeat (first|apply Kd.S_alloc|apply Kd.S_drewN|apply Kd.S_drew));exact HO132.out) (Kd.S_base ho0) hb);have n1_:=qaf.mk (Kd.S_lower (Kd.S_new' ho0 (Kd.S_lt (by (with_reducible repeat (first|apply Kd.S_alloc|apply Kd.S_drewN|apply Kd.S_drew));exact HO132.out))) (qam (by repeat (first|(with_reducible first|exact HB.out|apply qae|apply qab|apply qad|refine qag ?_ GE135.out)|exact HB.out))));have n2_:=qaf.mk (qas (g:=gb135) (o:=.cells #[.int .i64 t128,.int .i64 t129,.slice Ao18 t130.length co18] 32 (0,0)) (by (with_reducible repeat (first|refine qah ?_ _|refine qaj ?_|refine qai ?_ _));exact BK135.out) hb);have n3_:=qaf.mk (qal (by repeat (first|(with_reducible first|exact HB.out|apply qae|apply qab|apply qad|refine qag ?_ GE135.out)|exact HB.out)) hb);clear HO132;clear BK135;clear HB;have HO132:=n0_;have HO141:=n1_;have BK135:=n2_;have HB:=n3_;clear n0_ n1_ n2_ n3_;(try clear hb);(try clear hb2);(try clear hk);(try clear hi);(try clear ho0))|((with_reducible refine qaD (N:=7) rfl ?_);(try (refine qaz (by rfl) ?_;dsimp only));refine qay ?hg (N:=7) ?hd (cs:=#[.int .i64 0,.int .i64 0,.slice none 0 0]) (t:=32) ?hr ?_;(case hd=>rfl);(case hg=>rfl);(case hr=>first|(go_simp;done)|(go_simp;rfl));intro gb144 hg w21 hbox hb;have n0_:=qaf.mk (Kd.S_below (by (with_reducible repeat (first|apply Kd.S_alloc|apply Kd.S_drewN|apply Kd.S_drew));exact HO132.out) hb);have n1_:=qaf.mk (Kd.S_below (by (with_reducible repeat (first|apply Kd.S_alloc|apply Kd.S_drewN|apply Kd.S_drew));exact HO141.out) hb);have n2_:=qaf.mk (qas (g:=gb135) (o:=.cells #[.int .i64 t128,.int .i64 t129,.slice Ao18 t130.length co18] 32 (0,0)) (by (with_reducible repeat (first|refine qah ?_ _|refine qaj ?_|refine qai ?_ _));exact BK135.out) hb);have n3_:=qaf.mk (qal (by repeat (first|(with_reducible first|exact HB.out|apply qae|apply qab|apply qad|refine qag ?_ GE135.out)|exact HB.out)) hb);have n4_:=qaf.mk (hbox);have n5_:=qaf.mk ((by rw [hg];exact (qam (by repeat (first|(with_reducible first|exact HB.out|apply qae|apply qab|apply qad|refine qag ?_ GE135.out)|exact HB.out))):w.heap.size≤gb144));have n6_:=qaf.mk ((by rw [hg];exact (qam (by repeat (first|(with_reducible first|exact HB.out|apply qae|apply qab|apply qad|refine qag ?_ GE135.out)|exact HB.out))):w.heap.size≤gb144));have n7_:=qaf.mk ((by rw [hg];exact Nat.ne_of_lt (qaQ (g:=gb135) (o:=.cells #[.int .i64 t128,.int .i64 t129,.slice Ao18 t130.length co18] 32 (0,0)) (by (with_reducible repeat (first|refine qah ?_ _|refine qaj ?_|refine qai ?_ _));exact BK135.out)):gb135≠gb144));have n8_:=qaf.mk ((by rw [hg];exact Nat.ne_of_gt (qaQ (g:=gb135) (o:=.cells #[.int .i64 t128,.int .i64 t129,.slice Ao18 t130.length co18] 32 (0,0)) (by (with_reducible repeat (first|refine qah ?_ _|refine qaj ?_|refine qai ?_ _));exact BK135.out)):gb144≠gb135));clear HO132;clear HO141;clear BK135;clear HB;have HO132:=n0_;have HO141:=n1_;have BK135:=n2_;have HB:=n3_;have BK144:=n4_;have GW144:=n5_;have GE144:=n6_;have NB135_144:=n7_;have NB144_135:=n8_;clear n0_ n1_ n2_ n3_ n4_ n5_ n6_ n7_ n8_;clear hb hbox hg;have hnb22:=NB144_135.out;have hnc22:=NB135_144.out;have hcz23_0:w21.cell? ⟨gb144,0,none⟩=some (.int .i64 0):=(qac BK144.out 0).trans rfl;have hcz23_1:w21.cell? ⟨gb144,1,none⟩=some (.int .i64 0):=(qac BK144.out 1).trans rfl;have hcz23_2:w21.cell? ⟨gb144,2,none⟩=some (.slice none 0 0):=(qac BK144.out 2).trans rfl;have hfz23_0:=qaa BK144.out 0;have hfz23_1:=qaa BK144.out 1;have hfz23_2:=qaa BK144.out 2;obtain⟨Ao24,co24,eo24⟩:=Kd.S_slice HO141.out;subst eo24;have hcz25_0:w21.cell? ⟨gb135,0,none⟩=some (.int .i64 t128):=(qac BK135.out 0).trans rfl;have hcz25_1:w21.cell? ⟨gb135,1,none⟩=some (.int .i64 t129):=(qac BK135.out 1).trans rfl;have hcz25_2:w21.cell? ⟨gb135,2,none⟩=some (.slice Ao18 t130.length co18):=(qac BK135.out 2).trans rfl;have hfz25_0:=qaa BK135.out 0;have hfz25_1:=qaa BK135.out 1;have hfz25_2:=qaa BK135.out 2)|((with_reducible refine qaq (f:=14) rfl ?_);refine qaC (some 58) rfl rfl Tryd.func14 (by kernel_rfl) rfl #[.agg #[.int .i64 t128,.int .i64 t129,.slice Ao18 t130.length co18],.agg #[.int .i64 t137,.int .i64 t138,.slice Ao24 t139.length co24]] rfl (by (try simp only [List.map_toArray,List.map_cons,List.map_nil]);first|done|rfl|(simp only [List.length_drop,List.length_take];rfl)) ?_;(with_reducible refine (ostinatoref05_Same.calls k t128 t129 _ _ t130 t137 t138 _ _ t139 t145 _ ?side1 ?side2 ?side3 ?side4 A8.out).mono ?_);(case side1=>refine (Kd.S_reads' (e:=52) (base:=w.heap.size) (ok:=fun k_=>(True∧some k_≠(.slice Ao24 t139.length co24:Value).ownBlock)) (n:=t130.length) (c:=co18) ?_).2.2;exact (by (with_reducible repeat (first|apply Kd.S_alloc|apply Kd.S_drewN|apply Kd.S_drew));exact (Kd.S_mono (Kd.S_far (p:=⟨gb144,2,none⟩) (Kd.S_far (p:=⟨gb144,1,none⟩) (Kd.S_far (p:=⟨gb144,0,none⟩) (Kd.S_types HO132.out BK144.out (by decide)) (fun _ hk=>hk.2) (.int .i64 t137)) (fun _ hk=>hk.2) (.int .i64 t138)) (fun _ hk=>hk.2) (.slice Ao24 t139.length co24)) (fun _ h_=>h_.1))));(case side2=>exact (Kd.S_reads' HO132.out).2.1);(case side3=>refine (Kd.S_reads' (e:=52) (base:=w.heap.size) (ok:=fun k_=>(True∧some k_≠(.slice Ao18 t130.length co18:Value).ownBlock)) (n:=t139.length) (c:=co24) ?_).2.2;exact (by (with_reducible repeat (first|apply Kd.S_alloc|apply Kd.S_drewN|apply Kd.S_drew));exact (Kd.S_mono (Kd.S_far (p:=⟨gb144,2,none⟩) (Kd.S_far (p:=⟨gb144,1,none⟩) (Kd.S_far (p:=⟨gb144,0,none⟩) (Kd.S_types HO141.out BK144.out (by decide)) (fun _ hk=>hk.2) (.int .i64 t137)) (fun _ hk=>hk.2) (.int .i64 t138)) (fun _ hk=>hk.2) (.slice Ao24 t139.length co24)) (fun _ h_=>h_.1))));(case side4=>exact (Kd.S_reads' HO141.out).2.1);rintro e w26 ⟨rfl,hb⟩;refine⟨_,rfl,?_⟩;have n0_:=qaf.mk (Kd.S_below (by (with_reducible repeat (first|apply Kd.S_alloc|apply Kd.S_drewN|apply Kd.S_drew));exact (Kd.S_mono (Kd.S_far (p:=⟨gb144,2,none⟩) (Kd.S_far (p:=⟨gb144,1,none⟩) (Kd.S_far (p:=⟨gb144,0,none⟩) (Kd.S_types HO132.out BK144.out (by decide)) (fun _ hk=>hk.2) (.int .i64 t137)) (fun _ hk=>hk.2) (.int .i64 t138)) (fun _ hk=>hk.2) (.slice Ao24 t139.length co24)) (fun _ h_=>h_.1))) hb);have n1_:=qaf.mk (Kd.S_below (by (with_reducible repeat (first|apply Kd.S_alloc|apply Kd.S_drewN|apply Kd.S_drew));exact (Kd.S_mono (Kd.S_far (p:=⟨gb144,2,none⟩) (Kd.S_far (p:=⟨gb144,1,none⟩) (Kd.S_far (p:=⟨gb144,0,none⟩) (Kd.S_types HO141.out BK144.out (by decide)) (fun _ hk=>hk.2) (.int .i64 t137)) (fun _ hk=>hk.2) (.int .i64 t138)) (fun _ hk=>hk.2) (.slice Ao24 t139.length co24)) (fun _ h_=>h_.1))) hb);have n2_:=qaf.mk (qas (g:=gb135) (o:=.cells #[.int .i64 t128,.int .i64 t129,.slice Ao18 t130.length co18] 32 (0,0)) (by (with_reducible repeat (first|refine qah ?_ _|refine qaj ?_|refine qai ?_ _));refine qaX ?_ NB135_144.out _;(with_reducible repeat (first|refine qah ?_ _|refine qaj ?_|refine qai ?_ _));refine qaX ?_ NB135_144.out _;(with_reducible repeat (first|refine qah ?_ _|refine qaj ?_|refine qai ?_ _));refine qaX ?_ NB135_144.out _;(with_reducible repeat (first|refine qah ?_ _|refine qaj ?_|refine qai ?_ _));exact BK135.out) hb);have n3_:=qaf.mk (qas (g:=gb144) (o:=.cells #[.int .i64 t137,.int .i64 t138,.slice Ao24 t139.length co24] 32 (0,0)) (by (with_reducible repeat (first|refine qah ?_ _|refine qaj ?_|refine qai ?_ _));refine qaG (cs:=#[.int .i64 t137,.int .i64 t138,.slice none 0 0]) ?_ 2 _ rfl;(with_reducible repeat (first|refine qah ?_ _|refine qaj ?_|refine qai ?_ _));refine qaG (cs:=#[.int .i64 t137,.int .i64 0,.slice none 0 0]) ?_ 1 _ rfl;(with_reducible repeat (first|refine qah ?_ _|refine qaj ?_|refine qai ?_ _));refine qaG (cs:=#[.int .i64 0,.int .i64 0,.slice none 0 0]) ?_ 0 _ rfl;(with_reducible repeat (first|refine qah ?_ _|refine qaj ?_|refine qai ?_ _));exact BK144.out) hb);have n4_:=qaf.mk (qal (by repeat (first|(with_reducible first|exact HB.out|apply qae|apply qab|apply qad|refine qag ?_ GE135.out|refine qag ?_ GE144.out)|exact HB.out)) hb);clear HO132;clear HO141;clear BK135;clear BK144;clear HB;have HO132:=n0_;have HO141:=n1_;have BK135:=n2_;have BK144:=n3_;have HB:=n4_;clear n0_ n1_ n2_ n3_ n4_;(try clear hb);(try clear hb2);(try clear hk);(try clear hi);have hcz27_0:w26.cell? ⟨gb135,0,none⟩=some (.int .i64 t128):=(qac BK135.out 0).trans rfl;have hcz27_1:w26.cell? ⟨gb135,1,none⟩=some (.int .i64 t129):=(qac BK135.out 1).trans rfl;have hcz27_2:w26.cell? ⟨gb135,2,none⟩=some (.slice Ao18 t130.length co18):=(qac BK135.out 2).trans rfl;have hfz27_0:=qaa BK135.out 0;have hfz27_1:=qaa BK135.out 1;have hfz27_2:=qaa BK135.out 2)|(go_at_call 16;(with_reducible refine (ostinatoref05_Check.calls k t128 t129 _ _ t130 t146 _ ?side1 ?side2 A11.out).mono ?_);(case side1=>repeat (first|exact (Kd.S_reads' HO132.out).2.2|(with_reducible refine Kd.C_alloc ?_ _)|(with_reducible refine Kd.C_drewN ?_ _)|(with_reducible refine Kd.C_drew ?_)));(case side2=>exact (Kd.S_reads' HO132.out).2.1);rintro e w28 ⟨rfl,hb⟩;have n0_:=qaf.mk (Kd.S_below (by (with_reducible repeat (first|apply Kd.S_alloc|apply Kd.S_drewN|apply Kd.S_drew));exact HO132.out) hb);have n1_:=qaf.mk (Kd.S_below (by (with_reducible repeat (first|apply Kd.S_alloc|apply Kd.S_drewN|apply Kd.S_drew));exact HO141.out) hb);have n2_:=qaf.mk (qas (g:=gb135) (o:=.cells #[.int .i64 t128,.int .i64 t129,.slice Ao18 t130.length co18] 32 (0,0)) (by (with_reducible repeat (first|refine qah ?_ _|refine qaj ?_|refine qai ?_ _));exact BK135.out) hb);have n3_:=qaf.mk (qas (g:=gb144) (o:=.cells #[.int .i64 t137,.int .i64 t138,.slice Ao24 t139.length co24] 32 (0,0)) (by (with_reducible repeat (first|refine qah ?_ _|refine qaj ?_|refine qai ?_ _));exact BK144.out) hb);have n4_:=qaf.mk (qal (by repeat (first|(with_reducible first|exact HB.out|apply qae|apply qab|apply qad|refine qag ?_ GE135.out|refine qag ?_ GE144.out)|exact HB.out)) hb);clear HO132;clear HO141;clear BK135;clear BK144;clear HB;have HO132:=n0_;have HO141:=n1_;have BK135:=n2_;have BK144:=n3_;have HB:=n4_;clear n0_ n1_ n2_ n3_ n4_;(try clear hb);(try clear hb2);(try clear hk);(try clear hi)))
      go_ret
      exact⟨by first|rfl|(simp [qao,qan]<;>rfl)|(simp [bneNil,bneNilU]<;>rfl)|(simp [*,qao,qan]<;>rfl),by repeat (first|(with_reducible first|exact HB.out|apply qae|apply qab|apply qad|refine qag ?_ GE135.out|refine qag ?_ GE144.out)|exact HB.out)⟩
     ·rw [if_neg c13] at H
      have c13b0:(t143 == 0)=false:=beq_eq_false_iff_ne.mpr c13
      have c13b1:(t143 != 0)=true:=bne_iff_ne.mpr c13
      obtain rfl:=Option.some.inj H
      go_enter Tryd.func5,Tryd.ntmps5
      go_wp2_with (first|((with_reducible refine qaq (f:=8) rfl ?_);refine qaC (some 11) rfl rfl Tryd.func8 (by kernel_rfl) rfl #[] rfl (by (try simp only [List.map_toArray,List.map_cons,List.map_nil]);first|done|rfl|(simp only [List.length_drop,List.length_take];rfl)) ?_;(with_reducible refine (ostinatolaw07_awake.calls  true _ A2.out (Tabs.below HT.out (by repeat (first|(with_reducible first|exact HB.out|apply qae|apply qab|apply qad)|exact HB.out)))).mono ?_);rintro e w29 ⟨rfl,hb⟩;refine⟨_,rfl,?_⟩;have n0_:=qaf.mk (qal (by repeat (first|(with_reducible first|exact HB.out|apply qae|apply qab|apply qad)|exact HB.out)) hb);clear HB;have HB:=n0_;clear n0_;(try clear hb);(try clear hb2);(try clear hk);(try clear hi))|((with_reducible refine qaq (f:=9) rfl ?_);refine qaC (some 13) rfl rfl Tryd.func9 (by kernel_rfl) rfl #[.string a0,.int .i64 200] rfl (by (try simp only [List.map_toArray,List.map_cons,List.map_nil]);first|done|rfl|(simp only [List.length_drop,List.length_take];rfl)) ?_;(with_reducible refine (ostinatolaw07_short.calls a0 200 t127 _ A3.out).mono ?_);rintro e w' ⟨rfl,⟨nd,rfl⟩⟩;refine⟨_,rfl,?_⟩;(try (rw [qaM w29];generalize hq_:World.drewN w29 _=w29;have n0_:qaf (Below w.heap.size w w29):=⟨by rw [← hq_];exact (by repeat (first|(with_reducible first|exact HB.out|apply qae|apply qab|apply qad)|exact HB.out))⟩;clear HB hq_;have HB:=n0_;clear n0_)))|((with_reducible refine qaq (f:=12) rfl ?_);refine qaC (some 16) rfl rfl Tryd.func12 (by kernel_rfl) rfl #[.string t127] rfl (by (try simp only [List.map_toArray,List.map_cons,List.map_nil]);first|done|rfl|(simp only [List.length_drop,List.length_take];rfl)) ?_;(with_reducible refine (parse_Parse.calls t127 t128 t129 t130 t133 t134 _ A4.out (Tabs.below HT.out (by repeat (first|(with_reducible first|exact HB.out|apply qae|apply qab|apply qad)|exact HB.out)))).mono ?_);rintro e w30 ⟨v131,rfl,ho0,hb⟩;refine⟨_,rfl,?_⟩;have n0_:=qaf.mk (Kd.S_lower ho0 (qam (by repeat (first|(with_reducible first|exact HB.out|apply qae|apply qab|apply qad)|exact HB.out))));have n1_:=qaf.mk (qal (by repeat (first|(with_reducible first|exact HB.out|apply qae|apply qab|apply qad)|exact HB.out)) hb);clear HB;have HO132:=n0_;have HB:=n1_;clear n0_ n1_;(try clear hb);(try clear hb2);(try clear hk);(try clear hi);(try clear ho0))|((with_reducible refine qaD (N:=4) rfl ?_);(try (refine qaz (by rfl) ?_;dsimp only));refine qay ?hg (N:=4) ?hd (cs:=#[.int .i64 0,.int .i64 0,.slice none 0 0]) (t:=32) ?hr ?_;(case hd=>rfl);(case hg=>rfl);(case hr=>first|(go_simp;done)|(go_simp;rfl));intro gb135 hg w31 hbox hb;have n0_:=qaf.mk (Kd.S_below (by (with_reducible repeat (first|apply Kd.S_alloc|apply Kd.S_drewN|apply Kd.S_drew));exact HO132.out) hb);have n1_:=qaf.mk (qal (by repeat (first|(with_reducible first|exact HB.out|apply qae|apply qab|apply qad)|exact HB.out)) hb);have n2_:=qaf.mk (hbox);have n3_:=qaf.mk ((by rw [hg];exact (qam (by repeat (first|(with_reducible first|exact HB.out|apply qae|apply qab|apply qad)|exact HB.out))):w.heap.size≤gb135));have n4_:=qaf.mk ((by rw [hg];exact (qam (by repeat (first|(with_reducible first|exact HB.out|apply qae|apply qab|apply qad)|exact HB.out))):w.heap.size≤gb135));clear HO132;clear HB;have HO132:=n0_;have HB:=n1_;have BK135:=n2_;have GW135:=n3_;have GE135:=n4_;clear n0_ n1_ n2_ n3_ n4_;clear hb hbox hg;have hcz32_0:w31.cell? ⟨gb135,0,none⟩=some (.int .i64 0):=(qac BK135.out 0).trans rfl;have hcz32_1:w31.cell? ⟨gb135,1,none⟩=some (.int .i64 0):=(qac BK135.out 1).trans rfl;have hcz32_2:w31.cell? ⟨gb135,2,none⟩=some (.slice none 0 0):=(qac BK135.out 2).trans rfl;have hfz32_0:=qaa BK135.out 0;have hfz32_1:=qaa BK135.out 1;have hfz32_2:=qaa BK135.out 2;obtain⟨Ao33,co33,eo33⟩:=Kd.S_slice HO132.out;subst eo33)|((with_reducible refine qaq (f:=15) rfl ?_);refine qaC (some 51) rfl rfl Tryd.func15 (by kernel_rfl) rfl #[.agg #[.int .i64 t128,.int .i64 t129,.slice Ao33 t130.length co33]] rfl (by (try simp only [List.map_toArray,List.map_cons,List.map_nil]);first|done|rfl|(simp only [List.length_drop,List.length_take];rfl)) ?_;(with_reducible refine (parse_Print.calls t128 t129 _ _ t130 t136 _ ?side1 ?side2 A6.out (Tabs.below HT.out (by repeat (first|(with_reducible first|exact HB.out|apply qae|apply qab|apply qad|refine qag ?_ GE135.out)|exact HB.out)))).mono ?_);(case side1=>refine (Kd.S_reads' (e:=52) (base:=w.heap.size) (ok:=fun k_=>True) (n:=t130.length) (c:=co33) ?_).2.2;exact (by (with_reducible repeat (first|apply Kd.S_alloc|apply Kd.S_drewN|apply Kd.S_drew));exact (Kd.S_mono (Kd.S_far (p:=⟨gb135,2,none⟩) (Kd.S_far (p:=⟨gb135,1,none⟩) (Kd.S_far (p:=⟨gb135,0,none⟩) (Kd.S_types HO132.out BK135.out (by decide)) (fun _ hk=>hk.2) (.int .i64 t128)) (fun _ hk=>hk.2) (.int .i64 t129)) (fun _ hk=>hk.2) (.slice Ao33 t130.length co33)) (fun _ h_=>h_.1))));(case side2=>exact (Kd.S_reads' HO132.out).2.1);rintro e w34 ⟨rfl,hb⟩;refine⟨_,rfl,?_⟩;have n0_:=qaf.mk (Kd.S_below (by (with_reducible repeat (first|apply Kd.S_alloc|apply Kd.S_drewN|apply Kd.S_drew));exact (Kd.S_mono (Kd.S_far (p:=⟨gb135,2,none⟩) (Kd.S_far (p:=⟨gb135,1,none⟩) (Kd.S_far (p:=⟨gb135,0,none⟩) (Kd.S_types HO132.out BK135.out (by decide)) (fun _ hk=>hk.2) (.int .i64 t128)) (fun _ hk=>hk.2) (.int .i64 t129)) (fun _ hk=>hk.2) (.slice Ao33 t130.length co33)) (fun _ h_=>h_.1))) hb);have n1_:=qaf.mk (qas (g:=gb135) (o:=.cells #[.int .i64 t128,.int .i64 t129,.slice Ao33 t130.length co33] 32 (0,0)) (by (with_reducible repeat (first|refine qah ?_ _|refine qaj ?_|refine qai ?_ _));refine qaG (cs:=#[.int .i64 t128,.int .i64 t129,.slice none 0 0]) ?_ 2 _ rfl;(with_reducible repeat (first|refine qah ?_ _|refine qaj ?_|refine qai ?_ _));refine qaG (cs:=#[.int .i64 t128,.int .i64 0,.slice none 0 0]) ?_ 1 _ rfl;(with_reducible repeat (first|refine qah ?_ _|refine qaj ?_|refine qai ?_ _));refine qaG (cs:=#[.int .i64 0,.int .i64 0,.slice none 0 0]) ?_ 0 _ rfl;(with_reducible repeat (first|refine qah ?_ _|refine qaj ?_|refine qai ?_ _));exact BK135.out) hb);have n2_:=qaf.mk (qal (by repeat (first|(with_reducible first|exact HB.out|apply qae|apply qab|apply qad|refine qag ?_ GE135.out)|exact HB.out)) hb);clear HO132;clear BK135;clear HB;have HO132:=n0_;have BK135:=n1_;have HB:=n2_;clear n0_ n1_ n2_;(try clear hb);(try clear hb2);(try clear hk);(try clear hi))|((with_reducible refine qaq (f:=12) rfl ?_);refine qaC (some 52) rfl rfl Tryd.func12 (by kernel_rfl) rfl #[.string t136] rfl (by (try simp only [List.map_toArray,List.map_cons,List.map_nil]);first|done|rfl|(simp only [List.length_drop,List.length_take];rfl)) ?_;(with_reducible refine (parse_Parse.calls t136 t137 t138 t139 t142 t143 _ A7.out (Tabs.below HT.out (by repeat (first|(with_reducible first|exact HB.out|apply qae|apply qab|apply qad|refine qag ?_ GE135.out)|exact HB.out)))).mono ?_);rintro e w35 ⟨v140,rfl,ho0,hb⟩;refine⟨_,rfl,?_⟩;have n0_:=qaf.mk (Kd.S_elder' (by (with_reducible repeat (first|apply Kd.S_alloc|apply Kd.S_drewN|apply Kd.S_drew));exact HO132.out) (Kd.S_base ho0) hb);have n1_:=qaf.mk (Kd.S_lower (Kd.S_new' ho0 (Kd.S_lt (by (with_reducible repeat (first|apply Kd.S_alloc|apply Kd.S_drewN|apply Kd.S_drew));exact HO132.out))) (qam (by repeat (first|(with_reducible first|exact HB.out|apply qae|apply qab|apply qad|refine qag ?_ GE135.out)|exact HB.out))));have n2_:=qaf.mk (qas (g:=gb135) (o:=.cells #[.int .i64 t128,.int .i64 t129,.slice Ao33 t130.length co33] 32 (0,0)) (by (with_reducible repeat (first|refine qah ?_ _|refine qaj ?_|refine qai ?_ _));exact BK135.out) hb);have n3_:=qaf.mk (qal (by repeat (first|(with_reducible first|exact HB.out|apply qae|apply qab|apply qad|refine qag ?_ GE135.out)|exact HB.out)) hb);clear HO132;clear BK135;clear HB;have HO132:=n0_;have HO141:=n1_;have BK135:=n2_;have HB:=n3_;clear n0_ n1_ n2_ n3_;(try clear hb);(try clear hb2);(try clear hk);(try clear hi);(try clear ho0))|((with_reducible refine qaD (N:=7) rfl ?_);(try (refine qaz (by rfl) ?_;dsimp only));refine qay ?hg (N:=7) ?hd (cs:=#[.int .i64 0,.int .i64 0,.slice none 0 0]) (t:=32) ?hr ?_;(case hd=>rfl);(case hg=>rfl);(case hr=>first|(go_simp;done)|(go_simp;rfl));intro gb144 hg w36 hbox hb;have n0_:=qaf.mk (Kd.S_below (by (with_reducible repeat (first|apply Kd.S_alloc|apply Kd.S_drewN|apply Kd.S_drew));exact HO132.out) hb);have n1_:=qaf.mk (Kd.S_below (by (with_reducible repeat (first|apply Kd.S_alloc|apply Kd.S_drewN|apply Kd.S_drew));exact HO141.out) hb);have n2_:=qaf.mk (qas (g:=gb135) (o:=.cells #[.int .i64 t128,.int .i64 t129,.slice Ao33 t130.length co33] 32 (0,0)) (by (with_reducible repeat (first|refine qah ?_ _|refine qaj ?_|refine qai ?_ _));exact BK135.out) hb);have n3_:=qaf.mk (qal (by repeat (first|(with_reducible first|exact HB.out|apply qae|apply qab|apply qad|refine qag ?_ GE135.out)|exact HB.out)) hb);have n4_:=qaf.mk (hbox);have n5_:=qaf.mk ((by rw [hg];exact (qam (by repeat (first|(with_reducible first|exact HB.out|apply qae|apply qab|apply qad|refine qag ?_ GE135.out)|exact HB.out))):w.heap.size≤gb144));have n6_:=qaf.mk ((by rw [hg];exact (qam (by repeat (first|(with_reducible first|exact HB.out|apply qae|apply qab|apply qad|refine qag ?_ GE135.out)|exact HB.out))):w.heap.size≤gb144));have n7_:=qaf.mk ((by rw [hg];exact Nat.ne_of_lt (qaQ (g:=gb135) (o:=.cells #[.int .i64 t128,.int .i64 t129,.slice Ao33 t130.length co33] 32 (0,0)) (by (with_reducible repeat (first|refine qah ?_ _|refine qaj ?_|refine qai ?_ _));exact BK135.out)):gb135≠gb144));have n8_:=qaf.mk ((by rw [hg];exact Nat.ne_of_gt (qaQ (g:=gb135) (o:=.cells #[.int .i64 t128,.int .i64 t129,.slice Ao33 t130.length co33] 32 (0,0)) (by (with_reducible repeat (first|refine qah ?_ _|refine qaj ?_|refine qai ?_ _));exact BK135.out)):gb144≠gb135));clear HO132;clear HO141;clear BK135;clear HB;have HO132:=n0_;have HO141:=n1_;have BK135:=n2_;have HB:=n3_;have BK144:=n4_;have GW144:=n5_;have GE144:=n6_;have NB135_144:=n7_;have NB144_135:=n8_;clear n0_ n1_ n2_ n3_ n4_ n5_ n6_ n7_ n8_;clear hb hbox hg;have hnb37:=NB144_135.out;have hnc37:=NB135_144.out;have hcz38_0:w36.cell? ⟨gb144,0,none⟩=some (.int .i64 0):=(qac BK144.out 0).trans rfl;have hcz38_1:w36.cell? ⟨gb144,1,none⟩=some (.int .i64 0):=(qac BK144.out 1).trans rfl;have hcz38_2:w36.cell? ⟨gb144,2,none⟩=some (.slice none 0 0):=(qac BK144.out 2).trans rfl;have hfz38_0:=qaa BK144.out 0;have hfz38_1:=qaa BK144.out 1;have hfz38_2:=qaa BK144.out 2;obtain⟨Ao39,co39,eo39⟩:=Kd.S_slice HO141.out;subst eo39;have hcz40_0:w36.cell? ⟨gb135,0,none⟩=some (.int .i64 t128):=(qac BK135.out 0).trans rfl;have hcz40_1:w36.cell? ⟨gb135,1,none⟩=some (.int .i64 t129):=(qac BK135.out 1).trans rfl;have hcz40_2:w36.cell? ⟨gb135,2,none⟩=some (.slice Ao33 t130.length co33):=(qac BK135.out 2).trans rfl;have hfz40_0:=qaa BK135.out 0;have hfz40_1:=qaa BK135.out 1;have hfz40_2:=qaa BK135.out 2)|((with_reducible refine qaq (f:=14) rfl ?_);refine qaC (some 58) rfl rfl Tryd.func14 (by kernel_rfl) rfl #[.agg #[.int .i64 t128,.int .i64 t129,.slice Ao33 t130.length co33],.agg #[.int .i64 t137,.int .i64 t138,.slice Ao39 t139.length co39]] rfl (by (try simp only [List.map_toArray,List.map_cons,List.map_nil]);first|done|rfl|(simp only [List.length_drop,List.length_take];rfl)) ?_;(with_reducible refine (ostinatoref05_Same.calls k t128 t129 _ _ t130 t137 t138 _ _ t139 t145 _ ?side1 ?side2 ?side3 ?side4 A8.out).mono ?_);(case side1=>refine (Kd.S_reads' (e:=52) (base:=w.heap.size) (ok:=fun k_=>(True∧some k_≠(.slice Ao39 t139.length co39:Value).ownBlock)) (n:=t130.length) (c:=co33) ?_).2.2;exact (by (with_reducible repeat (first|apply Kd.S_alloc|apply Kd.S_drewN|apply Kd.S_drew));exact (Kd.S_mono (Kd.S_far (p:=⟨gb144,2,none⟩) (Kd.S_far (p:=⟨gb144,1,none⟩) (Kd.S_far (p:=⟨gb144,0,none⟩) (Kd.S_types HO132.out BK144.out (by decide)) (fun _ hk=>hk.2) (.int .i64 t137)) (fun _ hk=>hk.2) (.int .i64 t138)) (fun _ hk=>hk.2) (.slice Ao39 t139.length co39)) (fun _ h_=>h_.1))));(case side2=>exact (Kd.S_reads' HO132.out).2.1);(case side3=>refine (Kd.S_reads' (e:=52) (base:=w.heap.size) (ok:=fun k_=>(True∧some k_≠(.slice Ao33 t130.length co33:Value).ownBlock)) (n:=t139.length) (c:=co39) ?_).2.2;exact (by (with_reducible repeat (first|apply Kd.S_alloc|apply Kd.S_drewN|apply Kd.S_drew));exact (Kd.S_mono (Kd.S_far (p:=⟨gb144,2,none⟩) (Kd.S_far (p:=⟨gb144,1,none⟩) (Kd.S_far (p:=⟨gb144,0,none⟩) (Kd.S_types HO141.out BK144.out (by decide)) (fun _ hk=>hk.2) (.int .i64 t137)) (fun _ hk=>hk.2) (.int .i64 t138)) (fun _ hk=>hk.2) (.slice Ao39 t139.length co39)) (fun _ h_=>h_.1))));(case side4=>exact (Kd.S_reads' HO141.out).2.1);rintro e w41 ⟨rfl,hb⟩;refine⟨_,rfl,?_⟩;have n0_:=qaf.mk (Kd.S_below (by (with_reducible repeat (first|apply Kd.S_alloc|apply Kd.S_drewN|apply Kd.S_drew));exact (Kd.S_mono (Kd.S_far (p:=⟨gb144,2,none⟩) (Kd.S_far (p:=⟨gb144,1,none⟩) (Kd.S_far (p:=⟨gb144,0,none⟩) (Kd.S_types HO132.out BK144.out (by decide)) (fun _ hk=>hk.2) (.int .i64 t137)) (fun _ hk=>hk.2) (.int .i64 t138)) (fun _ hk=>hk.2) (.slice Ao39 t139.length co39)) (fun _ h_=>h_.1))) hb);have n1_:=qaf.mk (Kd.S_below (by (with_reducible repeat (first|apply Kd.S_alloc|apply Kd.S_drewN|apply Kd.S_drew));exact (Kd.S_mono (Kd.S_far (p:=⟨gb144,2,none⟩) (Kd.S_far (p:=⟨gb144,1,none⟩) (Kd.S_far (p:=⟨gb144,0,none⟩) (Kd.S_types HO141.out BK144.out (by decide)) (fun _ hk=>hk.2) (.int .i64 t137)) (fun _ hk=>hk.2) (.int .i64 t138)) (fun _ hk=>hk.2) (.slice Ao39 t139.length co39)) (fun _ h_=>h_.1))) hb);have n2_:=qaf.mk (qas (g:=gb135) (o:=.cells #[.int .i64 t128,.int .i64 t129,.slice Ao33 t130.length co33] 32 (0,0)) (by (with_reducible repeat (first|refine qah ?_ _|refine qaj ?_|refine qai ?_ _));refine qaX ?_ NB135_144.out _;(with_reducible repeat (first|refine qah ?_ _|refine qaj ?_|refine qai ?_ _));refine qaX ?_ NB135_144.out _;(with_reducible repeat (first|refine qah ?_ _|refine qaj ?_|refine qai ?_ _));refine qaX ?_ NB135_144.out _;(with_reducible repeat (first|refine qah ?_ _|refine qaj ?_|refine qai ?_ _));exact BK135.out) hb);have n3_:=qaf.mk (qas (g:=gb144) (o:=.cells #[.int .i64 t137,.int .i64 t138,.slice Ao39 t139.length co39] 32 (0,0)) (by (with_reducible repeat (first|refine qah ?_ _|refine qaj ?_|refine qai ?_ _));refine qaG (cs:=#[.int .i64 t137,.int .i64 t138,.slice none 0 0]) ?_ 2 _ rfl;(with_reducible repeat (first|refine qah ?_ _|refine qaj ?_|refine qai ?_ _));refine qaG (cs:=#[.int .i64 t137,.int .i64 0,.slice none 0 0]) ?_ 1 _ rfl;(with_reducible repeat (first|refine qah ?_ _|refine qaj ?_|refine qai ?_ _));refine qaG (cs:=#[.int .i64 0,.int .i64 0,.slice none 0 0]) ?_ 0 _ rfl;(with_reducible repeat (first|refine qah ?_ _|refine qaj ?_|refine qai ?_ _));exact BK144.out) hb);have n4_:=qaf.mk (qal (by repeat (first|(with_reducible first|exact HB.out|apply qae|apply qab|apply qad|refine qag ?_ GE135.out|refine qag ?_ GE144.out)|exact HB.out)) hb);clear HO132;clear HO141;clear BK135;clear BK144;clear HB;have HO132:=n0_;have HO141:=n1_;have BK135:=n2_;have BK144:=n3_;have HB:=n4_;clear n0_ n1_ n2_ n3_ n4_;(try clear hb);(try clear hb2);(try clear hk);(try clear hi);have hcz42_0:w41.cell? ⟨gb135,0,none⟩=some (.int .i64 t128):=(qac BK135.out 0).trans rfl;have hcz42_1:w41.cell? ⟨gb135,1,none⟩=some (.int .i64 t129):=(qac BK135.out 1).trans rfl;have hcz42_2:w41.cell? ⟨gb135,2,none⟩=some (.slice Ao33 t130.length co33):=(qac BK135.out 2).trans rfl;have hfz42_0:=qaa BK135.out 0;have hfz42_1:=qaa BK135.out 1;have hfz42_2:=qaa BK135.out 2)|(go_at_call 16;(with_reducible refine (ostinatoref05_Check.calls k t128 t129 _ _ t130 t146 _ ?side1 ?side2 A11.out).mono ?_);(case side1=>repeat (first|exact (Kd.S_reads' HO132.out).2.2|(with_reducible refine Kd.C_alloc ?_ _)|(with_reducible refine Kd.C_drewN ?_ _)|(with_reducible refine Kd.C_drew ?_)));(case side2=>exact (Kd.S_reads' HO132.out).2.1);rintro e w43 ⟨rfl,hb⟩;have n0_:=qaf.mk (Kd.S_below (by (with_reducible repeat (first|apply Kd.S_alloc|apply Kd.S_drewN|apply Kd.S_drew));exact HO132.out) hb);have n1_:=qaf.mk (Kd.S_below (by (with_reducible repeat (first|apply Kd.S_alloc|apply Kd.S_drewN|apply Kd.S_drew));exact HO141.out) hb);have n2_:=qaf.mk (qas (g:=gb135) (o:=.cells #[.int .i64 t128,.int .i64 t129,.slice Ao33 t130.length co33] 32 (0,0)) (by (with_reducible repeat (first|refine qah ?_ _|refine qaj ?_|refine qai ?_ _));exact BK135.out) hb);have n3_:=qaf.mk (qas (g:=gb144) (o:=.cells #[.int .i64 t137,.int .i64 t138,.slice Ao39 t139.length co39] 32 (0,0)) (by (with_reducible repeat (first|refine qah ?_ _|refine qaj ?_|refine qai ?_ _));exact BK144.out) hb);have n4_:=qaf.mk (qal (by repeat (first|(with_reducible first|exact HB.out|apply qae|apply qab|apply qad|refine qag ?_ GE135.out|refine qag ?_ GE144.out)|exact HB.out)) hb);clear HO132;clear HO141;clear BK135;clear BK144;clear HB;have HO132:=n0_;have HO141:=n1_;have BK135:=n2_;have BK144:=n3_;have HB:=n4_;clear n0_ n1_ n2_ n3_ n4_;(try clear hb);(try clear hb2);(try clear hk);(try clear hi)))
      go_ret
      exact⟨by first|rfl|(simp [qao,qan]<;>rfl)|(simp [bneNil,bneNilU]<;>rfl)|(simp [*,qao,qan]<;>rfl),by repeat (first|(with_reducible first|exact HB.out|apply qae|apply qab|apply qad|refine qag ?_ GE135.out|refine qag ?_ GE144.out)|exact HB.out)⟩
    ·rw [if_neg c12] at H
     have c12b0:(t146 == 0)=false:=beq_eq_false_iff_ne.mpr c12
     have c12b1:(t146 != 0)=true:=bne_iff_ne.mpr c12
     obtain rfl:=Option.some.inj H
     go_enter Tryd.func5,Tryd.ntmps5
     go_wp2_with (first|((with_reducible refine qaq (f:=8) rfl ?_);refine qaC (some 11) rfl rfl Tryd.func8 (by kernel_rfl) rfl #[] rfl (by (try simp only [List.map_toArray,List.map_cons,List.map_nil]);first|done|rfl|(simp only [List.length_drop,List.length_take];rfl)) ?_;(with_reducible refine (ostinatolaw07_awake.calls  true _ A2.out (Tabs.below HT.out (by repeat (first|(with_reducible first|exact HB.out|apply qae|apply qab|apply qad)|exact HB.out)))).mono ?_);rintro e w44 ⟨rfl,hb⟩;refine⟨_,rfl,?_⟩;have n0_:=qaf.mk (qal (by repeat (first|(with_reducible first|exact HB.out|apply qae|apply qab|apply qad)|exact HB.out)) hb);clear HB;have HB:=n0_;clear n0_;(try clear hb);(try clear hb2);(try clear hk);(try clear hi))|((with_reducible refine qaq (f:=9) rfl ?_);refine qaC (some 13) rfl rfl Tryd.func9 (by kernel_rfl) rfl #[.string a0,.int .i64 200] rfl (by (try simp only [List.map_toArray,List.map_cons,List.map_nil]);first|done|rfl|(simp only [List.length_drop,List.length_take];rfl)) ?_;(with_reducible refine (ostinatolaw07_short.calls a0 200 t127 _ A3.out).mono ?_);rintro e w' ⟨rfl,⟨nd,rfl⟩⟩;refine⟨_,rfl,?_⟩;(try (rw [qaM w44];generalize hq_:World.drewN w44 _=w44;have n0_:qaf (Below w.heap.size w w44):=⟨by rw [← hq_];exact (by repeat (first|(with_reducible first|exact HB.out|apply qae|apply qab|apply qad)|exact HB.out))⟩;clear HB hq_;have HB:=n0_;clear n0_)))|((with_reducible refine qaq (f:=12) rfl ?_);refine qaC (some 16) rfl rfl Tryd.func12 (by kernel_rfl) rfl #[.string t127] rfl (by (try simp only [List.map_toArray,List.map_cons,List.map_nil]);first|done|rfl|(simp only [List.length_drop,List.length_take];rfl)) ?_;(with_reducible refine (parse_Parse.calls t127 t128 t129 t130 t133 t134 _ A4.out (Tabs.below HT.out (by repeat (first|(with_reducible first|exact HB.out|apply qae|apply qab|apply qad)|exact HB.out)))).mono ?_);rintro e w45 ⟨v131,rfl,ho0,hb⟩;refine⟨_,rfl,?_⟩;have n0_:=qaf.mk (Kd.S_lower ho0 (qam (by repeat (first|(with_reducible first|exact HB.out|apply qae|apply qab|apply qad)|exact HB.out))));have n1_:=qaf.mk (qal (by repeat (first|(with_reducible first|exact HB.out|apply qae|apply qab|apply qad)|exact HB.out)) hb);clear HB;have HO132:=n0_;have HB:=n1_;clear n0_ n1_;(try clear hb);(try clear hb2);(try clear hk);(try clear hi);(try clear ho0))|((with_reducible refine qaD (N:=4) rfl ?_);(try (refine qaz (by rfl) ?_;dsimp only));refine qay ?hg (N:=4) ?hd (cs:=#[.int .i64 0,.int .i64 0,.slice none 0 0]) (t:=32) ?hr ?_;(case hd=>rfl);(case hg=>rfl);(case hr=>first|(go_simp;done)|(go_simp;rfl));intro gb135 hg w46 hbox hb;have n0_:=qaf.mk (Kd.S_below (by (with_reducible repeat (first|apply Kd.S_alloc|apply Kd.S_drewN|apply Kd.S_drew));exact HO132.out) hb);have n1_:=qaf.mk (qal (by repeat (first|(with_reducible first|exact HB.out|apply qae|apply qab|apply qad)|exact HB.out)) hb);have n2_:=qaf.mk (hbox);have n3_:=qaf.mk ((by rw [hg];exact (qam (by repeat (first|(with_reducible first|exact HB.out|apply qae|apply qab|apply qad)|exact HB.out))):w.heap.size≤gb135));have n4_:=qaf.mk ((by rw [hg];exact (qam (by repeat (first|(with_reducible first|exact HB.out|apply qae|apply qab|apply qad)|exact HB.out))):w.heap.size≤gb135));clear HO132;clear HB;have HO132:=n0_;have HB:=n1_;have BK135:=n2_;have GW135:=n3_;have GE135:=n4_;clear n0_ n1_ n2_ n3_ n4_;clear hb hbox hg;have hcz47_0:w46.cell? ⟨gb135,0,none⟩=some (.int .i64 0):=(qac BK135.out 0).trans rfl;have hcz47_1:w46.cell? ⟨gb135,1,none⟩=some (.int .i64 0):=(qac BK135.out 1).trans rfl;have hcz47_2:w46.cell? ⟨gb135,2,none⟩=some (.slice none 0 0):=(qac BK135.out 2).trans rfl;have hfz47_0:=qaa BK135.out 0;have hfz47_1:=qaa BK135.out 1;have hfz47_2:=qaa BK135.out 2;obtain⟨Ao48,co48,eo48⟩:=Kd.S_slice HO132.out;subst eo48)|((with_reducible refine qaq (f:=15) rfl ?_);refine qaC (some 51) rfl rfl Tryd.func15 (by kernel_rfl) rfl #[.agg #[.int .i64 t128,.int .i64 t129,.slice Ao48 t130.length co48]] rfl (by (try simp only [List.map_toArray,List.map_cons,List.map_nil]);first|done|rfl|(simp only [List.length_drop,List.length_take];rfl)) ?_;(with_reducible refine (parse_Print.calls t128 t129 _ _ t130 t136 _ ?side1 ?side2 A6.out (Tabs.below HT.out (by repeat (first|(with_reducible first|exact HB.out|apply qae|apply qab|apply qad|refine qag ?_ GE135.out)|exact HB.out)))).mono ?_);(case side1=>refine (Kd.S_reads' (e:=52) (base:=w.heap.size) (ok:=fun k_=>True) (n:=t130.length) (c:=co48) ?_).2.2;exact (by (with_reducible repeat (first|apply Kd.S_alloc|apply Kd.S_drewN|apply Kd.S_drew));exact (Kd.S_mono (Kd.S_far (p:=⟨gb135,2,none⟩) (Kd.S_far (p:=⟨gb135,1,none⟩) (Kd.S_far (p:=⟨gb135,0,none⟩) (Kd.S_types HO132.out BK135.out (by decide)) (fun _ hk=>hk.2) (.int .i64 t128)) (fun _ hk=>hk.2) (.int .i64 t129)) (fun _ hk=>hk.2) (.slice Ao48 t130.length co48)) (fun _ h_=>h_.1))));(case side2=>exact (Kd.S_reads' HO132.out).2.1);rintro e w49 ⟨rfl,hb⟩;refine⟨_,rfl,?_⟩;have n0_:=qaf.mk (Kd.S_below (by (with_reducible repeat (first|apply Kd.S_alloc|apply Kd.S_drewN|apply Kd.S_drew));exact (Kd.S_mono (Kd.S_far (p:=⟨gb135,2,none⟩) (Kd.S_far (p:=⟨gb135,1,none⟩) (Kd.S_far (p:=⟨gb135,0,none⟩) (Kd.S_types HO132.out BK135.out (by decide)) (fun _ hk=>hk.2) (.int .i64 t128)) (fun _ hk=>hk.2) (.int .i64 t129)) (fun _ hk=>hk.2) (.slice Ao48 t130.length co48)) (fun _ h_=>h_.1))) hb);have n1_:=qaf.mk (qas (g:=gb135) (o:=.cells #[.int .i64 t128,.int .i64 t129,.slice Ao48 t130.length co48] 32 (0,0)) (by (with_reducible repeat (first|refine qah ?_ _|refine qaj ?_|refine qai ?_ _));refine qaG (cs:=#[.int .i64 t128,.int .i64 t129,.slice none 0 0]) ?_ 2 _ rfl;(with_reducible repeat (first|refine qah ?_ _|refine qaj ?_|refine qai ?_ _));refine qaG (cs:=#[.int .i64 t128,.int .i64 0,.slice none 0 0]) ?_ 1 _ rfl;(with_reducible repeat (first|refine qah ?_ _|refine qaj ?_|refine qai ?_ _));refine qaG (cs:=#[.int .i64 0,.int .i64 0,.slice none 0 0]) ?_ 0 _ rfl;(with_reducible repeat (first|refine qah ?_ _|refine qaj ?_|refine qai ?_ _));exact BK135.out) hb);have n2_:=qaf.mk (qal (by repeat (first|(with_reducible first|exact HB.out|apply qae|apply qab|apply qad|refine qag ?_ GE135.out)|exact HB.out)) hb);clear HO132;clear BK135;clear HB;have HO132:=n0_;have BK135:=n1_;have HB:=n2_;clear n0_ n1_ n2_;(try clear hb);(try clear hb2);(try clear hk);(try clear hi))|((with_reducible refine qaq (f:=12) rfl ?_);refine qaC (some 52) rfl rfl Tryd.func12 (by kernel_rfl) rfl #[.string t136] rfl (by (try simp only [List.map_toArray,List.map_cons,List.map_nil]);first|done|rfl|(simp only [List.length_drop,List.length_take];rfl)) ?_;(with_reducible refine (parse_Parse.calls t136 t137 t138 t139 t142 t143 _ A7.out (Tabs.below HT.out (by repeat (first|(with_reducible first|exact HB.out|apply qae|apply qab|apply qad|refine qag ?_ GE135.out)|exact HB.out)))).mono ?_);rintro e w50 ⟨v140,rfl,ho0,hb⟩;refine⟨_,rfl,?_⟩;have n0_:=qaf.mk (Kd.S_elder' (by (with_reducible repeat (first|apply Kd.S_alloc|apply Kd.S_drewN|apply Kd.S_drew));exact HO132.out) (Kd.S_base ho0) hb);have n1_:=qaf.mk (Kd.S_lower (Kd.S_new' ho0 (Kd.S_lt (by (with_reducible repeat (first|apply Kd.S_alloc|apply Kd.S_drewN|apply Kd.S_drew));exact HO132.out))) (qam (by repeat (first|(with_reducible first|exact HB.out|apply qae|apply qab|apply qad|refine qag ?_ GE135.out)|exact HB.out))));have n2_:=qaf.mk (qas (g:=gb135) (o:=.cells #[.int .i64 t128,.int .i64 t129,.slice Ao48 t130.length co48] 32 (0,0)) (by (with_reducible repeat (first|refine qah ?_ _|refine qaj ?_|refine qai ?_ _));exact BK135.out) hb);have n3_:=qaf.mk (qal (by repeat (first|(with_reducible first|exact HB.out|apply qae|apply qab|apply qad|refine qag ?_ GE135.out)|exact HB.out)) hb);clear HO132;clear BK135;clear HB;have HO132:=n0_;have HO141:=n1_;have BK135:=n2_;have HB:=n3_;clear n0_ n1_ n2_ n3_;(try clear hb);(try clear hb2);(try clear hk);(try clear hi);(try clear ho0))|((with_reducible refine qaD (N:=7) rfl ?_);(try (refine qaz (by rfl) ?_;dsimp only));refine qay ?hg (N:=7) ?hd (cs:=#[.int .i64 0,.int .i64 0,.slice none 0 0]) (t:=32) ?hr ?_;(case hd=>rfl);(case hg=>rfl);(case hr=>first|(go_simp;done)|(go_simp;rfl));intro gb144 hg w51 hbox hb;have n0_:=qaf.mk (Kd.S_below (by (with_reducible repeat (first|apply Kd.S_alloc|apply Kd.S_drewN|apply Kd.S_drew));exact HO132.out) hb);have n1_:=qaf.mk (Kd.S_below (by (with_reducible repeat (first|apply Kd.S_alloc|apply Kd.S_drewN|apply Kd.S_drew));exact HO141.out) hb);have n2_:=qaf.mk (qas (g:=gb135) (o:=.cells #[.int .i64 t128,.int .i64 t129,.slice Ao48 t130.length co48] 32 (0,0)) (by (with_reducible repeat (first|refine qah ?_ _|refine qaj ?_|refine qai ?_ _));exact BK135.out) hb);have n3_:=qaf.mk (qal (by repeat (first|(with_reducible first|exact HB.out|apply qae|apply qab|apply qad|refine qag ?_ GE135.out)|exact HB.out)) hb);have n4_:=qaf.mk (hbox);have n5_:=qaf.mk ((by rw [hg];exact (qam (by repeat (first|(with_reducible first|exact HB.out|apply qae|apply qab|apply qad|refine qag ?_ GE135.out)|exact HB.out))):w.heap.size≤gb144));have n6_:=qaf.mk ((by rw [hg];exact (qam (by repeat (first|(with_reducible first|exact HB.out|apply qae|apply qab|apply qad|refine qag ?_ GE135.out)|exact HB.out))):w.heap.size≤gb144));have n7_:=qaf.mk ((by rw [hg];exact Nat.ne_of_lt (qaQ (g:=gb135) (o:=.cells #[.int .i64 t128,.int .i64 t129,.slice Ao48 t130.length co48] 32 (0,0)) (by (with_reducible repeat (first|refine qah ?_ _|refine qaj ?_|refine qai ?_ _));exact BK135.out)):gb135≠gb144));have n8_:=qaf.mk ((by rw [hg];exact Nat.ne_of_gt (qaQ (g:=gb135) (o:=.cells #[.int .i64 t128,.int .i64 t129,.slice Ao48 t130.length co48] 32 (0,0)) (by (with_reducible repeat (first|refine qah ?_ _|refine qaj ?_|refine qai ?_ _));exact BK135.out)):gb144≠gb135));clear HO132;clear HO141;clear BK135;clear HB;have HO132:=n0_;have HO141:=n1_;have BK135:=n2_;have HB:=n3_;have BK144:=n4_;have GW144:=n5_;have GE144:=n6_;have NB135_144:=n7_;have NB144_135:=n8_;clear n0_ n1_ n2_ n3_ n4_ n5_ n6_ n7_ n8_;clear hb hbox hg;have hnb52:=NB144_135.out;have hnc52:=NB135_144.out;have hcz53_0:w51.cell? ⟨gb144,0,none⟩=some (.int .i64 0):=(qac BK144.out 0).trans rfl;have hcz53_1:w51.cell? ⟨gb144,1,none⟩=some (.int .i64 0):=(qac BK144.out 1).trans rfl;have hcz53_2:w51.cell? ⟨gb144,2,none⟩=some (.slice none 0 0):=(qac BK144.out 2).trans rfl;have hfz53_0:=qaa BK144.out 0;have hfz53_1:=qaa BK144.out 1;have hfz53_2:=qaa BK144.out 2;obtain⟨Ao54,co54,eo54⟩:=Kd.S_slice HO141.out;subst eo54;have hcz55_0:w51.cell? ⟨gb135,0,none⟩=some (.int .i64 t128):=(qac BK135.out 0).trans rfl;have hcz55_1:w51.cell? ⟨gb135,1,none⟩=some (.int .i64 t129):=(qac BK135.out 1).trans rfl;have hcz55_2:w51.cell? ⟨gb135,2,none⟩=some (.slice Ao48 t130.length co48):=(qac BK135.out 2).trans rfl;have hfz55_0:=qaa BK135.out 0;have hfz55_1:=qaa BK135.out 1;have hfz55_2:=qaa BK135.out 2)|((with_reducible refine qaq (f:=14) rfl ?_);refine qaC (some 58) rfl rfl Tryd.func14 (by kernel_rfl) rfl #[.agg #[.int .i64 t128,.int .i64 t129,.slice Ao48 t130.length co48],.agg #[.int .i64 t137,.int .i64 t138,.slice Ao54 t139.length co54]] rfl (by (try simp only [List.map_toArray,List.map_cons,List.map_nil]);first|done|rfl|(simp only [List.length_drop,List.length_take];rfl)) ?_;(with_reducible refine (ostinatoref05_Same.calls k t128 t129 _ _ t130 t137 t138 _ _ t139 t145 _ ?side1 ?side2 ?side3 ?side4 A8.out).mono ?_);(case side1=>refine (Kd.S_reads' (e:=52) (base:=w.heap.size) (ok:=fun k_=>(True∧some k_≠(.slice Ao54 t139.length co54:Value).ownBlock)) (n:=t130.length) (c:=co48) ?_).2.2;exact (by (with_reducible repeat (first|apply Kd.S_alloc|apply Kd.S_drewN|apply Kd.S_drew));exact (Kd.S_mono (Kd.S_far (p:=⟨gb144,2,none⟩) (Kd.S_far (p:=⟨gb144,1,none⟩) (Kd.S_far (p:=⟨gb144,0,none⟩) (Kd.S_types HO132.out BK144.out (by decide)) (fun _ hk=>hk.2) (.int .i64 t137)) (fun _ hk=>hk.2) (.int .i64 t138)) (fun _ hk=>hk.2) (.slice Ao54 t139.length co54)) (fun _ h_=>h_.1))));(case side2=>exact (Kd.S_reads' HO132.out).2.1);(case side3=>refine (Kd.S_reads' (e:=52) (base:=w.heap.size) (ok:=fun k_=>(True∧some k_≠(.slice Ao48 t130.length co48:Value).ownBlock)) (n:=t139.length) (c:=co54) ?_).2.2;exact (by (with_reducible repeat (first|apply Kd.S_alloc|apply Kd.S_drewN|apply Kd.S_drew));exact (Kd.S_mono (Kd.S_far (p:=⟨gb144,2,none⟩) (Kd.S_far (p:=⟨gb144,1,none⟩) (Kd.S_far (p:=⟨gb144,0,none⟩) (Kd.S_types HO141.out BK144.out (by decide)) (fun _ hk=>hk.2) (.int .i64 t137)) (fun _ hk=>hk.2) (.int .i64 t138)) (fun _ hk=>hk.2) (.slice Ao54 t139.length co54)) (fun _ h_=>h_.1))));(case side4=>exact (Kd.S_reads' HO141.out).2.1);rintro e w56 ⟨rfl,hb⟩;refine⟨_,rfl,?_⟩;have n0_:=qaf.mk (Kd.S_below (by (with_reducible repeat (first|apply Kd.S_alloc|apply Kd.S_drewN|apply Kd.S_drew));exact (Kd.S_mono (Kd.S_far (p:=⟨gb144,2,none⟩) (Kd.S_far (p:=⟨gb144,1,none⟩) (Kd.S_far (p:=⟨gb144,0,none⟩) (Kd.S_types HO132.out BK144.out (by decide)) (fun _ hk=>hk.2) (.int .i64 t137)) (fun _ hk=>hk.2) (.int .i64 t138)) (fun _ hk=>hk.2) (.slice Ao54 t139.length co54)) (fun _ h_=>h_.1))) hb);have n1_:=qaf.mk (Kd.S_below (by (with_reducible repeat (first|apply Kd.S_alloc|apply Kd.S_drewN|apply Kd.S_drew));exact (Kd.S_mono (Kd.S_far (p:=⟨gb144,2,none⟩) (Kd.S_far (p:=⟨gb144,1,none⟩) (Kd.S_far (p:=⟨gb144,0,none⟩) (Kd.S_types HO141.out BK144.out (by decide)) (fun _ hk=>hk.2) (.int .i64 t137)) (fun _ hk=>hk.2) (.int .i64 t138)) (fun _ hk=>hk.2) (.slice Ao54 t139.length co54)) (fun _ h_=>h_.1))) hb);have n2_:=qaf.mk (qas (g:=gb135) (o:=.cells #[.int .i64 t128,.int .i64 t129,.slice Ao48 t130.length co48] 32 (0,0)) (by (with_reducible repeat (first|refine qah ?_ _|refine qaj ?_|refine qai ?_ _));refine qaX ?_ NB135_144.out _;(with_reducible repeat (first|refine qah ?_ _|refine qaj ?_|refine qai ?_ _));refine qaX ?_ NB135_144.out _;(with_reducible repeat (first|refine qah ?_ _|refine qaj ?_|refine qai ?_ _));refine qaX ?_ NB135_144.out _;(with_reducible repeat (first|refine qah ?_ _|refine qaj ?_|refine qai ?_ _));exact BK135.out) hb);have n3_:=qaf.mk (qas (g:=gb144) (o:=.cells #[.int .i64 t137,.int .i64 t138,.slice Ao54 t139.length co54] 32 (0,0)) (by (with_reducible repeat (first|refine qah ?_ _|refine qaj ?_|refine qai ?_ _));refine qaG (cs:=#[.int .i64 t137,.int .i64 t138,.slice none 0 0]) ?_ 2 _ rfl;(with_reducible repeat (first|refine qah ?_ _|refine qaj ?_|refine qai ?_ _));refine qaG (cs:=#[.int .i64 t137,.int .i64 0,.slice none 0 0]) ?_ 1 _ rfl;(with_reducible repeat (first|refine qah ?_ _|refine qaj ?_|refine qai ?_ _));refine qaG (cs:=#[.int .i64 0,.int .i64 0,.slice none 0 0]) ?_ 0 _ rfl;(with_reducible repeat (first|refine qah ?_ _|refine qaj ?_|refine qai ?_ _));exact BK144.out) hb);have n4_:=qaf.mk (qal (by repeat (first|(with_reducible first|exact HB.out|apply qae|apply qab|apply qad|refine qag ?_ GE135.out|refine qag ?_ GE144.out)|exact HB.out)) hb);clear HO132;clear HO141;clear BK135;clear BK144;clear HB;have HO132:=n0_;have HO141:=n1_;have BK135:=n2_;have BK144:=n3_;have HB:=n4_;clear n0_ n1_ n2_ n3_ n4_;(try clear hb);(try clear hb2);(try clear hk);(try clear hi);have hcz57_0:w56.cell? ⟨gb135,0,none⟩=some (.int .i64 t128):=(qac BK135.out 0).trans rfl;have hcz57_1:w56.cell? ⟨gb135,1,none⟩=some (.int .i64 t129):=(qac BK135.out 1).trans rfl;have hcz57_2:w56.cell? ⟨gb135,2,none⟩=some (.slice Ao48 t130.length co48):=(qac BK135.out 2).trans rfl;have hfz57_0:=qaa BK135.out 0;have hfz57_1:=qaa BK135.out 1;have hfz57_2:=qaa BK135.out 2)|(go_at_call 16;(with_reducible refine (ostinatoref05_Check.calls k t128 t129 _ _ t130 t146 _ ?side1 ?side2 A11.out).mono ?_);(case side1=>repeat (first|exact (Kd.S_reads' HO132.out).2.2|(with_reducible refine Kd.C_alloc ?_ _)|(with_reducible refine Kd.C_drewN ?_ _)|(with_reducible refine Kd.C_drew ?_)));(case side2=>exact (Kd.S_reads' HO132.out).2.1);rintro e w58 ⟨rfl,hb⟩;have n0_:=qaf.mk (Kd.S_below (by (with_reducible repeat (first|apply Kd.S_alloc|apply Kd.S_drewN|apply Kd.S_drew));exact HO132.out) hb);have n1_:=qaf.mk (Kd.S_below (by (with_reducible repeat (first|apply Kd.S_alloc|apply Kd.S_drewN|apply Kd.S_drew));exact HO141.out) hb);have n2_:=qaf.mk (qas (g:=gb135) (o:=.cells #[.int .i64 t128,.int .i64 t129,.slice Ao48 t130.length co48] 32 (0,0)) (by (with_reducible repeat (first|refine qah ?_ _|refine qaj ?_|refine qai ?_ _));exact BK135.out) hb);have n3_:=qaf.mk (qas (g:=gb144) (o:=.cells #[.int .i64 t137,.int .i64 t138,.slice Ao54 t139.length co54] 32 (0,0)) (by (with_reducible repeat (first|refine qah ?_ _|refine qaj ?_|refine qai ?_ _));exact BK144.out) hb);have n4_:=qaf.mk (qal (by repeat (first|(with_reducible first|exact HB.out|apply qae|apply qab|apply qad|refine qag ?_ GE135.out|refine qag ?_ GE144.out)|exact HB.out)) hb);clear HO132;clear HO141;clear BK135;clear BK144;clear HB;have HO132:=n0_;have HO141:=n1_;have BK135:=n2_;have BK144:=n3_;have HB:=n4_;clear n0_ n1_ n2_ n3_ n4_;(try clear hb);(try clear hb2);(try clear hk);(try clear hi)))
     go_ret
     exact⟨by first|rfl|(simp [qao,qan]<;>rfl)|(simp [bneNil,bneNilU]<;>rfl)|(simp [*,qao,qan]<;>rfl),by repeat (first|(with_reducible first|exact HB.out|apply qae|apply qab|apply qad|refine qag ?_ GE135.out|refine qag ?_ GE144.out)|exact HB.out)⟩
   ·rw [if_neg c10] at H
    have c10b0:(t133 == (t127.size:Int))=false:=beq_eq_false_iff_ne.mpr c10
    have c10b1:(t133 != (t127.size:Int))=true:=bne_iff_ne.mpr c10
    obtain rfl:=Option.some.inj H
    go_enter Tryd.func5,Tryd.ntmps5
    go_wp2_with (first|((with_reducible refine qaq (f:=8) rfl ?_);refine qaC (some 11) rfl rfl Tryd.func8 (by kernel_rfl) rfl #[] rfl (by (try simp only [List.map_toArray,List.map_cons,List.map_nil]);first|done|rfl|(simp only [List.length_drop,List.length_take];rfl)) ?_;(with_reducible refine (ostinatolaw07_awake.calls  true _ A2.out (Tabs.below HT.out (by repeat (first|(with_reducible first|exact HB.out|apply qae|apply qab|apply qad)|exact HB.out)))).mono ?_);rintro e w59 ⟨rfl,hb⟩;refine⟨_,rfl,?_⟩;have n0_:=qaf.mk (qal (by repeat (first|(with_reducible first|exact HB.out|apply qae|apply qab|apply qad)|exact HB.out)) hb);clear HB;have HB:=n0_;clear n0_;(try clear hb);(try clear hb2);(try clear hk);(try clear hi))|((with_reducible refine qaq (f:=9) rfl ?_);refine qaC (some 13) rfl rfl Tryd.func9 (by kernel_rfl) rfl #[.string a0,.int .i64 200] rfl (by (try simp only [List.map_toArray,List.map_cons,List.map_nil]);first|done|rfl|(simp only [List.length_drop,List.length_take];rfl)) ?_;(with_reducible refine (ostinatolaw07_short.calls a0 200 t127 _ A3.out).mono ?_);rintro e w' ⟨rfl,⟨nd,rfl⟩⟩;refine⟨_,rfl,?_⟩;(try (rw [qaM w59];generalize hq_:World.drewN w59 _=w59;have n0_:qaf (Below w.heap.size w w59):=⟨by rw [← hq_];exact (by repeat (first|(with_reducible first|exact HB.out|apply qae|apply qab|apply qad)|exact HB.out))⟩;clear HB hq_;have HB:=n0_;clear n0_)))|((with_reducible refine qaq (f:=12) rfl ?_);refine qaC (some 16) rfl rfl Tryd.func12 (by kernel_rfl) rfl #[.string t127] rfl (by (try simp only [List.map_toArray,List.map_cons,List.map_nil]);first|done|rfl|(simp only [List.length_drop,List.length_take];rfl)) ?_;(with_reducible refine (parse_Parse.calls t127 t128 t129 t130 t133 t134 _ A4.out (Tabs.below HT.out (by repeat (first|(with_reducible first|exact HB.out|apply qae|apply qab|apply qad)|exact HB.out)))).mono ?_);rintro e w60 ⟨v131,rfl,ho0,hb⟩;refine⟨_,rfl,?_⟩;have n0_:=qaf.mk (Kd.S_lower ho0 (qam (by repeat (first|(with_reducible first|exact HB.out|apply qae|apply qab|apply qad)|exact HB.out))));have n1_:=qaf.mk (qal (by repeat (first|(with_reducible first|exact HB.out|apply qae|apply qab|apply qad)|exact HB.out)) hb);clear HB;have HO132:=n0_;have HB:=n1_;clear n0_ n1_;(try clear hb);(try clear hb2);(try clear hk);(try clear hi);(try clear ho0))|((with_reducible refine qaD (N:=4) rfl ?_);(try (refine qaz (by rfl) ?_;dsimp only));refine qay ?hg (N:=4) ?hd (cs:=#[.int .i64 0,.int .i64 0,.slice none 0 0]) (t:=32) ?hr ?_;(case hd=>rfl);(case hg=>rfl);(case hr=>first|(go_simp;done)|(go_simp;rfl));intro gb135 hg w61 hbox hb;have n0_:=qaf.mk (Kd.S_below (by (with_reducible repeat (first|apply Kd.S_alloc|apply Kd.S_drewN|apply Kd.S_drew));exact HO132.out) hb);have n1_:=qaf.mk (qal (by repeat (first|(with_reducible first|exact HB.out|apply qae|apply qab|apply qad)|exact HB.out)) hb);have n2_:=qaf.mk (hbox);have n3_:=qaf.mk ((by rw [hg];exact (qam (by repeat (first|(with_reducible first|exact HB.out|apply qae|apply qab|apply qad)|exact HB.out))):w.heap.size≤gb135));have n4_:=qaf.mk ((by rw [hg];exact (qam (by repeat (first|(with_reducible first|exact HB.out|apply qae|apply qab|apply qad)|exact HB.out))):w.heap.size≤gb135));clear HO132;clear HB;have HO132:=n0_;have HB:=n1_;have BK135:=n2_;have GW135:=n3_;have GE135:=n4_;clear n0_ n1_ n2_ n3_ n4_;clear hb hbox hg;have hcz62_0:w61.cell? ⟨gb135,0,none⟩=some (.int .i64 0):=(qac BK135.out 0).trans rfl;have hcz62_1:w61.cell? ⟨gb135,1,none⟩=some (.int .i64 0):=(qac BK135.out 1).trans rfl;have hcz62_2:w61.cell? ⟨gb135,2,none⟩=some (.slice none 0 0):=(qac BK135.out 2).trans rfl;have hfz62_0:=qaa BK135.out 0;have hfz62_1:=qaa BK135.out 1;have hfz62_2:=qaa BK135.out 2;obtain⟨Ao63,co63,eo63⟩:=Kd.S_slice HO132.out;subst eo63)|((with_reducible refine qaq (f:=15) rfl ?_);refine qaC (some 51) rfl rfl Tryd.func15 (by kernel_rfl) rfl #[.agg #[.int .i64 t128,.int .i64 t129,.slice Ao63 t130.length co63]] rfl (by (try simp only [List.map_toArray,List.map_cons,List.map_nil]);first|done|rfl|(simp only [List.length_drop,List.length_take];rfl)) ?_;(with_reducible refine (parse_Print.calls t128 t129 _ _ t130 t136 _ ?side1 ?side2 A6.out (Tabs.below HT.out (by repeat (first|(with_reducible first|exact HB.out|apply qae|apply qab|apply qad|refine qag ?_ GE135.out)|exact HB.out)))).mono ?_);(case side1=>refine (Kd.S_reads' (e:=52) (base:=w.heap.size) (ok:=fun k_=>True) (n:=t130.length) (c:=co63) ?_).2.2;exact (by (with_reducible repeat (first|apply Kd.S_alloc|apply Kd.S_drewN|apply Kd.S_drew));exact (Kd.S_mono (Kd.S_far (p:=⟨gb135,2,none⟩) (Kd.S_far (p:=⟨gb135,1,none⟩) (Kd.S_far (p:=⟨gb135,0,none⟩) (Kd.S_types HO132.out BK135.out (by decide)) (fun _ hk=>hk.2) (.int .i64 t128)) (fun _ hk=>hk.2) (.int .i64 t129)) (fun _ hk=>hk.2) (.slice Ao63 t130.length co63)) (fun _ h_=>h_.1))));(case side2=>exact (Kd.S_reads' HO132.out).2.1);rintro e w64 ⟨rfl,hb⟩;refine⟨_,rfl,?_⟩;have n0_:=qaf.mk (Kd.S_below (by (with_reducible repeat (first|apply Kd.S_alloc|apply Kd.S_drewN|apply Kd.S_drew));exact (Kd.S_mono (Kd.S_far (p:=⟨gb135,2,none⟩) (Kd.S_far (p:=⟨gb135,1,none⟩) (Kd.S_far (p:=⟨gb135,0,none⟩) (Kd.S_types HO132.out BK135.out (by decide)) (fun _ hk=>hk.2) (.int .i64 t128)) (fun _ hk=>hk.2) (.int .i64 t129)) (fun _ hk=>hk.2) (.slice Ao63 t130.length co63)) (fun _ h_=>h_.1))) hb);have n1_:=qaf.mk (qas (g:=gb135) (o:=.cells #[.int .i64 t128,.int .i64 t129,.slice Ao63 t130.length co63] 32 (0,0)) (by (with_reducible repeat (first|refine qah ?_ _|refine qaj ?_|refine qai ?_ _));refine qaG (cs:=#[.int .i64 t128,.int .i64 t129,.slice none 0 0]) ?_ 2 _ rfl;(with_reducible repeat (first|refine qah ?_ _|refine qaj ?_|refine qai ?_ _));refine qaG (cs:=#[.int .i64 t128,.int .i64 0,.slice none 0 0]) ?_ 1 _ rfl;(with_reducible repeat (first|refine qah ?_ _|refine qaj ?_|refine qai ?_ _));refine qaG (cs:=#[.int .i64 0,.int .i64 0,.slice none 0 0]) ?_ 0 _ rfl;(with_reducible repeat (first|refine qah ?_ _|refine qaj ?_|refine qai ?_ _));exact BK135.out) hb);have n2_:=qaf.mk (qal (by repeat (first|(with_reducible first|exact HB.out|apply qae|apply qab|apply qad|refine qag ?_ GE135.out)|exact HB.out)) hb);clear HO132;clear BK135;clear HB;have HO132:=n0_;have BK135:=n1_;have HB:=n2_;clear n0_ n1_ n2_;(try clear hb);(try clear hb2);(try clear hk);(try clear hi))|((with_reducible refine qaq (f:=12) rfl ?_);refine qaC (some 52) rfl rfl Tryd.func12 (by kernel_rfl) rfl #[.string t136] rfl (by (try simp only [List.map_toArray,List.map_cons,List.map_nil]);first|done|rfl|(simp only [List.length_drop,List.length_take];rfl)) ?_;(with_reducible refine (parse_Parse.calls t136 t137 t138 t139 t142 t143 _ A7.out (Tabs.below HT.out (by repeat (first|(with_reducible first|exact HB.out|apply qae|apply qab|apply qad|refine qag ?_ GE135.out)|exact HB.out)))).mono ?_);rintro e w65 ⟨v140,rfl,ho0,hb⟩;refine⟨_,rfl,?_⟩;have n0_:=qaf.mk (Kd.S_elder' (by (with_reducible repeat (first|apply Kd.S_alloc|apply Kd.S_drewN|apply Kd.S_drew));exact HO132.out) (Kd.S_base ho0) hb);have n1_:=qaf.mk (Kd.S_lower (Kd.S_new' ho0 (Kd.S_lt (by (with_reducible repeat (first|apply Kd.S_alloc|apply Kd.S_drewN|apply Kd.S_drew));exact HO132.out))) (qam (by repeat (first|(with_reducible first|exact HB.out|apply qae|apply qab|apply qad|refine qag ?_ GE135.out)|exact HB.out))));have n2_:=qaf.mk (qas (g:=gb135) (o:=.cells #[.int .i64 t128,.int .i64 t129,.slice Ao63 t130.length co63] 32 (0,0)) (by (with_reducible repeat (first|refine qah ?_ _|refine qaj ?_|refine qai ?_ _));exact BK135.out) hb);have n3_:=qaf.mk (qal (by repeat (first|(with_reducible first|exact HB.out|apply qae|apply qab|apply qad|refine qag ?_ GE135.out)|exact HB.out)) hb);clear HO132;clear BK135;clear HB;have HO132:=n0_;have HO141:=n1_;have BK135:=n2_;have HB:=n3_;clear n0_ n1_ n2_ n3_;(try clear hb);(try clear hb2);(try clear hk);(try clear hi);(try clear ho0))|((with_reducible refine qaD (N:=7) rfl ?_);(try (refine qaz (by rfl) ?_;dsimp only));refine qay ?hg (N:=7) ?hd (cs:=#[.int .i64 0,.int .i64 0,.slice none 0 0]) (t:=32) ?hr ?_;(case hd=>rfl);(case hg=>rfl);(case hr=>first|(go_simp;done)|(go_simp;rfl));intro gb144 hg w66 hbox hb;have n0_:=qaf.mk (Kd.S_below (by (with_reducible repeat (first|apply Kd.S_alloc|apply Kd.S_drewN|apply Kd.S_drew));exact HO132.out) hb);have n1_:=qaf.mk (Kd.S_below (by (with_reducible repeat (first|apply Kd.S_alloc|apply Kd.S_drewN|apply Kd.S_drew));exact HO141.out) hb);have n2_:=qaf.mk (qas (g:=gb135) (o:=.cells #[.int .i64 t128,.int .i64 t129,.slice Ao63 t130.length co63] 32 (0,0)) (by (with_reducible repeat (first|refine qah ?_ _|refine qaj ?_|refine qai ?_ _));exact BK135.out) hb);have n3_:=qaf.mk (qal (by repeat (first|(with_reducible first|exact HB.out|apply qae|apply qab|apply qad|refine qag ?_ GE135.out)|exact HB.out)) hb);have n4_:=qaf.mk (hbox);have n5_:=qaf.mk ((by rw [hg];exact (qam (by repeat (first|(with_reducible first|exact HB.out|apply qae|apply qab|apply qad|refine qag ?_ GE135.out)|exact HB.out))):w.heap.size≤gb144));have n6_:=qaf.mk ((by rw [hg];exact (qam (by repeat (first|(with_reducible first|exact HB.out|apply qae|apply qab|apply qad|refine qag ?_ GE135.out)|exact HB.out))):w.heap.size≤gb144));have n7_:=qaf.mk ((by rw [hg];exact Nat.ne_of_lt (qaQ (g:=gb135) (o:=.cells #[.int .i64 t128,.int .i64 t129,.slice Ao63 t130.length co63] 32 (0,0)) (by (with_reducible repeat (first|refine qah ?_ _|refine qaj ?_|refine qai ?_ _));exact BK135.out)):gb135≠gb144));have n8_:=qaf.mk ((by rw [hg];exact Nat.ne_of_gt (qaQ (g:=gb135) (o:=.cells #[.int .i64 t128,.int .i64 t129,.slice Ao63 t130.length co63] 32 (0,0)) (by (with_reducible repeat (first|refine qah ?_ _|refine qaj ?_|refine qai ?_ _));exact BK135.out)):gb144≠gb135));clear HO132;clear HO141;clear BK135;clear HB;have HO132:=n0_;have HO141:=n1_;have BK135:=n2_;have HB:=n3_;have BK144:=n4_;have GW144:=n5_;have GE144:=n6_;have NB135_144:=n7_;have NB144_135:=n8_;clear n0_ n1_ n2_ n3_ n4_ n5_ n6_ n7_ n8_;clear hb hbox hg;have hnb67:=NB144_135.out;have hnc67:=NB135_144.out;have hcz68_0:w66.cell? ⟨gb144,0,none⟩=some (.int .i64 0):=(qac BK144.out 0).trans rfl;have hcz68_1:w66.cell? ⟨gb144,1,none⟩=some (.int .i64 0):=(qac BK144.out 1).trans rfl;have hcz68_2:w66.cell? ⟨gb144,2,none⟩=some (.slice none 0 0):=(qac BK144.out 2).trans rfl;have hfz68_0:=qaa BK144.out 0;have hfz68_1:=qaa BK144.out 1;have hfz68_2:=qaa BK144.out 2;obtain⟨Ao69,co69,eo69⟩:=Kd.S_slice HO141.out;subst eo69;have hcz70_0:w66.cell? ⟨gb135,0,none⟩=some (.int .i64 t128):=(qac BK135.out 0).trans rfl;have hcz70_1:w66.cell? ⟨gb135,1,none⟩=some (.int .i64 t129):=(qac BK135.out 1).trans rfl;have hcz70_2:w66.cell? ⟨gb135,2,none⟩=some (.slice Ao63 t130.length co63):=(qac BK135.out 2).trans rfl;have hfz70_0:=qaa BK135.out 0;have hfz70_1:=qaa BK135.out 1;have hfz70_2:=qaa BK135.out 2)|((with_reducible refine qaq (f:=14) rfl ?_);refine qaC (some 58) rfl rfl Tryd.func14 (by kernel_rfl) rfl #[.agg #[.int .i64 t128,.int .i64 t129,.slice Ao63 t130.length co63],.agg #[.int .i64 t137,.int .i64 t138,.slice Ao69 t139.length co69]] rfl (by (try simp only [List.map_toArray,List.map_cons,List.map_nil]);first|done|rfl|(simp only [List.length_drop,List.length_take];rfl)) ?_;(with_reducible refine (ostinatoref05_Same.calls k t128 t129 _ _ t130 t137 t138 _ _ t139 t145 _ ?side1 ?side2 ?side3 ?side4 A8.out).mono ?_);(case side1=>refine (Kd.S_reads' (e:=52) (base:=w.heap.size) (ok:=fun k_=>(True∧some k_≠(.slice Ao69 t139.length co69:Value).ownBlock)) (n:=t130.length) (c:=co63) ?_).2.2;exact (by (with_reducible repeat (first|apply Kd.S_alloc|apply Kd.S_drewN|apply Kd.S_drew));exact (Kd.S_mono (Kd.S_far (p:=⟨gb144,2,none⟩) (Kd.S_far (p:=⟨gb144,1,none⟩) (Kd.S_far (p:=⟨gb144,0,none⟩) (Kd.S_types HO132.out BK144.out (by decide)) (fun _ hk=>hk.2) (.int .i64 t137)) (fun _ hk=>hk.2) (.int .i64 t138)) (fun _ hk=>hk.2) (.slice Ao69 t139.length co69)) (fun _ h_=>h_.1))));(case side2=>exact (Kd.S_reads' HO132.out).2.1);(case side3=>refine (Kd.S_reads' (e:=52) (base:=w.heap.size) (ok:=fun k_=>(True∧some k_≠(.slice Ao63 t130.length co63:Value).ownBlock)) (n:=t139.length) (c:=co69) ?_).2.2;exact (by (with_reducible repeat (first|apply Kd.S_alloc|apply Kd.S_drewN|apply Kd.S_drew));exact (Kd.S_mono (Kd.S_far (p:=⟨gb144,2,none⟩) (Kd.S_far (p:=⟨gb144,1,none⟩) (Kd.S_far (p:=⟨gb144,0,none⟩) (Kd.S_types HO141.out BK144.out (by decide)) (fun _ hk=>hk.2) (.int .i64 t137)) (fun _ hk=>hk.2) (.int .i64 t138)) (fun _ hk=>hk.2) (.slice Ao69 t139.length co69)) (fun _ h_=>h_.1))));(case side4=>exact (Kd.S_reads' HO141.out).2.1);rintro e w71 ⟨rfl,hb⟩;refine⟨_,rfl,?_⟩;have n0_:=qaf.mk (Kd.S_below (by (with_reducible repeat (first|apply Kd.S_alloc|apply Kd.S_drewN|apply Kd.S_drew));exact (Kd.S_mono (Kd.S_far (p:=⟨gb144,2,none⟩) (Kd.S_far (p:=⟨gb144,1,none⟩) (Kd.S_far (p:=⟨gb144,0,none⟩) (Kd.S_types HO132.out BK144.out (by decide)) (fun _ hk=>hk.2) (.int .i64 t137)) (fun _ hk=>hk.2) (.int .i64 t138)) (fun _ hk=>hk.2) (.slice Ao69 t139.length co69)) (fun _ h_=>h_.1))) hb);have n1_:=qaf.mk (Kd.S_below (by (with_reducible repeat (first|apply Kd.S_alloc|apply Kd.S_drewN|apply Kd.S_drew));exact (Kd.S_mono (Kd.S_far (p:=⟨gb144,2,none⟩) (Kd.S_far (p:=⟨gb144,1,none⟩) (Kd.S_far (p:=⟨gb144,0,none⟩) (Kd.S_types HO141.out BK144.out (by decide)) (fun _ hk=>hk.2) (.int .i64 t137)) (fun _ hk=>hk.2) (.int .i64 t138)) (fun _ hk=>hk.2) (.slice Ao69 t139.length co69)) (fun _ h_=>h_.1))) hb);have n2_:=qaf.mk (qas (g:=gb135) (o:=.cells #[.int .i64 t128,.int .i64 t129,.slice Ao63 t130.length co63] 32 (0,0)) (by (with_reducible repeat (first|refine qah ?_ _|refine qaj ?_|refine qai ?_ _));refine qaX ?_ NB135_144.out _;(with_reducible repeat (first|refine qah ?_ _|refine qaj ?_|refine qai ?_ _));refine qaX ?_ NB135_144.out _;(with_reducible repeat (first|refine qah ?_ _|refine qaj ?_|refine qai ?_ _));refine qaX ?_ NB135_144.out _;(with_reducible repeat (first|refine qah ?_ _|refine qaj ?_|refine qai ?_ _));exact BK135.out) hb);have n3_:=qaf.mk (qas (g:=gb144) (o:=.cells #[.int .i64 t137,.int .i64 t138,.slice Ao69 t139.length co69] 32 (0,0)) (by (with_reducible repeat (first|refine qah ?_ _|refine qaj ?_|refine qai ?_ _));refine qaG (cs:=#[.int .i64 t137,.int .i64 t138,.slice none 0 0]) ?_ 2 _ rfl;(with_reducible repeat (first|refine qah ?_ _|refine qaj ?_|refine qai ?_ _));refine qaG (cs:=#[.int .i64 t137,.int .i64 0,.slice none 0 0]) ?_ 1 _ rfl;(with_reducible repeat (first|refine qah ?_ _|refine qaj ?_|refine qai ?_ _));refine qaG (cs:=#[.int .i64 0,.int .i64 0,.slice none 0 0]) ?_ 0 _ rfl;(with_reducible repeat (first|refine qah ?_ _|refine qaj ?_|refine qai ?_ _));exact BK144.out) hb);have n4_:=qaf.mk (qal (by repeat (first|(with_reducible first|exact HB.out|apply qae|apply qab|apply qad|refine qag ?_ GE135.out|refine qag ?_ GE144.out)|exact HB.out)) hb);clear HO132;clear HO141;clear BK135;clear BK144;clear HB;have HO132:=n0_;have HO141:=n1_;have BK135:=n2_;have BK144:=n3_;have HB:=n4_;clear n0_ n1_ n2_ n3_ n4_;(try clear hb);(try clear hb2);(try clear hk);(try clear hi)))
    go_ret
    exact⟨by first|rfl|(simp [qao,qan]<;>rfl)|(simp [bneNil,bneNilU]<;>rfl)|(simp [*,qao,qan]<;>rfl),by repeat (first|(with_reducible first|exact HB.out|apply qae|apply qab|apply qad|refine qag ?_ GE135.out|refine qag ?_ GE144.out)|exact HB.out)⟩
  ·replace c9:=Bool.eq_false_iff.mpr c9
   subst c9
   have H1:(some false)=some r:=by rw [if_neg (show ¬ (false=true) by decide)] at H;exact H
   clear H
   have H:=H1
   clear H1
   obtain rfl:=Option.some.inj H
   go_enter Tryd.func5,Tryd.ntmps5
   go_wp2_with (first|((with_reducible refine qaq (f:=8) rfl ?_);refine qaC (some 11) rfl rfl Tryd.func8 (by kernel_rfl) rfl #[] rfl (by (try simp only [List.map_toArray,List.map_cons,List.map_nil]);first|done|rfl|(simp only [List.length_drop,List.length_take];rfl)) ?_;(with_reducible refine (ostinatolaw07_awake.calls  false _ A2.out (Tabs.below HT.out (by repeat (first|(with_reducible first|exact HB.out|apply qae|apply qab|apply qad)|exact HB.out)))).mono ?_);rintro e w72 ⟨rfl,hb⟩;refine⟨_,rfl,?_⟩;have n0_:=qaf.mk (qal (by repeat (first|(with_reducible first|exact HB.out|apply qae|apply qab|apply qad)|exact HB.out)) hb);clear HB;have HB:=n0_;clear n0_;(try clear hb);(try clear hb2);(try clear hk);(try clear hi))|((with_reducible refine qaq (f:=9) rfl ?_);refine qaC (some 13) rfl rfl Tryd.func9 (by kernel_rfl) rfl #[.string a0,.int .i64 200] rfl (by (try simp only [List.map_toArray,List.map_cons,List.map_nil]);first|done|rfl|(simp only [List.length_drop,List.length_take];rfl)) ?_;(with_reducible refine (ostinatolaw07_short.calls a0 200 t127 _ A3.out).mono ?_);rintro e w' ⟨rfl,⟨nd,rfl⟩⟩;refine⟨_,rfl,?_⟩;(try (rw [qaM w72];generalize hq_:World.drewN w72 _=w72;have n0_:qaf (Below w.heap.size w w72):=⟨by rw [← hq_];exact (by repeat (first|(with_reducible first|exact HB.out|apply qae|apply qab|apply qad)|exact HB.out))⟩;clear HB hq_;have HB:=n0_;clear n0_)))|((with_reducible refine qaq (f:=12) rfl ?_);refine qaC (some 16) rfl rfl Tryd.func12 (by kernel_rfl) rfl #[.string t127] rfl (by (try simp only [List.map_toArray,List.map_cons,List.map_nil]);first|done|rfl|(simp only [List.length_drop,List.length_take];rfl)) ?_;(with_reducible refine (parse_Parse.calls t127 t128 t129 t130 t133 t134 _ A4.out (Tabs.below HT.out (by repeat (first|(with_reducible first|exact HB.out|apply qae|apply qab|apply qad)|exact HB.out)))).mono ?_);rintro e w73 ⟨v131,rfl,ho0,hb⟩;refine⟨_,rfl,?_⟩;have n0_:=qaf.mk (Kd.S_lower ho0 (qam (by repeat (first|(with_reducible first|exact HB.out|apply qae|apply qab|apply qad)|exact HB.out))));have n1_:=qaf.mk (qal (by repeat (first|(with_reducible first|exact HB.out|apply qae|apply qab|apply qad)|exact HB.out)) hb);clear HB;have HO132:=n0_;have HB:=n1_;clear n0_ n1_;(try clear hb);(try clear hb2);(try clear hk);(try clear hi);(try clear ho0))|((with_reducible refine qaD (N:=4) rfl ?_);(try (refine qaz (by rfl) ?_;dsimp only));refine qay ?hg (N:=4) ?hd (cs:=#[.int .i64 0,.int .i64 0,.slice none 0 0]) (t:=32) ?hr ?_;(case hd=>rfl);(case hg=>rfl);(case hr=>first|(go_simp;done)|(go_simp;rfl));intro gb135 hg w74 hbox hb;have n0_:=qaf.mk (Kd.S_below (by (with_reducible repeat (first|apply Kd.S_alloc|apply Kd.S_drewN|apply Kd.S_drew));exact HO132.out) hb);have n1_:=qaf.mk (qal (by repeat (first|(with_reducible first|exact HB.out|apply qae|apply qab|apply qad)|exact HB.out)) hb);have n2_:=qaf.mk (hbox);have n3_:=qaf.mk ((by rw [hg];exact (qam (by repeat (first|(with_reducible first|exact HB.out|apply qae|apply qab|apply qad)|exact HB.out))):w.heap.size≤gb135));have n4_:=qaf.mk ((by rw [hg];exact (qam (by repeat (first|(with_reducible first|exact HB.out|apply qae|apply qab|apply qad)|exact HB.out))):w.heap.size≤gb135));clear HO132;clear HB;have HO132:=n0_;have HB:=n1_;have BK135:=n2_;have GW135:=n3_;have GE135:=n4_;clear n0_ n1_ n2_ n3_ n4_;clear hb hbox hg;have hcz75_0:w74.cell? ⟨gb135,0,none⟩=some (.int .i64 0):=(qac BK135.out 0).trans rfl;have hcz75_1:w74.cell? ⟨gb135,1,none⟩=some (.int .i64 0):=(qac BK135.out 1).trans rfl;have hcz75_2:w74.cell? ⟨gb135,2,none⟩=some (.slice none 0 0):=(qac BK135.out 2).trans rfl;have hfz75_0:=qaa BK135.out 0;have hfz75_1:=qaa BK135.out 1;have hfz75_2:=qaa BK135.out 2;obtain⟨Ao76,co76,eo76⟩:=Kd.S_slice HO132.out;subst eo76)|((with_reducible refine qaq (f:=15) rfl ?_);refine qaC (some 51) rfl rfl Tryd.func15 (by kernel_rfl) rfl #[.agg #[.int .i64 t128,.int .i64 t129,.slice Ao76 t130.length co76]] rfl (by (try simp only [List.map_toArray,List.map_cons,List.map_nil]);first|done|rfl|(simp only [List.length_drop,List.length_take];rfl)) ?_;(with_reducible refine (parse_Print.calls t128 t129 _ _ t130 t136 _ ?side1 ?side2 A6.out (Tabs.below HT.out (by repeat (first|(with_reducible first|exact HB.out|apply qae|apply qab|apply qad|refine qag ?_ GE135.out)|exact HB.out)))).mono ?_);(case side1=>refine (Kd.S_reads' (e:=52) (base:=w.heap.size) (ok:=fun k_=>True) (n:=t130.length) (c:=co76) ?_).2.2;exact (by (with_reducible repeat (first|apply Kd.S_alloc|apply Kd.S_drewN|apply Kd.S_drew));exact (Kd.S_mono (Kd.S_far (p:=⟨gb135,2,none⟩) (Kd.S_far (p:=⟨gb135,1,none⟩) (Kd.S_far (p:=⟨gb135,0,none⟩) (Kd.S_types HO132.out BK135.out (by decide)) (fun _ hk=>hk.2) (.int .i64 t128)) (fun _ hk=>hk.2) (.int .i64 t129)) (fun _ hk=>hk.2) (.slice Ao76 t130.length co76)) (fun _ h_=>h_.1))));(case side2=>exact (Kd.S_reads' HO132.out).2.1);rintro e w77 ⟨rfl,hb⟩;refine⟨_,rfl,?_⟩;have n0_:=qaf.mk (Kd.S_below (by (with_reducible repeat (first|apply Kd.S_alloc|apply Kd.S_drewN|apply Kd.S_drew));exact (Kd.S_mono (Kd.S_far (p:=⟨gb135,2,none⟩) (Kd.S_far (p:=⟨gb135,1,none⟩) (Kd.S_far (p:=⟨gb135,0,none⟩) (Kd.S_types HO132.out BK135.out (by decide)) (fun _ hk=>hk.2) (.int .i64 t128)) (fun _ hk=>hk.2) (.int .i64 t129)) (fun _ hk=>hk.2) (.slice Ao76 t130.length co76)) (fun _ h_=>h_.1))) hb);have n1_:=qaf.mk (qas (g:=gb135) (o:=.cells #[.int .i64 t128,.int .i64 t129,.slice Ao76 t130.length co76] 32 (0,0)) (by (with_reducible repeat (first|refine qah ?_ _|refine qaj ?_|refine qai ?_ _));refine qaG (cs:=#[.int .i64 t128,.int .i64 t129,.slice none 0 0]) ?_ 2 _ rfl;(with_reducible repeat (first|refine qah ?_ _|refine qaj ?_|refine qai ?_ _));refine qaG (cs:=#[.int .i64 t128,.int .i64 0,.slice none 0 0]) ?_ 1 _ rfl;(with_reducible repeat (first|refine qah ?_ _|refine qaj ?_|refine qai ?_ _));refine qaG (cs:=#[.int .i64 0,.int .i64 0,.slice none 0 0]) ?_ 0 _ rfl;(with_reducible repeat (first|refine qah ?_ _|refine qaj ?_|refine qai ?_ _));exact BK135.out) hb);have n2_:=qaf.mk (qal (by repeat (first|(with_reducible first|exact HB.out|apply qae|apply qab|apply qad|refine qag ?_ GE135.out)|exact HB.out)) hb);clear HO132;clear BK135;clear HB;have HO132:=n0_;have BK135:=n1_;have HB:=n2_;clear n0_ n1_ n2_;(try clear hb);(try clear hb2);(try clear hk);(try clear hi))|((with_reducible refine qaq (f:=12) rfl ?_);refine qaC (some 52) rfl rfl Tryd.func12 (by kernel_rfl) rfl #[.string t136] rfl (by (try simp only [List.map_toArray,List.map_cons,List.map_nil]);first|done|rfl|(simp only [List.length_drop,List.length_take];rfl)) ?_;(with_reducible refine (parse_Parse.calls t136 t137 t138 t139 t142 t143 _ A7.out (Tabs.below HT.out (by repeat (first|(with_reducible first|exact HB.out|apply qae|apply qab|apply qad|refine qag ?_ GE135.out)|exact HB.out)))).mono ?_);rintro e w78 ⟨v140,rfl,ho0,hb⟩;refine⟨_,rfl,?_⟩;have n0_:=qaf.mk (Kd.S_elder' (by (with_reducible repeat (first|apply Kd.S_alloc|apply Kd.S_drewN|apply Kd.S_drew));exact HO132.out) (Kd.S_base ho0) hb);have n1_:=qaf.mk (Kd.S_lower (Kd.S_new' ho0 (Kd.S_lt (by (with_reducible repeat (first|apply Kd.S_alloc|apply Kd.S_drewN|apply Kd.S_drew));exact HO132.out))) (qam (by repeat (first|(with_reducible first|exact HB.out|apply qae|apply qab|apply qad|refine qag ?_ GE135.out)|exact HB.out))));have n2_:=qaf.mk (qas (g:=gb135) (o:=.cells #[.int .i64 t128,.int .i64 t129,.slice Ao76 t130.length co76] 32 (0,0)) (by (with_reducible repeat (first|refine qah ?_ _|refine qaj ?_|refine qai ?_ _));exact BK135.out) hb);have n3_:=qaf.mk (qal (by repeat (first|(with_reducible first|exact HB.out|apply qae|apply qab|apply qad|refine qag ?_ GE135.out)|exact HB.out)) hb);clear HO132;clear BK135;clear HB;have HO132:=n0_;have HO141:=n1_;have BK135:=n2_;have HB:=n3_;clear n0_ n1_ n2_ n3_;(try clear hb);(try clear hb2);(try clear hk);(try clear hi);(try clear ho0))|((with_reducible refine qaD (N:=7) rfl ?_);(try (refine qaz (by rfl) ?_;dsimp only));refine qay ?hg (N:=7) ?hd (cs:=#[.int .i64 0,.int .i64 0,.slice none 0 0]) (t:=32) ?hr ?_;(case hd=>rfl);(case hg=>rfl);(case hr=>first|(go_simp;done)|(go_simp;rfl));intro gb144 hg w79 hbox hb;have n0_:=qaf.mk (Kd.S_below (by (with_reducible repeat (first|apply Kd.S_alloc|apply Kd.S_drewN|apply Kd.S_drew));exact HO132.out) hb);have n1_:=qaf.mk (Kd.S_below (by (with_reducible repeat (first|apply Kd.S_alloc|apply Kd.S_drewN|apply Kd.S_drew));exact HO141.out) hb);have n2_:=qaf.mk (qas (g:=gb135) (o:=.cells #[.int .i64 t128,.int .i64 t129,.slice Ao76 t130.length co76] 32 (0,0)) (by (with_reducible repeat (first|refine qah ?_ _|refine qaj ?_|refine qai ?_ _));exact BK135.out) hb);have n3_:=qaf.mk (qal (by repeat (first|(with_reducible first|exact HB.out|apply qae|apply qab|apply qad|refine qag ?_ GE135.out)|exact HB.out)) hb);have n4_:=qaf.mk (hbox);have n5_:=qaf.mk ((by rw [hg];exact (qam (by repeat (first|(with_reducible first|exact HB.out|apply qae|apply qab|apply qad|refine qag ?_ GE135.out)|exact HB.out))):w.heap.size≤gb144));have n6_:=qaf.mk ((by rw [hg];exact (qam (by repeat (first|(with_reducible first|exact HB.out|apply qae|apply qab|apply qad|refine qag ?_ GE135.out)|exact HB.out))):w.heap.size≤gb144));have n7_:=qaf.mk ((by rw [hg];exact Nat.ne_of_lt (qaQ (g:=gb135) (o:=.cells #[.int .i64 t128,.int .i64 t129,.slice Ao76 t130.length co76] 32 (0,0)) (by (with_reducible repeat (first|refine qah ?_ _|refine qaj ?_|refine qai ?_ _));exact BK135.out)):gb135≠gb144));have n8_:=qaf.mk ((by rw [hg];exact Nat.ne_of_gt (qaQ (g:=gb135) (o:=.cells #[.int .i64 t128,.int .i64 t129,.slice Ao76 t130.length co76] 32 (0,0)) (by (with_reducible repeat (first|refine qah ?_ _|refine qaj ?_|refine qai ?_ _));exact BK135.out)):gb144≠gb135));clear HO132;clear HO141;clear BK135;clear HB;have HO132:=n0_;have HO141:=n1_;have BK135:=n2_;have HB:=n3_;have BK144:=n4_;have GW144:=n5_;have GE144:=n6_;have NB135_144:=n7_;have NB144_135:=n8_;clear n0_ n1_ n2_ n3_ n4_ n5_ n6_ n7_ n8_;clear hb hbox hg;have hnb80:=NB144_135.out;have hnc80:=NB135_144.out;have hcz81_0:w79.cell? ⟨gb144,0,none⟩=some (.int .i64 0):=(qac BK144.out 0).trans rfl;have hcz81_1:w79.cell? ⟨gb144,1,none⟩=some (.int .i64 0):=(qac BK144.out 1).trans rfl;have hcz81_2:w79.cell? ⟨gb144,2,none⟩=some (.slice none 0 0):=(qac BK144.out 2).trans rfl;have hfz81_0:=qaa BK144.out 0;have hfz81_1:=qaa BK144.out 1;have hfz81_2:=qaa BK144.out 2;obtain⟨Ao82,co82,eo82⟩:=Kd.S_slice HO141.out;subst eo82;have hcz83_0:w79.cell? ⟨gb135,0,none⟩=some (.int .i64 t128):=(qac BK135.out 0).trans rfl;have hcz83_1:w79.cell? ⟨gb135,1,none⟩=some (.int .i64 t129):=(qac BK135.out 1).trans rfl;have hcz83_2:w79.cell? ⟨gb135,2,none⟩=some (.slice Ao76 t130.length co76):=(qac BK135.out 2).trans rfl;have hfz83_0:=qaa BK135.out 0;have hfz83_1:=qaa BK135.out 1;have hfz83_2:=qaa BK135.out 2)|((with_reducible refine qaq (f:=14) rfl ?_);refine qaC (some 58) rfl rfl Tryd.func14 (by kernel_rfl) rfl #[.agg #[.int .i64 t128,.int .i64 t129,.slice Ao76 t130.length co76],.agg #[.int .i64 t137,.int .i64 t138,.slice Ao82 t139.length co82]] rfl (by (try simp only [List.map_toArray,List.map_cons,List.map_nil]);first|done|rfl|(simp only [List.length_drop,List.length_take];rfl)) ?_;(with_reducible refine (ostinatoref05_Same.calls k t128 t129 _ _ t130 t137 t138 _ _ t139 t145 _ ?side1 ?side2 ?side3 ?side4 A8.out).mono ?_);(case side1=>refine (Kd.S_reads' (e:=52) (base:=w.heap.size) (ok:=fun k_=>(True∧some k_≠(.slice Ao82 t139.length co82:Value).ownBlock)) (n:=t130.length) (c:=co76) ?_).2.2;exact (by (with_reducible repeat (first|apply Kd.S_alloc|apply Kd.S_drewN|apply Kd.S_drew));exact (Kd.S_mono (Kd.S_far (p:=⟨gb144,2,none⟩) (Kd.S_far (p:=⟨gb144,1,none⟩) (Kd.S_far (p:=⟨gb144,0,none⟩) (Kd.S_types HO132.out BK144.out (by decide)) (fun _ hk=>hk.2) (.int .i64 t137)) (fun _ hk=>hk.2) (.int .i64 t138)) (fun _ hk=>hk.2) (.slice Ao82 t139.length co82)) (fun _ h_=>h_.1))));(case side2=>exact (Kd.S_reads' HO132.out).2.1);(case side3=>refine (Kd.S_reads' (e:=52) (base:=w.heap.size) (ok:=fun k_=>(True∧some k_≠(.slice Ao76 t130.length co76:Value).ownBlock)) (n:=t139.length) (c:=co82) ?_).2.2;exact (by (with_reducible repeat (first|apply Kd.S_alloc|apply Kd.S_drewN|apply Kd.S_drew));exact (Kd.S_mono (Kd.S_far (p:=⟨gb144,2,none⟩) (Kd.S_far (p:=⟨gb144,1,none⟩) (Kd.S_far (p:=⟨gb144,0,none⟩) (Kd.S_types HO141.out BK144.out (by decide)) (fun _ hk=>hk.2) (.int .i64 t137)) (fun _ hk=>hk.2) (.int .i64 t138)) (fun _ hk=>hk.2) (.slice Ao82 t139.length co82)) (fun _ h_=>h_.1))));(case side4=>exact (Kd.S_reads' HO141.out).2.1);rintro e w84 ⟨rfl,hb⟩;refine⟨_,rfl,?_⟩;have n0_:=qaf.mk (Kd.S_below (by (with_reducible repeat (first|apply Kd.S_alloc|apply Kd.S_drewN|apply Kd.S_drew));exact (Kd.S_mono (Kd.S_far (p:=⟨gb144,2,none⟩) (Kd.S_far (p:=⟨gb144,1,none⟩) (Kd.S_far (p:=⟨gb144,0,none⟩) (Kd.S_types HO132.out BK144.out (by decide)) (fun _ hk=>hk.2) (.int .i64 t137)) (fun _ hk=>hk.2) (.int .i64 t138)) (fun _ hk=>hk.2) (.slice Ao82 t139.length co82)) (fun _ h_=>h_.1))) hb);have n1_:=qaf.mk (Kd.S_below (by (with_reducible repeat (first|apply Kd.S_alloc|apply Kd.S_drewN|apply Kd.S_drew));exact (Kd.S_mono (Kd.S_far (p:=⟨gb144,2,none⟩) (Kd.S_far (p:=⟨gb144,1,none⟩) (Kd.S_far (p:=⟨gb144,0,none⟩) (Kd.S_types HO141.out BK144.out (by decide)) (fun _ hk=>hk.2) (.int .i64 t137)) (fun _ hk=>hk.2) (.int .i64 t138)) (fun _ hk=>hk.2) (.slice Ao82 t139.length co82)) (fun _ h_=>h_.1))) hb);have n2_:=qaf.mk (qas (g:=gb135) (o:=.cells #[.int .i64 t128,.int .i64 t129,.slice Ao76 t130.length co76] 32 (0,0)) (by (with_reducible repeat (first|refine qah ?_ _|refine qaj ?_|refine qai ?_ _));refine qaX ?_ NB135_144.out _;(with_reducible repeat (first|refine qah ?_ _|refine qaj ?_|refine qai ?_ _));refine qaX ?_ NB135_144.out _;(with_reducible repeat (first|refine qah ?_ _|refine qaj ?_|refine qai ?_ _));refine qaX ?_ NB135_144.out _;(with_reducible repeat (first|refine qah ?_ _|refine qaj ?_|refine qai ?_ _));exact BK135.out) hb);have n3_:=qaf.mk (qas (g:=gb144) (o:=.cells #[.int .i64 t137,.int .i64 t138,.slice Ao82 t139.length co82] 32 (0,0)) (by (with_reducible repeat (first|refine qah ?_ _|refine qaj ?_|refine qai ?_ _));refine qaG (cs:=#[.int .i64 t137,.int .i64 t138,.slice none 0 0]) ?_ 2 _ rfl;(with_reducible repeat (first|refine qah ?_ _|refine qaj ?_|refine qai ?_ _));refine qaG (cs:=#[.int .i64 t137,.int .i64 0,.slice none 0 0]) ?_ 1 _ rfl;(with_reducible repeat (first|refine qah ?_ _|refine qaj ?_|refine qai ?_ _));refine qaG (cs:=#[.int .i64 0,.int .i64 0,.slice none 0 0]) ?_ 0 _ rfl;(with_reducible repeat (first|refine qah ?_ _|refine qaj ?_|refine qai ?_ _));exact BK144.out) hb);have n4_:=qaf.mk (qal (by repeat (first|(with_reducible first|exact HB.out|apply qae|apply qab|apply qad|refine qag ?_ GE135.out|refine qag ?_ GE144.out)|exact HB.out)) hb);clear HO132;clear HO141;clear BK135;clear BK144;clear HB;have HO132:=n0_;have HO141:=n1_;have BK135:=n2_;have BK144:=n3_;have HB:=n4_;clear n0_ n1_ n2_ n3_ n4_;(try clear hb);(try clear hb2);(try clear hk);(try clear hi)))
   go_ret
   exact⟨by first|rfl|(simp [qao,qan]<;>rfl)|(simp [bneNil,bneNilU]<;>rfl)|(simp [*,qao,qan]<;>rfl),by repeat (first|(with_reducible first|exact HB.out|apply qae|apply qab|apply qad|refine qag ?_ GE135.out|refine qag ?_ GE144.out)|exact HB.out)⟩
 ·rw [if_neg c5] at H
  have c5b0:(t134 == 0)=false:=beq_eq_false_iff_ne.mpr c5
  have c5b1:(t134 != 0)=true:=bne_iff_ne.mpr c5
  by_cases c85:t126=true
  ·subst c85
   have H1:(if t133 ≥ 0 then (if t133≤(t127.size:Int) then (if (t130.length:Int)=0 then (if t128=0 then (some (t129 == 0)) else (some false)) else (some false)) else (some false)) else (some false))=some r:=by rw [if_pos rfl] at H;exact H
   clear H
   have H:=H1
   clear H1
   by_cases c86:t133 ≥ 0
   ·rw [if_pos c86] at H
    have c86b0:decide (0≤t133)=true:=decide_eq_true c86
    clear c86
    by_cases c87:t133≤(t127.size:Int)
    ·rw [if_pos c87] at H
     have c87b0:decide (t133≤(t127.size:Int))=true:=decide_eq_true c87
     clear c87
     by_cases c88:(t130.length:Int)=0
     ·rw [if_pos c88] at H
      have c88b0:((t130.length:Int) == 0)=true:=beq_iff_eq.mpr c88
      have c88b1:((t130.length:Int) != 0)=false:=bne_eq_false_iff_eq.mpr c88
      clear c88
      by_cases c89:t128=0
      ·rw [if_pos c89] at H
       have c89b0:(t128 == 0)=true:=beq_iff_eq.mpr c89
       have c89b1:(t128 != 0)=false:=bne_eq_false_iff_eq.mpr c89
       clear c89
       obtain rfl:=Option.some.inj H
       go_enter Tryd.func5,Tryd.ntmps5
       go_wp2_with (first|((with_reducible refine qaq (f:=8) rfl ?_);refine qaC (some 11) rfl rfl Tryd.func8 (by kernel_rfl) rfl #[] rfl (by (try simp only [List.map_toArray,List.map_cons,List.map_nil]);first|done|rfl|(simp only [List.length_drop,List.length_take];rfl)) ?_;(with_reducible refine (ostinatolaw07_awake.calls  true _ A2.out (Tabs.below HT.out (by repeat (first|(with_reducible first|exact HB.out|apply qae|apply qab|apply qad)|exact HB.out)))).mono ?_);rintro e w90 ⟨rfl,hb⟩;refine⟨_,rfl,?_⟩;have n0_:=qaf.mk (qal (by repeat (first|(with_reducible first|exact HB.out|apply qae|apply qab|apply qad)|exact HB.out)) hb);clear HB;have HB:=n0_;clear n0_;(try clear hb);(try clear hb2);(try clear hk);(try clear hi))|((with_reducible refine qaq (f:=9) rfl ?_);refine qaC (some 13) rfl rfl Tryd.func9 (by kernel_rfl) rfl #[.string a0,.int .i64 200] rfl (by (try simp only [List.map_toArray,List.map_cons,List.map_nil]);first|done|rfl|(simp only [List.length_drop,List.length_take];rfl)) ?_;(with_reducible refine (ostinatolaw07_short.calls a0 200 t127 _ A3.out).mono ?_);rintro e w' ⟨rfl,⟨nd,rfl⟩⟩;refine⟨_,rfl,?_⟩;(try (rw [qaM w90];generalize hq_:World.drewN w90 _=w90;have n0_:qaf (Below w.heap.size w w90):=⟨by rw [← hq_];exact (by repeat (first|(with_reducible first|exact HB.out|apply qae|apply qab|apply qad)|exact HB.out))⟩;clear HB hq_;have HB:=n0_;clear n0_)))|((with_reducible refine qaq (f:=12) rfl ?_);refine qaC (some 16) rfl rfl Tryd.func12 (by kernel_rfl) rfl #[.string t127] rfl (by (try simp only [List.map_toArray,List.map_cons,List.map_nil]);first|done|rfl|(simp only [List.length_drop,List.length_take];rfl)) ?_;(with_reducible refine (parse_Parse.calls t127 t128 t129 t130 t133 t134 _ A4.out (Tabs.below HT.out (by repeat (first|(with_reducible first|exact HB.out|apply qae|apply qab|apply qad)|exact HB.out)))).mono ?_);rintro e w91 ⟨v131,rfl,ho0,hb⟩;refine⟨_,rfl,?_⟩;have n0_:=qaf.mk (Kd.S_lower ho0 (qam (by repeat (first|(with_reducible first|exact HB.out|apply qae|apply qab|apply qad)|exact HB.out))));have n1_:=qaf.mk (qal (by repeat (first|(with_reducible first|exact HB.out|apply qae|apply qab|apply qad)|exact HB.out)) hb);clear HB;have HO132:=n0_;have HB:=n1_;clear n0_ n1_;(try clear hb);(try clear hb2);(try clear hk);(try clear hi);(try clear ho0))|((with_reducible refine qaD (N:=4) rfl ?_);(try (refine qaz (by rfl) ?_;dsimp only));refine qay ?hg (N:=4) ?hd (cs:=#[.int .i64 0,.int .i64 0,.slice none 0 0]) (t:=32) ?hr ?_;(case hd=>rfl);(case hg=>rfl);(case hr=>first|(go_simp;done)|(go_simp;rfl));intro gb135 hg w92 hbox hb;have n0_:=qaf.mk (Kd.S_below (by (with_reducible repeat (first|apply Kd.S_alloc|apply Kd.S_drewN|apply Kd.S_drew));exact HO132.out) hb);have n1_:=qaf.mk (qal (by repeat (first|(with_reducible first|exact HB.out|apply qae|apply qab|apply qad)|exact HB.out)) hb);have n2_:=qaf.mk (hbox);have n3_:=qaf.mk ((by rw [hg];exact (qam (by repeat (first|(with_reducible first|exact HB.out|apply qae|apply qab|apply qad)|exact HB.out))):w.heap.size≤gb135));have n4_:=qaf.mk ((by rw [hg];exact (qam (by repeat (first|(with_reducible first|exact HB.out|apply qae|apply qab|apply qad)|exact HB.out))):w.heap.size≤gb135));clear HO132;clear HB;have HO132:=n0_;have HB:=n1_;have BK135:=n2_;have GW135:=n3_;have GE135:=n4_;clear n0_ n1_ n2_ n3_ n4_;clear hb hbox hg;have hcz93_0:w92.cell? ⟨gb135,0,none⟩=some (.int .i64 0):=(qac BK135.out 0).trans rfl;have hcz93_1:w92.cell? ⟨gb135,1,none⟩=some (.int .i64 0):=(qac BK135.out 1).trans rfl;have hcz93_2:w92.cell? ⟨gb135,2,none⟩=some (.slice none 0 0):=(qac BK135.out 2).trans rfl;have hfz93_0:=qaa BK135.out 0;have hfz93_1:=qaa BK135.out 1;have hfz93_2:=qaa BK135.out 2;obtain⟨Ao94,co94,eo94⟩:=Kd.S_slice HO132.out;subst eo94))
       go_ret
       exact⟨by first|rfl|(simp [qao,qan]<;>rfl)|(simp [bneNil,bneNilU]<;>rfl)|(simp [*,qao,qan]<;>rfl),by repeat (first|(with_reducible first|exact HB.out|apply qae|apply qab|apply qad|refine qag ?_ GE135.out)|exact HB.out)⟩
      ·rw [if_neg c89] at H
       have c89b0:(t128 == 0)=false:=beq_eq_false_iff_ne.mpr c89
       have c89b1:(t128 != 0)=true:=bne_iff_ne.mpr c89
       obtain rfl:=Option.some.inj H
       go_enter Tryd.func5,Tryd.ntmps5
       go_wp2_with (first|((with_reducible refine qaq (f:=8) rfl ?_);refine qaC (some 11) rfl rfl Tryd.func8 (by kernel_rfl) rfl #[] rfl (by (try simp only [List.map_toArray,List.map_cons,List.map_nil]);first|done|rfl|(simp only [List.length_drop,List.length_take];rfl)) ?_;(with_reducible refine (ostinatolaw07_awake.calls  true _ A2.out (Tabs.below HT.out (by repeat (first|(with_reducible first|exact HB.out|apply qae|apply qab|apply qad)|exact HB.out)))).mono ?_);rintro e w95 ⟨rfl,hb⟩;refine⟨_,rfl,?_⟩;have n0_:=qaf.mk (qal (by repeat (first|(with_reducible first|exact HB.out|apply qae|apply qab|apply qad)|exact HB.out)) hb);clear HB;have HB:=n0_;clear n0_;(try clear hb);(try clear hb2);(try clear hk);(try clear hi))|((with_reducible refine qaq (f:=9) rfl ?_);refine qaC (some 13) rfl rfl Tryd.func9 (by kernel_rfl) rfl #[.string a0,.int .i64 200] rfl (by (try simp only [List.map_toArray,List.map_cons,List.map_nil]);first|done|rfl|(simp only [List.length_drop,List.length_take];rfl)) ?_;(with_reducible refine (ostinatolaw07_short.calls a0 200 t127 _ A3.out).mono ?_);rintro e w' ⟨rfl,⟨nd,rfl⟩⟩;refine⟨_,rfl,?_⟩;(try (rw [qaM w95];generalize hq_:World.drewN w95 _=w95;have n0_:qaf (Below w.heap.size w w95):=⟨by rw [← hq_];exact (by repeat (first|(with_reducible first|exact HB.out|apply qae|apply qab|apply qad)|exact HB.out))⟩;clear HB hq_;have HB:=n0_;clear n0_)))|((with_reducible refine qaq (f:=12) rfl ?_);refine qaC (some 16) rfl rfl Tryd.func12 (by kernel_rfl) rfl #[.string t127] rfl (by (try simp only [List.map_toArray,List.map_cons,List.map_nil]);first|done|rfl|(simp only [List.length_drop,List.length_take];rfl)) ?_;(with_reducible refine (parse_Parse.calls t127 t128 t129 t130 t133 t134 _ A4.out (Tabs.below HT.out (by repeat (first|(with_reducible first|exact HB.out|apply qae|apply qab|apply qad)|exact HB.out)))).mono ?_);rintro e w96 ⟨v131,rfl,ho0,hb⟩;refine⟨_,rfl,?_⟩;have n0_:=qaf.mk (Kd.S_lower ho0 (qam (by repeat (first|(with_reducible first|exact HB.out|apply qae|apply qab|apply qad)|exact HB.out))));have n1_:=qaf.mk (qal (by repeat (first|(with_reducible first|exact HB.out|apply qae|apply qab|apply qad)|exact HB.out)) hb);clear HB;have HO132:=n0_;have HB:=n1_;clear n0_ n1_;(try clear hb);(try clear hb2);(try clear hk);(try clear hi);(try clear ho0))|((with_reducible refine qaD (N:=4) rfl ?_);(try (refine qaz (by rfl) ?_;dsimp only));refine qay ?hg (N:=4) ?hd (cs:=#[.int .i64 0,.int .i64 0,.slice none 0 0]) (t:=32) ?hr ?_;(case hd=>rfl);(case hg=>rfl);(case hr=>first|(go_simp;done)|(go_simp;rfl));intro gb135 hg w97 hbox hb;have n0_:=qaf.mk (Kd.S_below (by (with_reducible repeat (first|apply Kd.S_alloc|apply Kd.S_drewN|apply Kd.S_drew));exact HO132.out) hb);have n1_:=qaf.mk (qal (by repeat (first|(with_reducible first|exact HB.out|apply qae|apply qab|apply qad)|exact HB.out)) hb);have n2_:=qaf.mk (hbox);have n3_:=qaf.mk ((by rw [hg];exact (qam (by repeat (first|(with_reducible first|exact HB.out|apply qae|apply qab|apply qad)|exact HB.out))):w.heap.size≤gb135));have n4_:=qaf.mk ((by rw [hg];exact (qam (by repeat (first|(with_reducible first|exact HB.out|apply qae|apply qab|apply qad)|exact HB.out))):w.heap.size≤gb135));clear HO132;clear HB;have HO132:=n0_;have HB:=n1_;have BK135:=n2_;have GW135:=n3_;have GE135:=n4_;clear n0_ n1_ n2_ n3_ n4_;clear hb hbox hg;have hcz98_0:w97.cell? ⟨gb135,0,none⟩=some (.int .i64 0):=(qac BK135.out 0).trans rfl;have hcz98_1:w97.cell? ⟨gb135,1,none⟩=some (.int .i64 0):=(qac BK135.out 1).trans rfl;have hcz98_2:w97.cell? ⟨gb135,2,none⟩=some (.slice none 0 0):=(qac BK135.out 2).trans rfl;have hfz98_0:=qaa BK135.out 0;have hfz98_1:=qaa BK135.out 1;have hfz98_2:=qaa BK135.out 2;obtain⟨Ao99,co99,eo99⟩:=Kd.S_slice HO132.out;subst eo99))
       go_ret
       exact⟨by first|rfl|(simp [qao,qan]<;>rfl)|(simp [bneNil,bneNilU]<;>rfl)|(simp [*,qao,qan]<;>rfl),by repeat (first|(with_reducible first|exact HB.out|apply qae|apply qab|apply qad|refine qag ?_ GE135.out)|exact HB.out)⟩
     ·rw [if_neg c88] at H
      have c88b0:((t130.length:Int) == 0)=false:=beq_eq_false_iff_ne.mpr c88
      have c88b1:((t130.length:Int) != 0)=true:=bne_iff_ne.mpr c88
      have c88b2:¬ (t130=[]):=fun h_=>c88 (by rw [h_];rfl)
      obtain rfl:=Option.some.inj H
      go_enter Tryd.func5,Tryd.ntmps5
      go_wp2_with (first|((with_reducible refine qaq (f:=8) rfl ?_);refine qaC (some 11) rfl rfl Tryd.func8 (by kernel_rfl) rfl #[] rfl (by (try simp only [List.map_toArray,List.map_cons,List.map_nil]);first|done|rfl|(simp only [List.length_drop,List.length_take];rfl)) ?_;(with_reducible refine (ostinatolaw07_awake.calls  true _ A2.out (Tabs.below HT.out (by repeat (first|(with_reducible first|exact HB.out|apply qae|apply qab|apply qad)|exact HB.out)))).mono ?_);rintro e w100 ⟨rfl,hb⟩;refine⟨_,rfl,?_⟩;have n0_:=qaf.mk (qal (by repeat (first|(with_reducible first|exact HB.out|apply qae|apply qab|apply qad)|exact HB.out)) hb);clear HB;have HB:=n0_;clear n0_;(try clear hb);(try clear hb2);(try clear hk);(try clear hi))|((with_reducible refine qaq (f:=9) rfl ?_);refine qaC (some 13) rfl rfl Tryd.func9 (by kernel_rfl) rfl #[.string a0,.int .i64 200] rfl (by (try simp only [List.map_toArray,List.map_cons,List.map_nil]);first|done|rfl|(simp only [List.length_drop,List.length_take];rfl)) ?_;(with_reducible refine (ostinatolaw07_short.calls a0 200 t127 _ A3.out).mono ?_);rintro e w' ⟨rfl,⟨nd,rfl⟩⟩;refine⟨_,rfl,?_⟩;(try (rw [qaM w100];generalize hq_:World.drewN w100 _=w100;have n0_:qaf (Below w.heap.size w w100):=⟨by rw [← hq_];exact (by repeat (first|(with_reducible first|exact HB.out|apply qae|apply qab|apply qad)|exact HB.out))⟩;clear HB hq_;have HB:=n0_;clear n0_)))|((with_reducible refine qaq (f:=12) rfl ?_);refine qaC (some 16) rfl rfl Tryd.func12 (by kernel_rfl) rfl #[.string t127] rfl (by (try simp only [List.map_toArray,List.map_cons,List.map_nil]);first|done|rfl|(simp only [List.length_drop,List.length_take];rfl)) ?_;(with_reducible refine (parse_Parse.calls t127 t128 t129 t130 t133 t134 _ A4.out (Tabs.below HT.out (by repeat (first|(with_reducible first|exact HB.out|apply qae|apply qab|apply qad)|exact HB.out)))).mono ?_);rintro e w101 ⟨v131,rfl,ho0,hb⟩;refine⟨_,rfl,?_⟩;have n0_:=qaf.mk (Kd.S_lower ho0 (qam (by repeat (first|(with_reducible first|exact HB.out|apply qae|apply qab|apply qad)|exact HB.out))));have n1_:=qaf.mk (qal (by repeat (first|(with_reducible first|exact HB.out|apply qae|apply qab|apply qad)|exact HB.out)) hb);clear HB;have HO132:=n0_;have HB:=n1_;clear n0_ n1_;(try clear hb);(try clear hb2);(try clear hk);(try clear hi);(try clear ho0))|((with_reducible refine qaD (N:=4) rfl ?_);(try (refine qaz (by rfl) ?_;dsimp only));refine qay ?hg (N:=4) ?hd (cs:=#[.int .i64 0,.int .i64 0,.slice none 0 0]) (t:=32) ?hr ?_;(case hd=>rfl);(case hg=>rfl);(case hr=>first|(go_simp;done)|(go_simp;rfl));intro gb135 hg w102 hbox hb;have n0_:=qaf.mk (Kd.S_below (by (with_reducible repeat (first|apply Kd.S_alloc|apply Kd.S_drewN|apply Kd.S_drew));exact HO132.out) hb);have n1_:=qaf.mk (qal (by repeat (first|(with_reducible first|exact HB.out|apply qae|apply qab|apply qad)|exact HB.out)) hb);have n2_:=qaf.mk (hbox);have n3_:=qaf.mk ((by rw [hg];exact (qam (by repeat (first|(with_reducible first|exact HB.out|apply qae|apply qab|apply qad)|exact HB.out))):w.heap.size≤gb135));have n4_:=qaf.mk ((by rw [hg];exact (qam (by repeat (first|(with_reducible first|exact HB.out|apply qae|apply qab|apply qad)|exact HB.out))):w.heap.size≤gb135));clear HO132;clear HB;have HO132:=n0_;have HB:=n1_;have BK135:=n2_;have GW135:=n3_;have GE135:=n4_;clear n0_ n1_ n2_ n3_ n4_;clear hb hbox hg;have hcz103_0:w102.cell? ⟨gb135,0,none⟩=some (.int .i64 0):=(qac BK135.out 0).trans rfl;have hcz103_1:w102.cell? ⟨gb135,1,none⟩=some (.int .i64 0):=(qac BK135.out 1).trans rfl;have hcz103_2:w102.cell? ⟨gb135,2,none⟩=some (.slice none 0 0):=(qac BK135.out 2).trans rfl;have hfz103_0:=qaa BK135.out 0;have hfz103_1:=qaa BK135.out 1;have hfz103_2:=qaa BK135.out 2;obtain⟨Ao104,co104,eo104⟩:=Kd.S_slice HO132.out;subst eo104))
      go_ret
      exact⟨by first|rfl|(simp [qao,qan]<;>rfl)|(simp [bneNil,bneNilU]<;>rfl)|(simp [*,qao,qan]<;>rfl),by repeat (first|(with_reducible first|exact HB.out|apply qae|apply qab|apply qad|refine qag ?_ GE135.out)|exact HB.out)⟩
    ·rw [if_neg c87] at H
     have c87b0:decide (t133≤(t127.size:Int))=false:=decide_eq_false c87
     clear c87
     obtain rfl:=Option.some.inj H
     go_enter Tryd.func5,Tryd.ntmps5
     go_wp2_with (first|((with_reducible refine qaq (f:=8) rfl ?_);refine qaC (some 11) rfl rfl Tryd.func8 (by kernel_rfl) rfl #[] rfl (by (try simp only [List.map_toArray,List.map_cons,List.map_nil]);first|done|rfl|(simp only [List.length_drop,List.length_take];rfl)) ?_;(with_reducible refine (ostinatolaw07_awake.calls  true _ A2.out (Tabs.below HT.out (by repeat (first|(with_reducible first|exact HB.out|apply qae|apply qab|apply qad)|exact HB.out)))).mono ?_);rintro e w105 ⟨rfl,hb⟩;refine⟨_,rfl,?_⟩;have n0_:=qaf.mk (qal (by repeat (first|(with_reducible first|exact HB.out|apply qae|apply qab|apply qad)|exact HB.out)) hb);clear HB;have HB:=n0_;clear n0_;(try clear hb);(try clear hb2);(try clear hk);(try clear hi))|((with_reducible refine qaq (f:=9) rfl ?_);refine qaC (some 13) rfl rfl Tryd.func9 (by kernel_rfl) rfl #[.string a0,.int .i64 200] rfl (by (try simp only [List.map_toArray,List.map_cons,List.map_nil]);first|done|rfl|(simp only [List.length_drop,List.length_take];rfl)) ?_;(with_reducible refine (ostinatolaw07_short.calls a0 200 t127 _ A3.out).mono ?_);rintro e w' ⟨rfl,⟨nd,rfl⟩⟩;refine⟨_,rfl,?_⟩;(try (rw [qaM w105];generalize hq_:World.drewN w105 _=w105;have n0_:qaf (Below w.heap.size w w105):=⟨by rw [← hq_];exact (by repeat (first|(with_reducible first|exact HB.out|apply qae|apply qab|apply qad)|exact HB.out))⟩;clear HB hq_;have HB:=n0_;clear n0_)))|((with_reducible refine qaq (f:=12) rfl ?_);refine qaC (some 16) rfl rfl Tryd.func12 (by kernel_rfl) rfl #[.string t127] rfl (by (try simp only [List.map_toArray,List.map_cons,List.map_nil]);first|done|rfl|(simp only [List.length_drop,List.length_take];rfl)) ?_;(with_reducible refine (parse_Parse.calls t127 t128 t129 t130 t133 t134 _ A4.out (Tabs.below HT.out (by repeat (first|(with_reducible first|exact HB.out|apply qae|apply qab|apply qad)|exact HB.out)))).mono ?_);rintro e w106 ⟨v131,rfl,ho0,hb⟩;refine⟨_,rfl,?_⟩;have n0_:=qaf.mk (Kd.S_lower ho0 (qam (by repeat (first|(with_reducible first|exact HB.out|apply qae|apply qab|apply qad)|exact HB.out))));have n1_:=qaf.mk (qal (by repeat (first|(with_reducible first|exact HB.out|apply qae|apply qab|apply qad)|exact HB.out)) hb);clear HB;have HO132:=n0_;have HB:=n1_;clear n0_ n1_;(try clear hb);(try clear hb2);(try clear hk);(try clear hi);(try clear ho0))|((with_reducible refine qaD (N:=4) rfl ?_);(try (refine qaz (by rfl) ?_;dsimp only));refine qay ?hg (N:=4) ?hd (cs:=#[.int .i64 0,.int .i64 0,.slice none 0 0]) (t:=32) ?hr ?_;(case hd=>rfl);(case hg=>rfl);(case hr=>first|(go_simp;done)|(go_simp;rfl));intro gb135 hg w107 hbox hb;have n0_:=qaf.mk (Kd.S_below (by (with_reducible repeat (first|apply Kd.S_alloc|apply Kd.S_drewN|apply Kd.S_drew));exact HO132.out) hb);have n1_:=qaf.mk (qal (by repeat (first|(with_reducible first|exact HB.out|apply qae|apply qab|apply qad)|exact HB.out)) hb);have n2_:=qaf.mk (hbox);have n3_:=qaf.mk ((by rw [hg];exact (qam (by repeat (first|(with_reducible first|exact HB.out|apply qae|apply qab|apply qad)|exact HB.out))):w.heap.size≤gb135));have n4_:=qaf.mk ((by rw [hg];exact (qam (by repeat (first|(with_reducible first|exact HB.out|apply qae|apply qab|apply qad)|exact HB.out))):w.heap.size≤gb135));clear HO132;clear HB;have HO132:=n0_;have HB:=n1_;have BK135:=n2_;have GW135:=n3_;have GE135:=n4_;clear n0_ n1_ n2_ n3_ n4_;clear hb hbox hg;have hcz108_0:w107.cell? ⟨gb135,0,none⟩=some (.int .i64 0):=(qac BK135.out 0).trans rfl;have hcz108_1:w107.cell? ⟨gb135,1,none⟩=some (.int .i64 0):=(qac BK135.out 1).trans rfl;have hcz108_2:w107.cell? ⟨gb135,2,none⟩=some (.slice none 0 0):=(qac BK135.out 2).trans rfl;have hfz108_0:=qaa BK135.out 0;have hfz108_1:=qaa BK135.out 1;have hfz108_2:=qaa BK135.out 2;obtain⟨Ao109,co109,eo109⟩:=Kd.S_slice HO132.out;subst eo109))
     go_ret
     exact⟨by first|rfl|(simp [qao,qan]<;>rfl)|(simp [bneNil,bneNilU]<;>rfl)|(simp [*,qao,qan]<;>rfl),by repeat (first|(with_reducible first|exact HB.out|apply qae|apply qab|apply qad|refine qag ?_ GE135.out)|exact HB.out)⟩
   ·rw [if_neg c86] at H
    have c86b0:decide (0≤t133)=false:=decide_eq_false c86
    clear c86
    obtain rfl:=Option.some.inj H
    go_enter Tryd.func5,Tryd.ntmps5
    go_wp2_with (first|((with_reducible refine qaq (f:=8) rfl ?_);refine qaC (some 11) rfl rfl Tryd.func8 (by kernel_rfl) rfl #[] rfl (by (try simp only [List.map_toArray,List.map_cons,List.map_nil]);first|done|rfl|(simp only [List.length_drop,List.length_take];rfl)) ?_;(with_reducible refine (ostinatolaw07_awake.calls  true _ A2.out (Tabs.below HT.out (by repeat (first|(with_reducible first|exact HB.out|apply qae|apply qab|apply qad)|exact HB.out)))).mono ?_);rintro e w110 ⟨rfl,hb⟩;refine⟨_,rfl,?_⟩;have n0_:=qaf.mk (qal (by repeat (first|(with_reducible first|exact HB.out|apply qae|apply qab|apply qad)|exact HB.out)) hb);clear HB;have HB:=n0_;clear n0_;(try clear hb);(try clear hb2);(try clear hk);(try clear hi))|((with_reducible refine qaq (f:=9) rfl ?_);refine qaC (some 13) rfl rfl Tryd.func9 (by kernel_rfl) rfl #[.string a0,.int .i64 200] rfl (by (try simp only [List.map_toArray,List.map_cons,List.map_nil]);first|done|rfl|(simp only [List.length_drop,List.length_take];rfl)) ?_;(with_reducible refine (ostinatolaw07_short.calls a0 200 t127 _ A3.out).mono ?_);rintro e w' ⟨rfl,⟨nd,rfl⟩⟩;refine⟨_,rfl,?_⟩;(try (rw [qaM w110];generalize hq_:World.drewN w110 _=w110;have n0_:qaf (Below w.heap.size w w110):=⟨by rw [← hq_];exact (by repeat (first|(with_reducible first|exact HB.out|apply qae|apply qab|apply qad)|exact HB.out))⟩;clear HB hq_;have HB:=n0_;clear n0_)))|((with_reducible refine qaq (f:=12) rfl ?_);refine qaC (some 16) rfl rfl Tryd.func12 (by kernel_rfl) rfl #[.string t127] rfl (by (try simp only [List.map_toArray,List.map_cons,List.map_nil]);first|done|rfl|(simp only [List.length_drop,List.length_take];rfl)) ?_;(with_reducible refine (parse_Parse.calls t127 t128 t129 t130 t133 t134 _ A4.out (Tabs.below HT.out (by repeat (first|(with_reducible first|exact HB.out|apply qae|apply qab|apply qad)|exact HB.out)))).mono ?_);rintro e w111 ⟨v131,rfl,ho0,hb⟩;refine⟨_,rfl,?_⟩;have n0_:=qaf.mk (Kd.S_lower ho0 (qam (by repeat (first|(with_reducible first|exact HB.out|apply qae|apply qab|apply qad)|exact HB.out))));have n1_:=qaf.mk (qal (by repeat (first|(with_reducible first|exact HB.out|apply qae|apply qab|apply qad)|exact HB.out)) hb);clear HB;have HO132:=n0_;have HB:=n1_;clear n0_ n1_;(try clear hb);(try clear hb2);(try clear hk);(try clear hi);(try clear ho0))|((with_reducible refine qaD (N:=4) rfl ?_);(try (refine qaz (by rfl) ?_;dsimp only));refine qay ?hg (N:=4) ?hd (cs:=#[.int .i64 0,.int .i64 0,.slice none 0 0]) (t:=32) ?hr ?_;(case hd=>rfl);(case hg=>rfl);(case hr=>first|(go_simp;done)|(go_simp;rfl));intro gb135 hg w112 hbox hb;have n0_:=qaf.mk (Kd.S_below (by (with_reducible repeat (first|apply Kd.S_alloc|apply Kd.S_drewN|apply Kd.S_drew));exact HO132.out) hb);have n1_:=qaf.mk (qal (by repeat (first|(with_reducible first|exact HB.out|apply qae|apply qab|apply qad)|exact HB.out)) hb);have n2_:=qaf.mk (hbox);have n3_:=qaf.mk ((by rw [hg];exact (qam (by repeat (first|(with_reducible first|exact HB.out|apply qae|apply qab|apply qad)|exact HB.out))):w.heap.size≤gb135));have n4_:=qaf.mk ((by rw [hg];exact (qam (by repeat (first|(with_reducible first|exact HB.out|apply qae|apply qab|apply qad)|exact HB.out))):w.heap.size≤gb135));clear HO132;clear HB;have HO132:=n0_;have HB:=n1_;have BK135:=n2_;have GW135:=n3_;have GE135:=n4_;clear n0_ n1_ n2_ n3_ n4_;clear hb hbox hg;have hcz113_0:w112.cell? ⟨gb135,0,none⟩=some (.int .i64 0):=(qac BK135.out 0).trans rfl;have hcz113_1:w112.cell? ⟨gb135,1,none⟩=some (.int .i64 0):=(qac BK135.out 1).trans rfl;have hcz113_2:w112.cell? ⟨gb135,2,none⟩=some (.slice none 0 0):=(qac BK135.out 2).trans rfl;have hfz113_0:=qaa BK135.out 0;have hfz113_1:=qaa BK135.out 1;have hfz113_2:=qaa BK135.out 2;obtain⟨Ao114,co114,eo114⟩:=Kd.S_slice HO132.out;subst eo114))
    go_ret
    exact⟨by first|rfl|(simp [qao,qan]<;>rfl)|(simp [bneNil,bneNilU]<;>rfl)|(simp [*,qao,qan]<;>rfl),by repeat (first|(with_reducible first|exact HB.out|apply qae|apply qab|apply qad|refine qag ?_ GE135.out)|exact HB.out)⟩
  ·replace c85:=Bool.eq_false_iff.mpr c85
   subst c85
   have H1:(some false)=some r:=by rw [if_neg (show ¬ (false=true) by decide)] at H;exact H
   clear H
   have H:=H1
   clear H1
   obtain rfl:=Option.some.inj H
   go_enter Tryd.func5,Tryd.ntmps5
   go_wp2_with (first|((with_reducible refine qaq (f:=8) rfl ?_);refine qaC (some 11) rfl rfl Tryd.func8 (by kernel_rfl) rfl #[] rfl (by (try simp only [List.map_toArray,List.map_cons,List.map_nil]);first|done|rfl|(simp only [List.length_drop,List.length_take];rfl)) ?_;(with_reducible refine (ostinatolaw07_awake.calls  false _ A2.out (Tabs.below HT.out (by repeat (first|(with_reducible first|exact HB.out|apply qae|apply qab|apply qad)|exact HB.out)))).mono ?_);rintro e w115 ⟨rfl,hb⟩;refine⟨_,rfl,?_⟩;have n0_:=qaf.mk (qal (by repeat (first|(with_reducible first|exact HB.out|apply qae|apply qab|apply qad)|exact HB.out)) hb);clear HB;have HB:=n0_;clear n0_;(try clear hb);(try clear hb2);(try clear hk);(try clear hi))|((with_reducible refine qaq (f:=9) rfl ?_);refine qaC (some 13) rfl rfl Tryd.func9 (by kernel_rfl) rfl #[.string a0,.int .i64 200] rfl (by (try simp only [List.map_toArray,List.map_cons,List.map_nil]);first|done|rfl|(simp only [List.length_drop,List.length_take];rfl)) ?_;(with_reducible refine (ostinatolaw07_short.calls a0 200 t127 _ A3.out).mono ?_);rintro e w' ⟨rfl,⟨nd,rfl⟩⟩;refine⟨_,rfl,?_⟩;(try (rw [qaM w115];generalize hq_:World.drewN w115 _=w115;have n0_:qaf (Below w.heap.size w w115):=⟨by rw [← hq_];exact (by repeat (first|(with_reducible first|exact HB.out|apply qae|apply qab|apply qad)|exact HB.out))⟩;clear HB hq_;have HB:=n0_;clear n0_)))|((with_reducible refine qaq (f:=12) rfl ?_);refine qaC (some 16) rfl rfl Tryd.func12 (by kernel_rfl) rfl #[.string t127] rfl (by (try simp only [List.map_toArray,List.map_cons,List.map_nil]);first|done|rfl|(simp only [List.length_drop,List.length_take];rfl)) ?_;(with_reducible refine (parse_Parse.calls t127 t128 t129 t130 t133 t134 _ A4.out (Tabs.below HT.out (by repeat (first|(with_reducible first|exact HB.out|apply qae|apply qab|apply qad)|exact HB.out)))).mono ?_);rintro e w116 ⟨v131,rfl,ho0,hb⟩;refine⟨_,rfl,?_⟩;have n0_:=qaf.mk (Kd.S_lower ho0 (qam (by repeat (first|(with_reducible first|exact HB.out|apply qae|apply qab|apply qad)|exact HB.out))));have n1_:=qaf.mk (qal (by repeat (first|(with_reducible first|exact HB.out|apply qae|apply qab|apply qad)|exact HB.out)) hb);clear HB;have HO132:=n0_;have HB:=n1_;clear n0_ n1_;(try clear hb);(try clear hb2);(try clear hk);(try clear hi);(try clear ho0))|((with_reducible refine qaD (N:=4) rfl ?_);(try (refine qaz (by rfl) ?_;dsimp only));refine qay ?hg (N:=4) ?hd (cs:=#[.int .i64 0,.int .i64 0,.slice none 0 0]) (t:=32) ?hr ?_;(case hd=>rfl);(case hg=>rfl);(case hr=>first|(go_simp;done)|(go_simp;rfl));intro gb135 hg w117 hbox hb;have n0_:=qaf.mk (Kd.S_below (by (with_reducible repeat (first|apply Kd.S_alloc|apply Kd.S_drewN|apply Kd.S_drew));exact HO132.out) hb);have n1_:=qaf.mk (qal (by repeat (first|(with_reducible first|exact HB.out|apply qae|apply qab|apply qad)|exact HB.out)) hb);have n2_:=qaf.mk (hbox);have n3_:=qaf.mk ((by rw [hg];exact (qam (by repeat (first|(with_reducible first|exact HB.out|apply qae|apply qab|apply qad)|exact HB.out))):w.heap.size≤gb135));have n4_:=qaf.mk ((by rw [hg];exact (qam (by repeat (first|(with_reducible first|exact HB.out|apply qae|apply qab|apply qad)|exact HB.out))):w.heap.size≤gb135));clear HO132;clear HB;have HO132:=n0_;have HB:=n1_;have BK135:=n2_;have GW135:=n3_;have GE135:=n4_;clear n0_ n1_ n2_ n3_ n4_;clear hb hbox hg;have hcz118_0:w117.cell? ⟨gb135,0,none⟩=some (.int .i64 0):=(qac BK135.out 0).trans rfl;have hcz118_1:w117.cell? ⟨gb135,1,none⟩=some (.int .i64 0):=(qac BK135.out 1).trans rfl;have hcz118_2:w117.cell? ⟨gb135,2,none⟩=some (.slice none 0 0):=(qac BK135.out 2).trans rfl;have hfz118_0:=qaa BK135.out 0;have hfz118_1:=qaa BK135.out 1;have hfz118_2:=qaa BK135.out 2;obtain⟨Ao119,co119,eo119⟩:=Kd.S_slice HO132.out;subst eo119))
   go_ret
   exact⟨by first|rfl|(simp [qao,qan]<;>rfl)|(simp [bneNil,bneNilU]<;>rfl)|(simp [*,qao,qan]<;>rfl),by repeat (first|(with_reducible first|exact HB.out|apply qae|apply qab|apply qad|refine qag ?_ GE135.out)|exact HB.out)⟩
end
end Go.Proofs.YtcfknijdhmildaaDoor.PParseRight
end
section
namespace Go.Proofs.YtcfknijdhmildaaDoor.PParseRight
open Go.RowKit Go.Proofs.YtcfknijdhmildaaDoorW.PrintWords Go.Proofs.YtcfknijdhmildaaDoorW.PrintLast Go.Proofs.YtcfknijdhmildaaDoorW.PrintMore
attribute [local go_sem] max2_int min2_int max_two min_two max_three min_three max_four min_four
set_option linter.unusedVariables false
set_option linter.unusedSimpArgs false
noncomputable section
end
end Go.Proofs.YtcfknijdhmildaaDoor.PParseRight
end
section
namespace Go.Proofs.YtcfknijdhmildaaDoor.PParseRight
open Go.RowKit Go.Lib Go.Proofs.YtcfknijdhmildaaDoorW.PrintWords
theorem awake_f:ostinatolaw07_awake.f=some true:=rfl
theorem parse_f {s:ByteArray} (hs:s.size≤65536) {S R at_ e:Int} {L:List Tk} (h:parseP s=(S,R,L,at_,e)):parse_Parse.f s=some (S,R,L.map tkTo,at_,e):=by
 unfold parse_Parse.f
 rw [if_pos hs,h]
theorem tkOf_tkTo (L:List Tk):(L.map tkTo).map tkOf=L:=by
 rw [List.map_map]
 exact List.map_id' L
theorem print_f {sets rel:Int} {L:List Tk} (h:checkE sets rel L=0) (hs:∀ x ∈ L,x.ch.length≤1000000∧x.us.length≤1000000∧x.c≤9223372036854775807):parse_Print.f sets rel (L.map tkTo)=some (printT sets rel L):=by
 have hl:=(qaZ h).2.2.2
 unfold parse_Print.f
 rw [if_pos,tkOf_tkTo,if_pos h]
 unfold prnOk
 rw [List.length_map]
 simp only [Bool.and_eq_true,decide_eq_true_eq]
 refine⟨by omega,List.all_eq_true.2 (fun y hy=>?_)⟩
 obtain⟨x,hx,rfl⟩:=List.mem_map.1 hy
 obtain⟨a,b,c⟩:=hs x hx
 simp only [Bool.and_eq_true,decide_eq_true_eq]
 exact⟨⟨a,b⟩,c⟩
theorem rd_nat {L:List Int} {i:Nat} (h:i<L.length):rd L (i:Int)=L[i]:=by
 simp [rd,List.getD_eq_getElem?_getD,List.getElem?_eq_getElem h]
def usE (sets:Int) (us l:List Int):Int:=if us.length≤64∧l.any (farB sets)=false then 0 else 12
theorem rdT_nat {L:List Tk} {i:Nat} (h:i<L.length):qak (L.map tkTo) (i:Int)=tkTo L[i]:=by
 simp [qak,List.getD_eq_getElem?_getD,List.getElem?_eq_getElem h]
def lastI (L:List Tk) (i:Nat):Int:=if h:i - 1<L.length then (if i=0 then 0 else L[i - 1].id) else 0
theorem sameTask_l1 (y0 y1 y2 y3 y4:Int) (ch us:List Int) (hl:us.length≤1000000):∀ (n i:Nat),i+n=us.length→Ev (fun k=>ostinatoref05_SameTask.l1 k (i:Int) y0 y1 y2 y3 y4 ch us y0 y1 y2 y3 y4 ch us) true:=by
 intro n
 induction n with
 |zero=>
  intro i hi
  exact Ev.step (fun k=>by rw [ostinatoref05_SameTask.l1]) (Ev.ifn (by omega) (Ev.now _))
 |succ n ih=>
  intro i hi
  refine Ev.step (fun k=>by rw [ostinatoref05_SameTask.l1]) (Ev.ifp (by omega) (Ev.ifp (by omega) (Ev.ifp (by omega) (Ev.ifp rfl ?_))))
  rw [qaW i (by omega)]
  exact ih (i+1) (by omega)
theorem sameTask_l0 (y0 y1 y2 y3 y4:Int) (ch us:List Int) (hc:ch.length≤1000000) (hl:us.length≤1000000):∀ (n i:Nat),i+n=ch.length→Ev (fun k=>ostinatoref05_SameTask.l0 k (i:Int) y0 y1 y2 y3 y4 ch us y0 y1 y2 y3 y4 ch us) true:=by
 intro n
 induction n with
 |zero=>
  intro i hi
  exact Ev.step (fun k=>by rw [ostinatoref05_SameTask.l0]) (Ev.ifn (by omega) (by simpa using sameTask_l1 y0 y1 y2 y3 y4 ch us hl us.length 0 (by omega)))
 |succ n ih=>
  intro i hi
  refine Ev.step (fun k=>by rw [ostinatoref05_SameTask.l0]) (Ev.ifp (by omega) (Ev.ifp (by omega) (Ev.ifp (by omega) (Ev.ifp rfl ?_))))
  rw [qaW i (by omega)]
  exact ih (i+1) (by omega)
theorem sameTask_f (y0 y1 y2 y3 y4:Int) (ch us:List Int) (hc:ch.length≤1000000) (hl:us.length≤1000000):Ev (fun k=>ostinatoref05_SameTask.f k y0 y1 y2 y3 y4 ch us y0 y1 y2 y3 y4 ch us) true:=by
 unfold ostinatoref05_SameTask.f
 refine Ev.ifp rfl (Ev.ifp rfl (Ev.ifp rfl (Ev.ifp rfl (Ev.ifp rfl (Ev.ifp rfl ?_)))))
 have e:((us.length:Int) != (us.length:Int))=false:=by simp
 rw [e]
 refine Ev.step (fun k=>by rw [ostinatoref05_SameTask.j0]) (Ev.ifn (by decide) ?_)
 simpa using sameTask_l0 y0 y1 y2 y3 y4 ch us hc hl ch.length 0 (by omega)
theorem sameTasks_l0 (L:List Tk) (hL:L.length≤70000) (hb:∀ x ∈ L,x.ch.length≤1000000∧x.us.length≤1000000):∀ (n i:Nat),i+n=L.length→Ev (fun k=>ostinatoref05_SameTasks.l0 k (L.map tkTo) (L.map tkTo) (i:Int)) true:=by
 intro n
 induction n with
 |zero=>
  intro i hi
  exact Ev.step (fun k=>by rw [ostinatoref05_SameTasks.l0]) (Ev.ifn (by simp;omega) (Ev.now _))
 |succ n ih=>
  intro i hi
  have hil:i<L.length:=by omega
  have hx:=hb L[i] (List.getElem_mem hil)
  refine Ev.step (fun k=>by rw [ostinatoref05_SameTasks.l0,rdT_nat hil]) (Ev.ifp (by simp;omega) (Ev.ifp (by omega) (Ev.ifp (by simp;omega) ?_)))
  refine Ev.bind (sameTask_f L[i].id L[i].c L[i].d L[i].t L[i].p L[i].ch L[i].us hx.1 hx.2) ?_
  refine Ev.ifp rfl ?_
  rw [qaW i (by omega)]
  exact ih (i+1) (by omega)
theorem same_f (s r:Int) (L:List Tk) (hL:L.length≤70000) (hb:∀ x ∈ L,x.ch.length≤1000000∧x.us.length≤1000000):Ev (fun k=>ostinatoref05_Same.f k s r (L.map tkTo) s r (L.map tkTo)) true:=by
 have h:Ev (fun k=>ostinatoref05_SameTasks.f k (L.map tkTo) (L.map tkTo)) true:=by
  unfold ostinatoref05_SameTasks.f
  exact Ev.ifp rfl (by simpa using sameTasks_l0 L hL hb L.length 0 (by omega))
 unfold ostinatoref05_Same.f
 refine Ev.bind h ?_
 refine Ev.ifp rfl (Ev.ifp rfl ?_)
 have e:(r == r)=true:=by simp
 rw [e]
 exact Ev.now _
theorem right_l1 (sets id c d t p:Int) (ch us:List Int) (hl:us.length≤1000000):∀ (n i:Nat),i+n=us.length→Ev (fun k=>ostinatoref05_Right.l1 k sets (i:Int) id c d t p ch us) (usE sets us (us.drop i)):=by
 intro n
 induction n with
 |zero=>
  intro i hi
  obtain rfl:i=us.length:=by omega
  refine Ev.step (fun k=>by rw [ostinatoref05_Right.l1]) (Ev.ifn (by omega) ?_)
  unfold usE
  rw [List.drop_eq_nil_of_le (Nat.le_refl _)]
  by_cases h:us.length≤64
  ·have e:(us.length≤64∧([]:List Int).any (farB sets)=false):=⟨h,rfl⟩
   rw [if_pos e];exact Ev.ifn (by omega) (Ev.now _)
  ·have e:¬ (us.length≤64∧([]:List Int).any (farB sets)=false):=fun e=>h e.1
   rw [if_neg e];exact Ev.ifp (by omega) (Ev.now _)
 |succ n ih=>
  intro i hi
  have hil:i<us.length:=by omega
  have hd:us.drop i=us[i]::us.drop (i+1):=List.drop_eq_getElem_cons hil
  have hr:=rd_nat hil
  have hstep:∀ b:Bool,usE sets us (us.drop i)=if farB sets us[i]=true then 12 else usE sets us (us.drop (i+1)):=by
   intro _
   unfold usE
   rw [hd,List.any_cons]
   cases farB sets us[i] with
   |true=>simp
   |false=>simp
  rw [hstep true]
  refine Ev.step (fun k=>by rw [ostinatoref05_Right.l1,hr]) (Ev.ifp (by omega) (Ev.ifp (by omega) ?_))
  by_cases h1:us[i]<0
  ·rw [if_pos (by unfold farB;exact decide_eq_true (.inl h1))]
   exact Ev.ifp h1 (Ev.now _)
  ·refine Ev.ifn h1 ?_
   by_cases h2:us[i] ≥ sets
   ·rw [if_pos (by unfold farB;exact decide_eq_true (.inr h2))]
    exact Ev.ifp h2 (Ev.now _)
   ·rw [if_neg (by unfold farB;simp;omega)]
    refine Ev.ifn h2 ?_
    rw [qaW i (by omega)]
    exact ih (i+1) (by omega)
def chE (left sets:Int) (ch us l:List Int):Int:=if chunkFin ch (chunkL left l)=true then usE sets us us else 13
theorem right_l0 (sets id c d t p:Int) (ch us:List Int) (hc:ch.length≤1000000) (hl:us.length≤1000000):∀ (n i:Nat) (left:Int),i+n=ch.length→left≤9223372036854775807→-9223372036854775808≤left→Ev (fun k=>ostinatoref05_Right.l0 k sets left (i:Int) id c d t p ch us) (chE left sets ch us (ch.drop i)):=by
 have hj:∀ b:Bool,Ev (fun k=>ostinatoref05_Right.j3 k sets b id c d t p ch us) (if b=true then 13 else usE sets us us):=by
  intro b
  refine Ev.step (fun k=>by rw [ostinatoref05_Right.j3]) ?_
  cases b with
  |true=>exact Ev.ifp rfl (Ev.now _)
  |false=>exact Ev.ifn (by decide) (by simpa using right_l1 sets id c d t p ch us hl us.length 0 (by omega))
 intro n
 induction n with
 |zero=>
  intro i left hi h1 h2
  obtain rfl:i=ch.length:=by omega
  refine Ev.step (fun k=>by rw [ostinatoref05_Right.l0]) (Ev.ifn (by omega) ?_)
  unfold chE
  rw [List.drop_eq_nil_of_le (Nat.le_refl _)]
  show Ev _ (if (decide (ch.length=0) || (decide (ch.length≤64) && decide (left=0)))=true then usE sets us us else 13)
  by_cases h64:(ch.length:Int) > 64
  ·have e:(decide (ch.length=0) || (decide (ch.length≤64) && decide (left=0)))=false:=by
    rw [decide_eq_false (show ¬ ch.length=0 by omega),decide_eq_false (show ¬ ch.length≤64 by omega)];rfl
   rw [e,if_neg (by decide)]
   exact Ev.ifp h64 (by simpa using hj true)
  ·refine Ev.ifn h64 ?_
   by_cases h0:(ch.length:Int) > 0
   ·refine Ev.ifp h0 ?_
    have h:=hj (left != 0)
    have e:(decide (ch.length=0) || (decide (ch.length≤64) && decide (left=0))) = !(left != 0):=by
     have a1:decide (ch.length=0)=false:=decide_eq_false (by omega)
     have a2:decide (ch.length≤64)=true:=decide_eq_true (by omega)
     rw [a1,a2]
     by_cases hz:left=0<;>simp [hz]
    rw [e]
    cases hb:(left != 0) with
    |true=>rw [hb] at h;simpa using h
    |false=>rw [hb] at h;simpa using h
   ·have e:(decide (ch.length=0) || (decide (ch.length≤64) && decide (left=0)))=true:=by
     rw [decide_eq_true (show ch.length=0 by omega)];rfl
    rw [e,if_pos rfl]
    exact Ev.ifn h0 (by simpa using hj false)
 |succ n ih=>
  intro i left hi h1 h2
  have hil:i<ch.length:=by omega
  have hd:ch.drop i=ch[i]::ch.drop (i+1):=List.drop_eq_getElem_cons hil
  have hr:=rd_nat hil
  refine Ev.step (fun k=>by rw [ostinatoref05_Right.l0,hr]) (Ev.ifp (by omega) (Ev.ifp (by omega) ?_))
  have hstep:chE left sets ch us (ch.drop i)=if 1≤ch[i]∧ch[i]≤left then chE (left - ch[i]) sets ch us (ch.drop (i+1)) else 13:=by
   unfold chE
   rw [hd,chunkL]
   by_cases h:1≤ch[i]∧ch[i]≤left
   ·rw [if_pos h,if_pos h]
   ·rw [if_neg h,if_neg h];rfl
  rw [hstep]
  by_cases ha:ch[i]<1
  ·rw [if_neg (by omega)];exact Ev.ifp ha (Ev.now _)
  ·refine Ev.ifn ha ?_
   by_cases hb:ch[i] > left
   ·rw [if_neg (by omega)];exact Ev.ifp hb (Ev.now _)
   ·rw [if_pos (by omega)]
    refine Ev.ifn hb ?_
    rw [qaW i (by omega),wrap64_id (by omega) (by omega)]
    exact ih (i+1) (left - ch[i]) (by omega) (by omega) (by omega)
theorem right_f (id c d t p:Int) (ch us:List Int) (sets:Int) (hc:ch.length≤1000000) (hl:us.length≤1000000) (hcc:c≤9223372036854775807):Ev (fun k=>ostinatoref05_Right.f k id c d t p ch us sets) (rightE id c d t p ch us sets):=by
 have hj1:∀ b:Bool,1≤c→Ev (fun k=>ostinatoref05_Right.j1 k sets b id c d t p ch us) (if b=true then 10 else chE c sets ch us ch):=by
  intro b h1
  refine Ev.step (fun k=>by rw [ostinatoref05_Right.j1]) ?_
  cases b with
  |true=>exact Ev.ifp rfl (Ev.now _)
  |false=>exact Ev.ifn (by decide) (by simpa using right_l0 sets id c d t p ch us hc hl ch.length 0 c (by omega) hcc (by omega))
 have hj1':Ev (fun k=>ostinatoref05_Right.j1 k sets true id c d t p ch us) 10:=Ev.step (fun k=>by rw [ostinatoref05_Right.j1]) (Ev.ifp rfl (Ev.now _))
 have hj0t:Ev (fun k=>ostinatoref05_Right.j0 k sets true id c d t p ch us) 1:=Ev.step (fun k=>by rw [ostinatoref05_Right.j0]) (Ev.ifp rfl (Ev.now _))
 have hE:chE c sets ch us ch=if chunksB c ch=true then (if us.length≤64∧us.any (farB sets)=false then 0 else 12) else 13:=rfl
 have hj0f:Ev (fun k=>ostinatoref05_Right.j0 k sets false id c d t p ch us) (if inB c 1 d=true∧inB d 1 t=true∧t≤1073741824 then chE c sets ch us ch else 10):=by
  refine Ev.step (fun k=>by rw [ostinatoref05_Right.j0]) (Ev.ifn (by decide) ?_)
  unfold inB
  simp only [decide_eq_true_eq]
  by_cases h1:c<1
  ·rw [if_neg (by omega)];exact Ev.ifp h1 hj1'
  ·refine Ev.ifn h1 ?_
   by_cases h2:c > d
   ·rw [if_neg (by omega)];exact Ev.ifp h2 hj1'
   ·refine Ev.ifn h2 ?_
    by_cases h3:d > t
    ·rw [if_neg (by omega)];exact Ev.ifp h3 hj1'
    ·refine Ev.ifn h3 ?_
     have h:=hj1 (decide (t > 1073741824)) (by omega)
     by_cases h4:t > 1073741824
     ·rw [if_neg (by omega)];rw [decide_eq_true h4] at h ⊢;simpa using h
     ·rw [if_pos (by omega)];rw [decide_eq_false h4] at h ⊢;simpa using h
 unfold ostinatoref05_Right.f rightE
 rw [← hE]
 have hin:(inB id 1 99=true∧inB p 1 99=true)↔(1≤id∧id≤99)∧(1≤p∧p≤99):=by unfold inB;simp only [decide_eq_true_eq]
 by_cases h1:id<1
 ·rw [if_neg (by rw [hin];omega)];exact Ev.ifp h1 hj0t
 ·refine Ev.ifn h1 ?_
  by_cases h2:id > 99
  ·rw [if_neg (by rw [hin];omega)];exact Ev.ifp h2 hj0t
  ·refine Ev.ifn h2 ?_
   by_cases h3:p<1
   ·rw [if_neg (by rw [hin];omega)];exact Ev.ifp h3 hj0t
   ·refine Ev.ifn h3 ?_
    by_cases h4:p > 99
    ·rw [if_neg (by rw [hin];omega),decide_eq_true h4];exact hj0t
    ·rw [if_pos (by rw [hin];omega),decide_eq_false h4];exact hj0f
theorem rightE_id {x:Tk} {sets:Int} (h:rightE x.id x.c x.d x.t x.p x.ch x.us sets=0):1≤x.id:=by
 unfold rightE at h
 split at h
 ·rename_i h1
  have:=h1.1
  unfold inB at this
  simp at this
  exact this.1
 ·omega
theorem check_l1 (sets rel:Int) (L:List Tk) (hL:L.length≤70000) (V:Int) (i:Nat) (hi:i<L.length) (hV:Ev (fun k=>ostinatoref05_Check.l0 k ((i+1:Nat):Int) sets rel (L.map tkTo)) V):∀ (n j:Nat),j+n=i →
  Ev (fun k=>ostinatoref05_Check.l1 k (i:Int) (j:Int) sets rel (L.map tkTo)) (if L[i].p ∈ ((L.take i).drop j).map (·.p) then 14 else V):=by
 intro n
 induction n with
 |zero=>
  intro j hj
  obtain rfl:j=i:=by omega
  rw [List.drop_eq_nil_of_le (by simp;omega)]
  refine Ev.step (fun k=>by rw [ostinatoref05_Check.l1]) (Ev.ifn (by omega) ?_)
  rw [qaW j (by omega),if_neg (by simp)]
  exact hV
 |succ n ih=>
  intro j hj
  have hjl:j<L.length:=by omega
  have hjt:j<(L.take i).length:=by simp;omega
  have hd:(L.take i).drop j=L[j]::(L.take i).drop (j+1):=by
   rw [List.drop_eq_getElem_cons hjt];simp
  refine Ev.step (fun k=>by rw [ostinatoref05_Check.l1,rdT_nat hjl,rdT_nat hi]) ?_
  refine Ev.ifp (by omega) (Ev.ifp (by omega) (Ev.ifp (by simp;omega) (Ev.ifp (by omega) (Ev.ifp (by simp;omega) ?_))))
  rw [hd,List.map_cons]
  by_cases he:L[j].p=L[i].p
  ·rw [if_pos (by simp [he])]
   exact Ev.ifp he (Ev.now _)
  ·refine Ev.ifn he ?_
   rw [qaW j (by omega)]
   have h:=ih (j+1) (by omega)
   have e:(L[i].p ∈ L[j].p::((L.take i).drop (j+1)).map (·.p))↔(L[i].p ∈ ((L.take i).drop (j+1)).map (·.p)):=by
    rw [List.mem_cons]
    exact⟨fun h=>h.elim (fun e=>absurd e.symm he) id,.inr⟩
   by_cases hm:L[i].p ∈ ((L.take i).drop (j+1)).map (·.p)
   ·rw [if_pos (e.2 hm)];rw [if_pos hm] at h;exact h
   ·rw [if_neg (fun x=>hm (e.1 x))];rw [if_neg hm] at h;exact h
theorem check_l0 (sets rel:Int) (L:List Tk) (hL:L.length≤70000) (hb:∀ x ∈ L,x.ch.length≤1000000∧x.us.length≤1000000∧x.c≤9223372036854775807):∀ (n i:Nat),i+n=L.length →
  Ev (fun k=>ostinatoref05_Check.l0 k (i:Int) sets rel (L.map tkTo)) (checkGo sets (lastI L i) ((L.take i).map (·.p)) (L.drop i)):=by
 intro n
 induction n with
 |zero=>
  intro i hi
  obtain rfl:i=L.length:=by omega
  rw [List.drop_eq_nil_of_le (Nat.le_refl _)]
  refine Ev.step (fun k=>by rw [ostinatoref05_Check.l0]) ?_
  exact Ev.ifn (by simp) (Ev.now _)
 |succ n ih=>
  intro i hi
  have hil:i<L.length:=by omega
  have hx:=hb L[i] (List.getElem_mem hil)
  rw [checkGo_step hil]
  have hR:=right_f L[i].id L[i].c L[i].d L[i].t L[i].p L[i].ch L[i].us sets hx.1 hx.2.1 hx.2.2
  have hnext:=ih (i+1) (by omega)
  have hlast:lastI L (i+1)=L[i].id:=by unfold lastI;simp [hil]
  have htk:(L.take (i+1)).map (·.p)=(L.take i).map (·.p)++[L[i].p]:=by rw [List.take_add_one,List.getElem?_eq_getElem hil,List.map_append];rfl
  rw [hlast,htk] at hnext
  have h1:=check_l1 sets rel L hL _ i hil hnext i 0 (by omega)
  rw [List.drop_zero] at h1
  refine Ev.step (fun k=>by rw [ostinatoref05_Check.l0,rdT_nat hil]) ?_
  refine Ev.ifp (by simp;omega) (Ev.ifp (by omega) ?_)
  refine Ev.bind hR ?_
  by_cases hr0:rightE L[i].id L[i].c L[i].d L[i].t L[i].p L[i].ch L[i].us sets=0
  rotate_left
  ·rw [if_neg hr0];exact Ev.ifn hr0 (Ev.now _)
  rw [if_pos hr0]
  refine Ev.ifp hr0 ?_
  have hid:=rightE_id hr0
  have hj2:∀ b:Bool,Ev (fun k=>ostinatoref05_Check.j2 k (i:Int) b sets rel (L.map tkTo)) (if b=true then 10 else if L[i].p ∈ (L.take i).map (·.p) then 14 else checkGo sets L[i].id ((L.take i).map (·.p)++[L[i].p]) (L.drop (i+1))):=by
   intro b
   refine Ev.step (fun k=>by rw [ostinatoref05_Check.j2]) ?_
   cases b with
   |true=>exact Ev.ifp rfl (Ev.now _)
   |false=>exact Ev.ifn (by decide) (by simpa using h1)
  by_cases hi0:i=0
  ·subst hi0
   have hla:lastI L 0=0:=by unfold lastI;split<;>simp
   rw [hla,if_neg (by omega)]
   exact Ev.ifn (by decide) (by simpa using hj2 false)
  ·have hla:lastI L i=(L[i - 1]'(by omega)).id:=by unfold lastI;rw [dif_pos (by omega),if_neg hi0]
   have hw:wrap64 ((i:Int) - 1)=((i - 1:Nat):Int):=by rw [wrap64_id (by omega) (by omega)];omega
   rw [hla]
   refine Ev.ifp (by omega) (Ev.congr (fun k=>by rw [hw,rdT_nat (show i - 1<L.length by omega)]) (Ev.ifp (by omega) (Ev.ifp (by simp;omega) ?_)))
   have h:=hj2 (decide (L[i].id≤(L[i - 1]'(by omega)).id))
   by_cases hle:L[i].id≤(L[i - 1]'(by omega)).id
   ·rw [if_pos hle];rw [decide_eq_true hle] at h;rw [if_pos rfl] at h
    show Ev (fun n=>ostinatoref05_Check.j2 n (i:Int) (decide ((tkTo L[i]).f0≤(tkTo (L[i - 1]'(by omega))).f0)) sets rel (L.map tkTo)) 10
    rw [show decide ((tkTo L[i]).f0≤(tkTo (L[i - 1]'(by omega))).f0)=true from decide_eq_true hle]
    exact h
   ·rw [if_neg hle];rw [decide_eq_false hle] at h;rw [if_neg (by decide)] at h
    show Ev (fun n=>ostinatoref05_Check.j2 n (i:Int) (decide ((tkTo L[i]).f0≤(tkTo (L[i - 1]'(by omega))).f0)) sets rel (L.map tkTo)) _
    rw [show decide ((tkTo L[i]).f0≤(tkTo (L[i - 1]'(by omega))).f0)=false from decide_eq_false hle]
    exact h
theorem check_f (sets rel:Int) (L:List Tk) (hL:L.length≤70000) (hb:∀ x ∈ L,x.ch.length≤1000000∧x.us.length≤1000000∧x.c≤9223372036854775807):Ev (fun k=>ostinatoref05_Check.f k sets rel (L.map tkTo)) (checkE sets rel L):=by
 have ht:Ev (fun k=>ostinatoref05_Check.j0 k true sets rel (L.map tkTo)) 1:=Ev.step (fun k=>by rw [ostinatoref05_Check.j0]) (Ev.ifp rfl (Ev.now _))
 have h0:=check_l0 sets rel L hL hb L.length 0 (by omega)
 have hla:lastI L 0=0:=by unfold lastI;split<;>simp
 rw [hla,List.take_zero,List.drop_zero] at h0
 have hf:Ev (fun k=>ostinatoref05_Check.j0 k false sets rel (L.map tkTo)) (if L.length≤64 then checkGo sets 0 [] L else 15):=by
  refine Ev.step (fun k=>by rw [ostinatoref05_Check.j0]) (Ev.ifn (by decide) ?_)
  by_cases h:L.length≤64
  ·rw [if_pos h];exact Ev.ifn (by simp;omega) (by simpa using h0)
  ·rw [if_neg h];exact Ev.ifp (by simp;omega) (Ev.now _)
 unfold ostinatoref05_Check.f checkE
 have hin:(inB sets 0 256=true∧inB rel 0 1000=true∧L.length≠0)↔(0≤sets∧sets≤256)∧(0≤rel∧rel≤1000)∧L.length≠0:=by unfold inB;simp only [decide_eq_true_eq]
 by_cases h1:sets<0
 ·rw [if_neg (by rw [hin];omega)];exact Ev.ifp h1 ht
 ·refine Ev.ifn h1 ?_
  by_cases h2:sets > 256
  ·rw [if_neg (by rw [hin];omega)];exact Ev.ifp h2 ht
  ·refine Ev.ifn h2 ?_
   by_cases h3:rel<0
   ·rw [if_neg (by rw [hin];omega)];exact Ev.ifp h3 ht
   ·refine Ev.ifn h3 ?_
    by_cases h4:rel > 1000
    ·rw [if_neg (by rw [hin];omega)];exact Ev.ifp h4 ht
    ·refine Ev.ifn h4 ?_
     by_cases h5:L.length=0
     ·rw [if_neg (by rw [hin];omega)]
      have e:(((L.map tkTo).length:Int) == 0)=true:=by simp [h5]
      rw [e];exact ht
     ·rw [if_pos (by rw [hin];omega)]
      have e:(((L.map tkTo).length:Int) == 0)=false:=by simpa using h5
      rw [e];exact hf
end Go.Proofs.YtcfknijdhmildaaDoor.PParseRight
end
section
namespace Go.Proofs.YtcfknijdhmildaaDoor
open Go.RowKit Go.Shelf Go.Lib Go.Proofs.YtcfknijdhmildaaDoorW.PrintWords
theorem lnStep_app (A B:List (List Wd)) (x:Wd) (h:B≠[]):lnStep (A++B) x=A++lnStep B x:=by
 obtain⟨B',g,rfl⟩:∃ B' g,B=B'++[g]:=⟨B.dropLast,B.getLast h,(List.dropLast_concat_getLast h).symm⟩
 unfold lnStep
 rw [← List.append_assoc]
 simp only [List.getLast?_concat,List.dropLast_concat]
 split<;>simp
theorem lns_app (X:List Wd):∀ (n:Nat) (Y:List Wd),Y.length=n→(∀ x ∈ X,∀ y ∈ Y,x.q≠y.q)→lns (X++Y)=lns X++lns Y:=by
 intro n
 induction n with
 |zero=>intro Y h _;rw [List.eq_nil_of_length_eq_zero h];simp [lns]
 |succ n ih=>
  intro Y0 hn h
  rcases List.eq_nil_or_concat Y0 with rfl|⟨Y,y,rfl⟩
  ·simp [lns]
  ·rw [List.concat_eq_append] at hn h ⊢
   have hn':Y.length=n:=by simpa using hn
   have h1:=ih Y hn' (fun x hx z hz=>h x hx z (List.mem_append_left _ hz))
   by_cases hY:Y=[]
   ·subst hY
    have h2:=lns_other (l:=X) (x:=y) (fun x hx=>h x hx y (by simp))
    rw [List.nil_append,h2]
    rfl
   ·obtain⟨G,g,z,h2,_⟩:=lns_last Y hY
    rw [← List.append_assoc,lns_snoc,h1,lns_snoc]
    exact lnStep_app _ _ _ (by rw [h2];simp)
theorem lns_single (q:Int):∀ (n:Nat) (X:List Wd),X.length=n+1→(∀ x ∈ X,x.q=q)→lns X=[X]:=by
 intro n
 induction n with
 |zero=>
  intro X h _
  match X,h with
  |[x],_=>rfl
 |succ n ih=>
  intro X0 hn h
  rcases List.eq_nil_or_concat X0 with rfl|⟨X,y,rfl⟩
  ·simp at hn
  ·rw [List.concat_eq_append] at hn h ⊢
   have hn':X.length=n+1:=by simpa using hn
   have h1:=ih X hn' (fun x hx=>h x (List.mem_append_left _ hx))
   have hne:X≠[]:=by intro e;subst e;simp at hn'
   obtain⟨G,g,z,h2,h3⟩:=lns_last X hne
   have h4:=lns_same h2 (x:=y) (by rw [h z (List.mem_append_left _ (List.mem_of_getLast? h3)),h y (by simp)])
   rw [h1] at h2
   have h5:G=[]∧X=g++[z]:=by
    cases G with
    |nil=>exact⟨rfl,by simpa using h2⟩
    |cons a G=>simp at h2
   rw [h4,h5.1,← h5.2]
   rfl
def lnsB (q i:Nat) (s:List UInt8):List (List Wd):=lns (scan q false none i s)
def tx (l:List Wd):List ByteArray:=l.map (·.t)
def wds (b:List UInt8):List ByteArray:=tx (scan 0 false none 0 b)
theorem tx_scan (q i:Nat) (b:List UInt8):tx (scan q false none i b)=wds b:=by
 have h:=scan_shift i q b 0 false none 0
 simp only [moved,Nat.zero_add] at h
 unfold wds tx
 rw [h,List.map_map]
 rfl
theorem scan_nil_iff (q i:Nat) (b:List UInt8):scan q false none i b=[]↔wds b=[]:=by
 rw [← tx_scan q i b]
 unfold tx
 rw [List.map_eq_nil_iff]
theorem lnsB_last (q i:Nat) (b:List UInt8) (h:(10:UInt8) ∉ b):lnsB q i b=if wds b=[] then [] else [scan q false none i b]:=by
 by_cases hb:wds b=[]
 ·rw [if_pos hb]
  unfold lnsB
  rw [(scan_nil_iff q i b).2 hb]
  rfl
 ·rw [if_neg hb]
  refine lns_single q ((scan q false none i b).length - 1) _ ?_ (scan_line b q false none i h)
  have:scan q false none i b≠[]:=fun e=>hb ((scan_nil_iff q i b).1 e)
  have:=List.length_pos_iff.2 this
  omega
theorem lnsB_line (q i:Nat) (b r:List UInt8) (h:(10:UInt8) ∉ b) :
  lnsB q i (b++10::r)=(if wds b=[] then [] else [scan q false none i b])++lnsB (q+1) (i+b.length+1) r:=by
 rw [← lnsB_last q i b h]
 unfold lnsB
 rw [scan_app,List.count_eq_zero.2 h]
 refine lns_app _ _ _ rfl (fun x hx y hy=>?_)
 have h1:=scan_line b q false none i h x hx
 have h2:=(scan_bd r (q+1+0) false none (i+b.length+1) (fun _ _ e=>by cases e) y hy).2.1
 omega
def linesB (Bs:List (List UInt8)):List UInt8:=Bs.flatMap (·++[10])
theorem linesB_cons (b:List UInt8) (Bs:List (List UInt8)) (r:List UInt8):linesB (b::Bs)++r=b++10::(linesB Bs++r):=by simp [linesB]
theorem linesB_len (b:List UInt8) (Bs:List (List UInt8)):(linesB (b::Bs)).length=b.length+1+(linesB Bs).length:=by simp [linesB];omega
theorem lnsB_lines:∀ (Bs:List (List UInt8)),(∀ b ∈ Bs,(10:UInt8) ∉ b)→∀ (q i:Nat) (r:List UInt8),
  ∃ G,lnsB q i (linesB Bs++r)=G++lnsB (q+Bs.length) (i+(linesB Bs).length) r∧G.map tx=(Bs.map wds).filter (fun w=>!w.isEmpty):=by
 intro Bs
 induction Bs with
 |nil=>intro _ q i r;exact⟨[],rfl,rfl⟩
 |cons b Bs ih=>
  intro h q i r
  obtain⟨G,h1,h2⟩:=ih (fun c hc=>h c (List.mem_cons_of_mem _ hc)) (q+1) (i+b.length+1) r
  have e1:q+1+Bs.length=q+(b::Bs).length:=by simp;omega
  have e2:i+b.length+1+(linesB Bs).length=i+(linesB (b::Bs)).length:=by rw [linesB_len];omega
  rw [e1,e2] at h1
  rw [linesB_cons,lnsB_line q i b _ (h b List.mem_cons_self),h1]
  by_cases hb:wds b=[]
  ·refine⟨G,by rw [if_pos hb];rfl,?_⟩
   rw [h2,List.map_cons,List.filter_cons_of_neg (by simp [hb])]
  ·refine⟨scan q false none i b::G,by rw [if_neg hb];simp,?_⟩
   rw [List.map_cons,List.map_cons,tx_scan,List.filter_cons_of_pos (by simpa using hb),h2]
theorem lns_text (s:ByteArray):lns (textW s)=lnsB 1 0 s.data.toList:=by rw [textW_scan];rfl
def Pw (w:List UInt8):Prop:=∀ c ∈ w,c≠10∧c≠35∧ws c=false
theorem scan_in (q:Nat) (r:List UInt8):∀ (w:List UInt8),Pw w→∀ (p:Nat) (t:List UInt8) (i:Nat),scan q false (some (p,t)) i (w++r)=scan q false (some (p,t++w)) (i+w.length) r:=by
 intro w
 induction w with
 |nil=>intro _ p t i;simp
 |cons c w ih=>
  intro h p t i
  obtain⟨h1,h2,h3⟩:=h c List.mem_cons_self
  have e:=ih (fun d hd=>h d (List.mem_cons_of_mem _ hd)) p (t++[c]) (i+1)
  simp only [List.cons_append,scan]
  rw [if_neg h1,if_neg (by simp [h2]),if_neg (by simp [h3])]
  simp only [grow]
  rw [e,List.append_assoc]
  simp only [List.singleton_append,List.length_cons]
  rw [show i+1+w.length=i+(w.length+1) by omega]
theorem scan_word (q i:Nat) (w r:List UInt8) (hw:Pw w) (hn:w≠[]):scan q false none i (w++r)=scan q false (some (i,w)) (i+w.length) r:=by
 cases w with
 |nil=>exact absurd rfl hn
 |cons c w=>
  obtain⟨h1,h2,h3⟩:=hw c List.mem_cons_self
  simp only [List.cons_append,scan]
  rw [if_neg h1,if_neg (by simp [h2]),if_neg (by simp [h3])]
  simp only [grow]
  rw [scan_in q r w (fun d hd=>hw d (List.mem_cons_of_mem _ hd)),List.singleton_append]
  simp only [List.length_cons]
  rw [show i+1+w.length=i+(w.length+1) by omega]
theorem scan_blanks (q:Nat) (r:List UInt8):∀ (s:List UInt8),(∀ c ∈ s,ws c=true)→∀ (i:Nat),scan q false none i (s++r)=scan q false none (i+s.length) r:=by
 intro s
 induction s with
 |nil=>intro _ i;rfl
 |cons c s ih=>
  intro h i
  have h1:=h c List.mem_cons_self
  have c10:c≠10:=by rintro rfl;revert h1;decide
  have c35:c≠35:=by rintro rfl;revert h1;decide
  simp only [List.cons_append,scan]
  rw [if_neg c10,if_neg (by simp [c35]),if_pos h1,ih (fun d hd=>h d (List.mem_cons_of_mem _ hd))]
  simp only [emit,List.nil_append,List.length_cons]
  rw [show i+1+s.length=i+(s.length+1) by omega]
theorem scan_sep (q p i:Nat) (t s r:List UInt8) (hs:∀ c ∈ s,ws c=true) (hn:s≠[]):scan q false (some (p,t)) i (s++r)=⟨p,q,⟨t.toArray⟩⟩::scan q false none (i+s.length) r:=by
 cases s with
 |nil=>exact absurd rfl hn
 |cons c s=>
  have h1:=hs c List.mem_cons_self
  have c10:c≠10:=by rintro rfl;revert h1;decide
  have c35:c≠35:=by rintro rfl;revert h1;decide
  simp only [List.cons_append,scan]
  rw [if_neg c10,if_neg (by simp [c35]),if_pos h1,scan_blanks q r s (fun d hd=>hs d (List.mem_cons_of_mem _ hd))]
  simp only [emit,List.cons_append,List.nil_append,List.length_cons]
  rw [show i+1+s.length=i+(s.length+1) by omega]
def Tail (r:List UInt8):Prop:=∀ q p t i,scan q false (some (p,t)) i r=[⟨p,q,⟨t.toArray⟩⟩]
theorem tail_nil:Tail []:=fun _ _ _ _=>rfl
theorem tx_words (s:List UInt8) (hs:∀ c ∈ s,ws c=true) (hn:s≠[]) (r:List UInt8) (hr:Tail r):∀ (W:List (List UInt8)),W≠[]→(∀ w ∈ W,w≠[]∧Pw w)→∀ q i,tx (scan q false none i (Lib.join W s++r))=W.map (fun w=>⟨w.toArray⟩):=by
 intro W
 induction W with
 |nil=>intro h;exact absurd rfl h
 |cons w W ih=>
  intro _ h q i
  obtain⟨h1,h2⟩:=h w List.mem_cons_self
  cases W with
  |nil=>
   rw [Lib.join_one,scan_word q i w r h2 h1,hr]
   rfl
  |cons v W=>
   have e:Lib.join (w::v::W) s++r=w++(s++(Lib.join (v::W) s++r)):=by simp [Lib.join,List.intercalate,List.append_assoc]
   rw [e,scan_word q i w _ h2 h1,scan_sep q i _ w s _ hs hn]
   have:=ih (by simp) (fun x hx=>h x (List.mem_cons_of_mem _ hx)) q (i+w.length+s.length)
   unfold tx at this ⊢
   rw [List.map_cons,this]
   rfl
theorem wds_join (s:List UInt8) (hs:∀ c ∈ s,ws c=true) (hn:s≠[]) (r:List UInt8) (hr:Tail r) (W:List ByteArray) (hW:W≠[]) (h:∀ w ∈ W,w.data.toList≠[]∧Pw w.data.toList):wds (Lib.join (W.map (·.data.toList)) s++r)=W:=by
 have h1:=tx_words s hs hn r hr (W.map (·.data.toList)) (by simpa using hW) (fun w hw=>by
  obtain⟨v,hv,rfl⟩:=List.mem_map.1 hw
  exact h v hv) 0 0
 unfold wds
 rw [h1,List.map_map]
 conv=>rhs;rw [← List.map_id W]
 refine List.map_congr_left (fun w _=>?_)
 rfl
theorem itoa_pw (n:Int) (h:0≤n):itoa n≠[]∧∀ c ∈ itoa n,isD c:=by
 have e:itoa n=decDigits n.toNat:=by unfold itoa;rw [if_neg (by omega)]
 rw [e]
 exact⟨(dec_num _).2.2.1,(dec_num _).2.1⟩
theorem isD_pw {c:UInt8} (h:isD c):c≠10∧c≠35∧ws c=false:=by
 unfold isD at h
 refine⟨?_,?_,?_⟩
 ·rintro rfl;revert h;decide
 ·rintro rfl;revert h;decide
 ·by_cases h2:ws c=true
  ·unfold ws at h2
   simp at h2
   rcases h2 with rfl|rfl
   ·revert h;decide
   ·revert h;decide
  ·simpa using h2
theorem digB_pw {n:Int} (h:0≤n):(digB n).data.toList≠[]∧Pw (digB n).data.toList:=by
 rw [digB_data]
 exact⟨(itoa_pw n h).1,fun c hc=>isD_pw ((itoa_pw n h).2 c hc)⟩
theorem nameW_pw {name v:ByteArray} (hn:Pw name.data.toList) (hv:Pw v.data.toList):(nameW name v).data.toList≠[]∧Pw (nameW name v).data.toList:=by
 rw [nameW_data]
 refine⟨by simp,fun c hc=>?_⟩
 rcases List.mem_append.1 hc with hc|hc
 ·exact hn c hc
 ·rcases List.mem_cons.1 hc with rfl|hc
  ·decide
  ·exact hv c hc
theorem joinP_pw {l:List Int} (h:∀ y ∈ l,0≤y):Pw (joinP l).data.toList:=by
 have key:∀ (L:List (List UInt8)),(∀ x ∈ L,Pw x)→Pw (Lib.join L [44]):=by
  intro L
  induction L with
  |nil=>intro _ c hc;simp [Lib.join] at hc
  |cons x L ih=>
   intro hL c hc
   cases L with
   |nil=>rw [Lib.join_one] at hc;exact hL x List.mem_cons_self c hc
   |cons y L=>
    have e:Lib.join (x::y::L) [44]=x++44::Lib.join (y::L) [44]:=by simp [Lib.join,List.intercalate]
    rw [e] at hc
    rcases List.mem_append.1 hc with hc|hc
    ·exact hL x List.mem_cons_self c hc
    ·rcases List.mem_cons.1 hc with rfl|hc
     ·decide
     ·exact ih (fun z hz=>hL z (List.mem_cons_of_mem _ hz)) c hc
 have e:(joinP l).data.toList=Lib.join (l.map itoa) [44]:=by simp [joinP]
 rw [e]
 refine key _ (fun x hx=>?_)
 obtain⟨n,hn,rfl⟩:=List.mem_map.1 hx
 exact fun c hc=>isD_pw ((itoa_pw n (h n hn)).2 c hc)
def Sml (x:Tk):Prop:=(1≤x.id∧x.id≤99)∧(1≤x.p∧x.p≤99)∧(1≤x.c∧x.c≤x.d∧x.d≤x.t∧x.t≤1073741824)∧(∀ y ∈ x.ch,1≤y∧y≤1073741824)∧(∀ y ∈ x.us,0≤y∧y<256)
theorem Sml.of {x:Tk} {sets:Int} (hs:sets≤256) (h:rightE x.id x.c x.d x.t x.p x.ch x.us sets=0):Sml x:=by
 obtain⟨h1,h2,h3,_,h5,_,h7⟩:=rightE_small hs h
 exact⟨h1,h2,h3,h5,h7⟩
theorem taskW_pw {x:Tk} (h:Sml x):∀ w ∈ taskW x,w.data.toList≠[]∧Pw w.data.toList:=by
 obtain⟨h1,h2,h3,h4,h5⟩:=h
 have n0:Pw (⟨#[116,97,115,107]⟩:ByteArray).data.toList:=by unfold Pw;decide
 have n1:Pw (⟨#[99]⟩:ByteArray).data.toList:=by unfold Pw;decide
 have n2:Pw (⟨#[100]⟩:ByteArray).data.toList:=by unfold Pw;decide
 have n3:Pw (⟨#[116]⟩:ByteArray).data.toList:=by unfold Pw;decide
 have n4:Pw (⟨#[112]⟩:ByteArray).data.toList:=by unfold Pw;decide
 have n5:Pw (⟨#[99,104,117,110,107,115]⟩:ByteArray).data.toList:=by unfold Pw;decide
 have n6:Pw (⟨#[117,115,101]⟩:ByteArray).data.toList:=by unfold Pw;decide
 have d0:=digB_pw (n:=x.id) (by omega)
 have d1:=digB_pw (n:=x.c) (by omega)
 have d2:=digB_pw (n:=x.d) (by omega)
 have d3:=digB_pw (n:=x.t) (by omega)
 have d4:=digB_pw (n:=x.p) (by omega)
 have j5:=joinP_pw (l:=x.ch) (fun y hy=>by have:=h4 y hy;omega)
 have j6:=joinP_pw (l:=x.us) (fun y hy=>by have:=h5 y hy;omega)
 intro w hw
 unfold taskW at hw
 rcases List.mem_append.1 hw with hw|hw
 ·simp only [List.mem_cons,List.not_mem_nil,or_false] at hw
  rcases hw with rfl|rfl|rfl|rfl|rfl|rfl
  ·exact⟨by decide,n0⟩
  ·exact d0
  ·exact nameW_pw n1 d1.2
  ·exact nameW_pw n2 d2.2
  ·exact nameW_pw n3 d3.2
  ·exact nameW_pw n4 d4.2
 ·rcases List.mem_append.1 hw with hw|hw
  ·split at hw
   ·simp only [List.mem_cons,List.not_mem_nil,or_false] at hw
    rw [hw]
    exact nameW_pw n5 j5
   ·cases hw
  ·split at hw
   ·simp only [List.mem_cons,List.not_mem_nil,or_false] at hw
    rw [hw]
    exact nameW_pw n6 j6
   ·cases hw
theorem taskW_ne (x:Tk):taskW x≠[]:=by unfold taskW;simp
theorem lineP_join (x:Tk):(lineP x).data.toList=Lib.join ((taskW x).map (·.data.toList)) [32]:=by
 unfold lineP lineC lineN taskW
 by_cases h1:0<x.ch.length
 ·by_cases h2:0<x.us.length
  ·simp [h1,h2,nameW,Lib.join,List.intercalate,ByteArray.data_append]
  ·simp [h1,h2,nameW,Lib.join,List.intercalate,ByteArray.data_append]
 ·by_cases h2:0<x.us.length
  ·simp [h1,h2,nameW,Lib.join,List.intercalate,ByteArray.data_append]
  ·simp [h1,h2,nameW,Lib.join,List.intercalate,ByteArray.data_append]
def headW (sets rel:Int):List ByteArray:=[⟨#[99,97,99,104,101]⟩,digB sets,digB rel]
def headL (sets rel:Int):List UInt8:=Lib.join ((headW sets rel).map (·.data.toList)) [32]
theorem headT_lines (sets rel:Int):(headT sets rel).data.toList=headL sets rel++[10]:=by
 simp [headT,headL,headW,Lib.join,List.intercalate,ByteArray.data_append]
theorem headW_pw {sets rel:Int} (h1:0≤sets) (h2:0≤rel):∀ w ∈ headW sets rel,w.data.toList≠[]∧Pw w.data.toList:=by
 intro w hw
 unfold headW at hw
 simp only [List.mem_cons,List.not_mem_nil,or_false] at hw
 rcases hw with rfl|rfl|rfl
 ·exact⟨by decide,by unfold Pw;decide⟩
 ·exact digB_pw h1
 ·exact digB_pw h2
theorem join_no10 (s:List UInt8) (hs:(10:UInt8) ∉ s):∀ (W:List (List UInt8)),(∀ w ∈ W,Pw w)→(10:UInt8) ∉ Lib.join W s:=by
 intro W
 induction W with
 |nil=>intro _ hc;simp [Lib.join] at hc
 |cons x L ih=>
  intro hL hc
  cases L with
  |nil=>rw [Lib.join_one] at hc;exact (hL x List.mem_cons_self 10 hc).1 rfl
  |cons y L=>
   have e:Lib.join (x::y::L) s=x++(s++Lib.join (y::L) s):=by simp [Lib.join,List.intercalate]
   rw [e] at hc
   rcases List.mem_append.1 hc with hc|hc
   ·exact (hL x List.mem_cons_self 10 hc).1 rfl
   ·rcases List.mem_append.1 hc with hc|hc
    ·exact hs hc
    ·exact ih (fun z hz=>hL z (List.mem_cons_of_mem _ hz)) hc
def prnL (sets rel:Int) (L:List Tk):List (List UInt8):=headL sets rel::L.map (fun x=>(lineP x).data.toList)
theorem goT_lines:∀ (L:List Tk),(∀ x ∈ L,lineT x=lineP x)→∀ h,(goT h L).data.toList=h.data.toList++linesB (L.map (fun x=>(lineP x).data.toList)):=by
 intro L
 induction L with
 |nil=>intro _ h;simp [goT,linesB]
 |cons x L ih=>
  intro hL h
  rw [goT,ih (fun y hy=>hL y (List.mem_cons_of_mem _ hy)),hL x List.mem_cons_self]
  simp [linesB,ByteArray.data_append]
theorem rightE_more {x:Tk} {sets:Int} (hs:sets≤256) (h:rightE x.id x.c x.d x.t x.p x.ch x.us sets=0):lineT x=lineP x:=by
 unfold lineT
 rw [if_pos]
 unfold rightE at h ⊢
 split at h
 ·rename_i h1
  split at h
  ·rename_i h2
   split at h
   ·rename_i h3
    split at h
    ·rename_i h4
     have h5:x.us.any (farB 256)=false:=by
      refine List.any_eq_false.2 (fun y hy=>?_)
      have:=List.any_eq_false.1 h4.2 y hy
      unfold farB at this ⊢
      simp at this ⊢
      omega
     rw [if_pos h1,if_pos h2,if_pos h3,if_pos ⟨h4.1,h5⟩]
    ·cases h
   ·cases h
  ·cases h
 ·cases h
theorem checkGo_all {sets:Int}:∀ (L:List Tk) (last:Int) (met:List Int),checkGo sets last met L=0→∀ x ∈ L,rightE x.id x.c x.d x.t x.p x.ch x.us sets=0:=by
 intro L
 induction L with
 |nil=>intro _ _ _ x hx;cases hx
 |cons y L ih=>
  intro last met h x hx
  rw [checkGo] at h
  split at h
  ·rename_i h1
   split at h
   ·cases h
   ·split at h
    ·cases h
    ·rcases List.mem_cons.1 hx with rfl|hx
     ·exact h1
     ·exact ih _ _ h x hx
  ·rename_i h1;exact absurd h h1
theorem checkGo_take {sets:Int}:∀ (L M:List Tk) (last:Int) (met:List Int),checkGo sets last met (L++M)=0→checkGo sets last met L=0:=by
 intro L
 induction L with
 |nil=>intro _ _ _ _;rfl
 |cons y L ih=>
  intro M last met h
  rw [List.cons_append,checkGo] at h
  rw [checkGo]
  split at h
  ·rename_i h1
   split at h
   ·cases h
   ·rename_i h2
    split at h
    ·cases h
    ·rename_i h3
     rw [if_pos h1,if_neg h2,if_neg h3]
     exact ih M _ _ h
  ·rename_i h1;exact absurd h h1
theorem checkE_says {sets rel:Int} {L:List Tk} (h:checkE sets rel L=0):(0≤sets∧sets≤256)∧(0≤rel∧rel≤1000)∧L≠[]∧(∀ x ∈ L,Sml x∧lineT x=lineP x)∧∀ M N,L=M++N→M≠[]→checkE sets rel M=0:=by
 have hs:=qaZ h
 obtain⟨s1,s2,s3,s4⟩:=hs
 unfold checkE at h
 split at h
 ·rename_i h1
  refine⟨s1,s2,by intro e;rw [e] at s3;exact absurd s3 (by decide),fun x hx=>?_,fun M N e hM=>?_⟩
  ·have hx:=checkGo_all L _ _ h x hx
   exact⟨Sml.of s1.2 hx,rightE_more s1.2 hx⟩
  ·subst e
   unfold checkE
   rw [List.length_append] at s4
   have hl:=List.length_pos_iff.2 hM
   rw [if_pos ⟨h1.1,h1.2.1,by omega⟩,if_pos (by omega)]
   exact checkGo_take M N _ _ h
 ·cases h
theorem printT_lines {sets rel:Int} {L:List Tk} (h:checkE sets rel L=0):(printT sets rel L).data.toList=linesB (prnL sets rel L):=by
 obtain⟨_,_,_,h4,_⟩:=checkE_says h
 unfold printT
 rw [goT_lines L (fun x hx=>(h4 x hx).2),headT_lines]
 simp [prnL,linesB]
def prnW (sets rel:Int) (L:List Tk):List (List ByteArray):=headW sets rel::L.map taskW
theorem goP_good {sets rel size:Int}:∀ (L:List Tk) (G:List (List Wd)) (acc:List Tk) (rest:List (List Wd)),G.map tx=L.map taskW→(∀ x ∈ L,Sml x)→(∀ M N,L=M++N→M≠[]→checkE sets rel (acc++M)=0)→goP sets rel size acc (G++rest)=goP sets rel size (acc++L) rest:=by
 intro L
 induction L with
 |nil=>
  intro G acc rest h _ _
  rw [List.map_eq_nil_iff.1 h]
  simp
 |cons x L ih=>
  intro G acc rest h hS hC
  cases G with
  |nil=>cases h
  |cons g G=>
   simp only [List.map_cons,List.cons.injEq] at h
   have hg:taskG g=.ok x:=taskG_words h.1 (hS x List.mem_cons_self)
   have hc:=hC [x] L rfl (by simp)
   rw [List.cons_append,goP,hg]
   simp only
   rw [if_pos hc,ih G (acc++[x]) rest h.2 (fun y hy=>hS y (List.mem_cons_of_mem _ hy)) (fun M N e hM=>by
    rw [List.append_assoc]
    exact hC (x::M) N (by rw [e];rfl) (by simp))]
   simp
theorem parse_lines {sets rel size:Int} {L:List Tk} (h:checkE sets rel L=0) {G rest:List (List Wd)} (hG:G.map tx=prnW sets rel L) {s:ByteArray} (hs:lns (textW s)=G++rest) (hz:(s.size:Int)=size):parseP s=goP sets rel size L rest:=by
 obtain⟨h1,h2,h3,h4,h5⟩:=checkE_says h
 unfold prnW at hG
 cases G with
 |nil=>cases hG
 |cons g G=>
  simp only [List.map_cons,List.cons.injEq] at hG
  have hh:headG g=.ok (sets,rel):=headG_words hG.1 h1 h2
  unfold parseP
  rw [hs,List.cons_append]
  simp only
  rw [hh]
  simp only
  rw [hz]
  have:=goP_good (sets:=sets) (rel:=rel) (size:=size) L G [] rest hG.2 (fun x hx=>(h4 x hx).1) (fun M N e hM=>by rw [List.nil_append];exact h5 M N e hM)
  rw [this,List.nil_append]
theorem goP_end {sets rel size:Int} {L:List Tk} (h:L≠[]):goP sets rel size L []=(sets,rel,L,size,0):=by
 unfold goP
 rw [if_neg]
 intro e
 exact h (List.eq_nil_of_length_eq_zero e)
theorem prnL_wds {sets rel:Int} {L:List Tk} (h:checkE sets rel L=0):(∀ b ∈ prnL sets rel L,(10:UInt8) ∉ b)∧(prnL sets rel L).map wds=prnW sets rel L∧((prnL sets rel L).map wds).filter (fun w=>!w.isEmpty)=prnW sets rel L:=by
 obtain⟨h1,h2,h3,h4,h5⟩:=checkE_says h
 have e32:∀ c ∈ ([32]:List UInt8),ws c=true:=by decide
 have hh:=headW_pw h1.1 h2.1
 have kh:wds (headL sets rel)=headW sets rel:=by
  have:=wds_join [32] e32 (by simp) [] tail_nil (headW sets rel) (by simp [headW]) hh
  rwa [List.append_nil] at this
 have kt:∀ x ∈ L,wds (lineP x).data.toList=taskW x:=fun x hx=>by
  have:=wds_join [32] e32 (by simp) [] tail_nil (taskW x) (taskW_ne x) (taskW_pw (h4 x hx).1)
  rwa [List.append_nil,← lineP_join] at this
 have km:(prnL sets rel L).map wds=prnW sets rel L:=by
  unfold prnL prnW
  rw [List.map_cons,kh,List.map_map]
  congr 1
  exact List.map_congr_left (fun x hx=>kt x hx)
 refine⟨fun b hb=>?_,km,?_⟩
 ·unfold prnL at hb
  rcases List.mem_cons.1 hb with rfl|hb
  ·refine join_no10 [32] (by decide) _ (fun w hw=>?_)
   obtain⟨v,hv,rfl⟩:=List.mem_map.1 hw
   exact (hh v hv).2
  ·obtain⟨x,hx,rfl⟩:=List.mem_map.1 hb
   rw [lineP_join]
   refine join_no10 [32] (by decide) _ (fun w hw=>?_)
   obtain⟨v,hv,rfl⟩:=List.mem_map.1 hw
   exact (taskW_pw (h4 x hx).1 v hv).2
 ·rw [km]
  refine List.filter_eq_self.2 (fun w hw=>?_)
  unfold prnW at hw
  rcases List.mem_cons.1 hw with rfl|hw
  ·rfl
  ·obtain⟨x,hx,rfl⟩:=List.mem_map.1 hw
   have:=taskW_ne x
   cases ht:taskW x with
   |nil=>exact absurd ht this
   |cons a l=>rfl
theorem parse_print {sets rel:Int} {L:List Tk} (h:checkE sets rel L=0):parseP (printT sets rel L)=(sets,rel,L,((printT sets rel L).size:Int),0):=by
 obtain⟨h1,_,h3⟩:=prnL_wds h
 obtain⟨G,g1,g2⟩:=lnsB_lines (prnL sets rel L) h1 1 0 []
 rw [h3] at g2
 rw [List.append_nil,← printT_lines h] at g1
 have e:lns (textW (printT sets rel L))=G++[]:=by rw [lns_text,g1];rfl
 rw [parse_lines h g2 e rfl]
 exact goP_end (checkE_says h).2.2.1
theorem emit_end {q i:Nat} {cur:Option (Nat × List UInt8)} (h:∀ p t,cur=some (p,t)→p+t.length=i):∀ x ∈ emit q cur,0≤x.p∧x.p+(x.t.size:Int)≤(i:Int):=by
 intro x hx
 cases cur with
 |none=>simp [emit] at hx
 |some c=>
  obtain⟨p,t⟩:=c
  have h1:=h p t rfl
  simp [emit] at hx
  subst hx
  refine⟨by simp,?_⟩
  show (p:Int)+(t.toArray.size:Int)≤(i:Int)
  rw [List.size_toArray]
  omega
theorem scan_end:∀ (l:List UInt8) (q:Nat) (off:Bool) (cur:Option (Nat × List UInt8)) (i:Nat),(∀ p t,cur=some (p,t)→p+t.length=i)→∀ x ∈ scan q off cur i l,0≤x.p∧x.p+(x.t.size:Int)≤((i+l.length:Nat):Int):=by
 intro l
 induction l with
 |nil=>intro q off cur i h x hx;exact emit_end h x hx
 |cons c l ih=>
  intro q off cur i h x hx
  have hem:x ∈ emit q cur→0≤x.p∧x.p+(x.t.size:Int)≤((i+(c::l).length:Nat):Int):=fun he=>by
   have:=emit_end h x he
   simp only [List.length_cons]
   omega
  have hn:∀ (p:Nat) (t:List UInt8),(none:Option (Nat × List UInt8))=some (p,t)→p+t.length=i+1:=fun _ _ e=>by cases e
  have hl:i+1+l.length=i+(c::l).length:=by simp;omega
  simp only [scan] at hx
  split at hx
  ·rcases List.mem_append.1 hx with hx|hx
   ·exact hem hx
   ·rw [← hl];exact ih _ _ _ _ hn x hx
  ·split at hx
   ·rcases List.mem_append.1 hx with hx|hx
    ·exact hem hx
    ·rw [← hl];exact ih _ _ _ _ hn x hx
   ·split at hx
    ·rcases List.mem_append.1 hx with hx|hx
     ·exact hem hx
     ·rw [← hl];exact ih _ _ _ _ hn x hx
    ·rw [← hl]
     refine ih _ _ _ _ (fun p t e=>?_) x hx
     cases cur with
     |none=>simp [grow] at e;rw [← e.1,← e.2];simp
     |some d=>
      obtain⟨p',t'⟩:=d
      have:=h p' t' rfl
      simp [grow] at e
      rw [← e.1,← e.2]
      simp
      omega
theorem text_end (s:ByteArray):∀ x ∈ textW s,0≤x.p∧x.p+(x.t.size:Int)≤(s.size:Int):=by
 intro x hx
 rw [textW_scan] at hx
 have:=scan_end s.data.toList 1 false none 0 (fun _ _ h=>by cases h) x hx
 rw [Nat.zero_add,← Lib.size_eq] at this
 exact this
theorem wrongP_at {g:List Wd} {n:Int} (h:∀ x ∈ g,0≤x.p∧x.p+(x.t.size:Int)≤n) (hn:0≤n∧n≤9223372036854775807) (k:Nat):0≤wrongP g k∧wrongP g k≤n:=by
 unfold wrongP
 cases hx:g[k]? with
 |some x=>
  have:=h x (List.mem_of_getElem? hx)
  simp only
  omega
 |none=>
  simp only
  unfold endP
  cases hy:g.getLast? with
  |none=>exact⟨Int.le_refl _,hn.1⟩
  |some y=>
   have:=h y (List.mem_of_getLast? hy)
   simp only
   rw [wrap64_id (by omega) (by omega)]
   omega
theorem taskG_wrong {g:List Wd} {p:Int} (h:taskG g=.error p):∃ k,p=wrongP g k:=by
 unfold taskG at h
 repeat' split at h
 all_goals first|(injection h with h;exact⟨_,h.symm⟩)|cases h
theorem headG_wrong {g:List Wd} {p:Int} (h:headG g=.error p):∃ k,p=wrongP g k:=by
 unfold headG at h
 repeat' split at h
 all_goals first|(injection h with h;exact⟨_,h.symm⟩)|cases h
theorem goP_says {sets rel size:Int} (h0:0≤size∧size≤9223372036854775807):∀ (r:List (List Wd)) (acc:List Tk),(∀ g ∈ r,∀ x ∈ g,0≤x.p∧x.p+(x.t.size:Int)≤size)→(acc=[]∨checkE sets rel acc=0) →
  (∃ L,goP sets rel size acc r=(sets,rel,L,size,0)∧L≠[]∧checkE sets rel L=0∧L.length=acc.length+r.length)∨∃ at_ e,goP sets rel size acc r=(0,0,[],at_,e)∧e≠0∧0≤at_∧at_≤size:=by
 intro r
 induction r with
 |nil=>
  intro acc _ ha
  unfold goP
  by_cases hl:acc.length=0
  ·rw [if_pos hl];exact .inr ⟨size,1,rfl,by decide,h0.1,Int.le_refl _⟩
  ·rw [if_neg hl]
   rcases ha with rfl|ha
   ·exact absurd rfl hl
   ·exact .inl ⟨acc,rfl,fun e=>hl (by rw [e];rfl),ha,rfl⟩
 |cons g r ih=>
  intro acc hb ha
  have hg:=hb g List.mem_cons_self
  unfold goP
  cases ht:taskG g with
  |error p=>
   obtain⟨k,rfl⟩:=taskG_wrong ht
   have:=wrongP_at hg h0 k
   exact .inr ⟨_,10,rfl,by decide,this.1,this.2⟩
  |ok x=>
   simp only
   by_cases hc:checkE sets rel (acc++[x])=0
   ·rw [if_pos hc]
    rcases ih (acc++[x]) (fun y hy=>hb y (List.mem_cons_of_mem _ hy)) (.inr hc) with ⟨L,h1,h2,h3,h4⟩|h1
    ·exact .inl ⟨L,h1,h2,h3,by rw [h4];simp;omega⟩
    ·exact .inr h1
   ·rw [if_neg hc]
    refine .inr ⟨_,_,rfl,hc,?_⟩
    cases g with
    |nil=>exact⟨Int.le_refl _,h0.1⟩
    |cons y g=>
     have:=hg y List.mem_cons_self
     show 0≤y.p∧y.p≤size
     omega
theorem parseP_says (s:ByteArray) (hs:s.size≤65536) :
  (∃ sets rel L g G,parseP s=(sets,rel,L,(s.size:Int),0)∧L≠[]∧checkE sets rel L=0∧lns (textW s)=g::G∧headG g=.ok (sets,rel)∧L.length=G.length) ∨
  ∃ at_ e,parseP s=(0,0,[],at_,e)∧e≠0∧0≤at_∧at_≤(s.size:Int):=by
 have hb:∀ g ∈ lns (textW s),∀ x ∈ g,0≤x.p∧x.p+(x.t.size:Int)≤(s.size:Int):=fun g hg x hx=>text_end s x (lns_mem _ g hg x hx)
 have h0:(0:Int)≤(s.size:Int)∧(s.size:Int)≤9223372036854775807:=by omega
 unfold parseP
 cases hl:lns (textW s) with
 |nil=>exact .inr ⟨_,_,rfl,by decide,h0.1,Int.le_refl _⟩
 |cons g G=>
  rw [hl] at hb
  simp only
  cases hh:headG g with
  |error p=>
   obtain⟨k,rfl⟩:=headG_wrong hh
   have:=wrongP_at (hb g List.mem_cons_self) h0 k
   exact .inr ⟨_,_,rfl,by decide,this.1,this.2⟩
  |ok x=>
   simp only
   rcases goP_says (sets:=x.1) (rel:=x.2) h0 G [] (fun y hy=>hb y (List.mem_cons_of_mem _ hy)) (.inl rfl) with ⟨L,h1,h2,h3,h4⟩|⟨a,e,h1,h2,h3⟩
   ·exact .inl ⟨x.1,x.2,L,g,G,h1,h2,h3,rfl,hh,by rw [h4];simp⟩
   ·exact .inr ⟨a,e,h1,h2,h3⟩
theorem scan_few:∀ (l:List UInt8) (q:Nat) (off:Bool) (i:Nat),2 * (scan q off none i l).length≤l.length+1∧∀ c,2 * (scan q off (some c) i l).length≤l.length+2:=by
 intro l
 induction l with
 |nil=>intro q off i;simp [scan,emit]
 |cons c l ih=>
  intro q off i
  have e1:(emit q none).length=0:=rfl
  have e2:∀ d,(emit q (some d)).length=1:=fun _=>rfl
  have a1:=(ih (q+1) false (i+1)).1
  have a2:=(ih q true (i+1)).1
  have a3:=(ih q off (i+1)).1
  have a4:=(ih q off (i+1)).2
  simp only [List.length_cons]
  constructor
  ·simp only [scan]
   split
   ·rw [List.length_append,e1];omega
   ·split
    ·rw [List.length_append,e1];omega
    ·split
     ·rw [List.length_append,e1];omega
     ·have:=a4 (i,[c]);simp only [grow];omega
  ·rintro ⟨p,t⟩
   simp only [scan]
   split
   ·rw [List.length_append,e2];omega
   ·split
    ·rw [List.length_append,e2];omega
    ·split
     ·rw [List.length_append,e2];omega
     ·have:=a4 (p,t++[c]);simp only [grow];omega
theorem lns_flatten:∀ (n:Nat) (l:List Wd),l.length=n→(lns l).flatten=l:=by
 intro n
 induction n with
 |zero=>intro l h;rw [List.eq_nil_of_length_eq_zero h];rfl
 |succ n ih=>
  intro l0 hn
  rcases List.eq_nil_or_concat l0 with rfl|⟨l,x,rfl⟩
  ·rfl
  ·rw [List.concat_eq_append] at hn ⊢
   have hn':l.length=n:=by simpa using hn
   have h1:=ih l hn'
   by_cases hl:l=[]
   ·subst hl;rfl
   ·obtain⟨G,g,y,h2,h3⟩:=lns_last l hl
    by_cases hq:y.q=x.q
    ·rw [lns_same h2 hq]
     rw [h2] at h1
     rw [← h1]
     simp
    ·rw [lns_new h2 hq,List.flatten_append,← h2,h1]
     simp
theorem taskG_long {g:List Wd} {x:Tk} (h:taskG g=.ok x):6≤g.length:=by
 rcases Nat.lt_or_ge g.length 6 with h1|h1
 ·exfalso
  have e:nextP g 5=ByteArray.empty:=by unfold nextP;rw [List.getElem?_eq_none (by omega)]
  have g5:(namedP ByteArray.empty ⟨#[112]⟩ 99).2=false:=by unfold namedP;rw [pairV_empty];rfl
  unfold taskG at h
  rw [e,g5] at h
  repeat' split at h
  all_goals first|contradiction|(cases h;contradiction)|cases h
 ·exact h1
theorem goP_each {sets rel size:Int}:∀ (r:List (List Wd)) (acc L:List Tk) (S R at_:Int),goP sets rel size acc r=(S,R,L,at_,0)→∀ g ∈ r,6≤g.length:=by
 intro r
 induction r with
 |nil=>intro _ _ _ _ _ _ g hg;cases hg
 |cons y r ih=>
  intro acc L S R at_ h g hg
  unfold goP at h
  cases ht:taskG y with
  |error p=>rw [ht] at h;simp at h
  |ok x=>
   rw [ht] at h
   simp only at h
   split at h
   ·rcases List.mem_cons.1 hg with rfl|hg
    ·exact taskG_long ht
    ·exact ih _ _ _ _ _ h g hg
   ·rename_i hc
    simp only [Prod.mk.injEq] at h
    exact absurd h.2.2.2.2 hc
theorem parse_few {s:ByteArray} (hz:s.size≤65536) {S R at_:Int} {L:List Tk} (h:parseP s=(S,R,L,at_,0)):12 * L.length≤s.size+1:=by
 rcases parseP_says s hz with ⟨S',R',L',g,G,h1,h2,h3,h4,h5,h6⟩|⟨a,e,h1,h2,_⟩
 ·rw [h1] at h
  simp only [Prod.mk.injEq] at h
  obtain⟨rfl,rfl,rfl,_,_⟩:=h
  have hf:=lns_flatten _ (textW s) rfl
  have hw:=(scan_few s.data.toList 1 false 0).1
  rw [← textW_scan,← Lib.size_eq,← hf,h4] at hw
  have h7:goP S' R' s.size [] G=(S',R',L',(s.size:Int),0):=by
   have:=h1
   unfold parseP at this
   rw [h4] at this
   simp only at this
   rw [h5] at this
   exact this
  have h8:=goP_each G [] _ _ _ _ h7
  have key:∀ (M:List (List Wd)),(∀ g ∈ M,6≤g.length)→6 * M.length≤M.flatten.length:=by
   intro M
   induction M with
   |nil=>intro _;simp
   |cons y M ih=>
    intro hM
    have a1:=hM y List.mem_cons_self
    have a2:=ih (fun z hz=>hM z (List.mem_cons_of_mem _ hz))
    simp only [List.flatten_cons,List.length_append,List.length_cons]
    omega
  have:=key G h8
  rw [List.flatten_cons,List.length_append] at hw
  omega
 ·rw [h1] at h
  simp only [Prod.mk.injEq] at h
  exact absurd h.2.2.2.2 h2
theorem checkE_each {sets rel:Int} {L:List Tk} (h:checkE sets rel L=0):∀ x ∈ L,x.ch.length≤64∧x.us.length≤64∧x.c≤1073741824:=by
 have hs:=qaZ h
 intro x hx
 unfold checkE at h
 split at h
 ·have h1:=checkGo_all L _ _ (by simpa [hs.2.2.2] using h) x hx
  obtain⟨_,_,h3,h4,_,h6,_⟩:=rightE_small hs.1.2 h1
  exact⟨h4,h6,by omega⟩
 ·cases h
end Go.Proofs.YtcfknijdhmildaaDoor
end
