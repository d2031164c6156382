/- Texts of this claim, one behind the other: PParseReads3, QParseReadsQCheck, PParseReads8, PParseReads9, Facts. -/
import Derived.Test.YtcfknijdhmildaaDoorZParseReads3
import Derived.Test.YtcfknijdhmildaaDoorZParseReads1
import Derived.Orders
import Derived.Below

set_option maxHeartbeats 8000000
set_option maxRecDepth 100000
set_option linter.unusedVariables false
set_option linter.unusedSimpArgs false
section
namespace Go.Proofs.YtcfknijdhmildaaDoor.PParseReads
open Go.RowKit Go.Proofs.YtcfknijdhmildaaDoorW.PrintWords Go.Proofs.YtcfknijdhmildaaDoorW.PrintLast Go.Proofs.YtcfknijdhmildaaDoorW.PrintMore
attribute [local go_sem] max2_int min2_int max_two min_two qa7 qa6 max_four min_four
set_option linter.unusedVariables false
set_option linter.unusedSimpArgs false
noncomputable section
mutual
def ostinatoref05_Check.j0:Nat→Bool→Int→Int→List (S52)→Option (Int)
 |0,_,_,_,_=>none
 |k+1,x29,x108000,x108001,x108002=>if x29=true then (some 1) else (if (x108002.length:Int) > 64 then (some 15) else (ostinatoref05_Check.l0 k 0 x108000 x108001 x108002))
def ostinatoref05_Check.l0:Nat→Int→Int→Int→List (S52)→Option (Int)
 |0,_,_,_,_=>none
 |k+1,x3,x108000,x108001,x108002=>if x3<(x108002.length:Int) then (if 0≤x3 then ((ostinatoref05_Right.f k ((qal x108002 x3).f0) ((qal x108002 x3).f1) ((qal x108002 x3).f2) ((qal x108002 x3).f3) ((qal x108002 x3).f4) ((qal x108002 x3).f5) ((qal x108002 x3).f6) x108000).bind fun t109=>(if t109=0 then (if x3 > 0 then (if 0≤(wrap64 (x3 - 1)) then (if (wrap64 (x3 - 1))<(x108002.length:Int) then (ostinatoref05_Check.j2 k x3 (decide (((qal x108002 x3).f0)≤((qal x108002 (wrap64 (x3 - 1))).f0))) x108000 x108001 x108002) else (none)) else (none)) else (ostinatoref05_Check.j2 k x3 false x108000 x108001 x108002)) else (some t109))) else (none)) else (some 0)
def ostinatoref05_Check.j2:Nat→Int→Bool→Int→Int→List (S52)→Option (Int)
 |0,_,_,_,_,_=>none
 |k+1,x3,x69,x108000,x108001,x108002=>if x69=true then (some 10) else (ostinatoref05_Check.l1 k x3 0 x108000 x108001 x108002)
def ostinatoref05_Check.l1:Nat→Int→Int→Int→Int→List (S52)→Option (Int)
 |0,_,_,_,_,_=>none
 |k+1,x3,x5,x108000,x108001,x108002=>if x5<x3 then (if 0≤x5 then (if x5<(x108002.length:Int) then (if 0≤x3 then (if x3<(x108002.length:Int) then (if ((qal x108002 x5).f4)=((qal x108002 x3).f4) then (some 14) else (ostinatoref05_Check.l1 k x3 (wrap64 (x5+1)) x108000 x108001 x108002)) else (none)) else (none)) else (none)) else (none)) else (ostinatoref05_Check.l0 k (wrap64 (x3+1)) x108000 x108001 x108002)
end
def ostinatoref05_Check.f (k:Nat) (a0_0:Int) (a0_1:Int) (l0_2:List (S52)):Option (Int):=if a0_0<0 then (ostinatoref05_Check.j0 k true a0_0 a0_1 l0_2) else (if a0_0 > 256 then (ostinatoref05_Check.j0 k true a0_0 a0_1 l0_2) else (if a0_1<0 then (ostinatoref05_Check.j0 k true a0_0 a0_1 l0_2) else (if a0_1 > 1000 then (ostinatoref05_Check.j0 k true a0_0 a0_1 l0_2) else (ostinatoref05_Check.j0 k ((l0_2.length:Int) == 0) a0_0 a0_1 l0_2))))
def ostinatoref05_Check.T8:Bool × List (List Nat × List Nat):=(true,[([],[]),([0],[0]),([],[]),([1,2],[1,2]),([3],[3]),([],[]),([5],[5]),([4,6],[4,6]),([7,7,0,1,2,3,4,5,6,7],[7])])
def ostinatoref05_Check.B8:List Nat:=[0,1,0,7,15,0,32,127,255]
theorem ostinatoref05_Check.tab8:rtab .any (opsOf Tryd.f16 8)=ostinatoref05_Check.T8:=by kernel_rfl
theorem ostinatoref05_Check.bits8:waitsOk ostinatoref05_Check.T8.2 ostinatoref05_Check.B8=true:=by kernel_rfl
def ostinatoref05_Check.T11:Bool × List (List Nat × List Nat):=(true,[([],[]),([0],[0]),([1],[1]),([2],[2]),([3,2],[2,3]),([2],[2]),([4,5,2],[2,4,5]),([6,2],[2,6]),([7,2],[2,7]),([2],[2]),([9,2],[2,9]),([2],[2]),([11,2],[2,11]),([10,12,2],[2,10,12]),([13,2],[2,13]),([14,2],[2,14]),([8,15,2],[2,8,15]),([2,16],[2,16])])
def ostinatoref05_Check.B11:List Nat:=[0,1,3,7,15,7,63,127,255,7,519,7,2055,7687,15879,32263,65535,131071]
theorem ostinatoref05_Check.tab11:rtab .any (opsOf Tryd.f16 11)=ostinatoref05_Check.T11:=by kernel_rfl
theorem ostinatoref05_Check.bits11:waitsOk ostinatoref05_Check.T11.2 ostinatoref05_Check.B11=true:=by kernel_rfl
def ostinatoref05_Check.T16:Bool × List (List Nat × List Nat):=(true,[([],[]),([0],[0]),([],[]),([1,2],[1,2]),([3],[3]),([4],[4]),([],[]),([6],[6]),([],[]),([7,8],[7,8]),([9],[9]),([10],[10]),([5,11],[5,11])])
def ostinatoref05_Check.B16:List Nat:=[0,1,0,7,15,31,0,64,0,448,960,1984,4095]
theorem ostinatoref05_Check.tab16:rtab .any (opsOf Tryd.f16 16)=ostinatoref05_Check.T16:=by kernel_rfl
theorem ostinatoref05_Check.bits16:waitsOk ostinatoref05_Check.T16.2 ostinatoref05_Check.B16=true:=by kernel_rfl
theorem ostinatoref05_Check.calls (k:Nat) (a0_0:Int) (a0_1:Int) (A0_2:Option Addr) (c0_2:Nat) (l0_2:List (S52)) (r:Int) (w:World) (hr0_2:Kd.C k52 w A0_2 l0_2.length l0_2) (hc0_2:l0_2.length≤c0_2) (h:ostinatoref05_Check.f k a0_0 a0_1 l0_2=some r) :
  Calls Tryd.prog 16 #[.agg #[.int .i64 a0_0,.int .i64 a0_1,.slice A0_2 l0_2.length c0_2]] w fun e w'=>e=.returned (.int .i64 r)∧Below w.heap.size w w':=by
 have hu32:=Tryd.underlying32
 have hu52:=Tryd.underlying52
 have HR0_2:=qah.mk hr0_2
 have HC0_2:=qah.mk hc0_2
 clear hr0_2 hc0_2
 have HB:=qah.mk (Below.refl w.heap.size w)
 have H:(if a0_0<0 then (ostinatoref05_Check.j0 k true a0_0 a0_1 l0_2) else (if a0_0 > 256 then (ostinatoref05_Check.j0 k true a0_0 a0_1 l0_2) else (if a0_1<0 then (ostinatoref05_Check.j0 k true a0_0 a0_1 l0_2) else (if a0_1 > 1000 then (ostinatoref05_Check.j0 k true a0_0 a0_1 l0_2) else (ostinatoref05_Check.j0 k ((l0_2.length:Int) == 0) a0_0 a0_1 l0_2)))))=some r:=h
 clear h
 have HC2:=qah.mk H
 clear H
 go_enter Tryd.func16,Tryd.ntmps16
 go_upto_region 1 with (first|((with_reducible refine qaJ (N:=1) rfl ?_);(try (refine qbg (by rfl) ?_;dsimp only));refine qaG ?hg (N:=1) ?hd (cs:=#[.int .i64 a0_0,.int .i64 a0_1,.slice A0_2 l0_2.length c0_2]) (t:=32) ?hr ?_;(case hd=>rfl);(case hg=>rfl);(case hr=>first|(go_simp;done)|(go_simp;rfl));intro gb107 hg w3 hbox hb;have n0_:=qah.mk (qaw (by repeat (first|(with_reducible first|exact HB.out|apply qaj|apply qad|apply qai)|exact HB.out)) hb);have n1_:=qah.mk (hbox);have n2_:=qah.mk ((by rw [hg];exact (qao (by repeat (first|(with_reducible first|exact HB.out|apply qaj|apply qad|apply qai)|exact HB.out))):w.heap.size≤gb107));have n3_:=qah.mk ((by rw [hg];exact (qao (by repeat (first|(with_reducible first|exact HB.out|apply qaj|apply qad|apply qai)|exact HB.out))):w.heap.size≤gb107));clear HB;have HB:=n0_;have BK107:=n1_;have GW107:=n2_;have GE107:=n3_;clear n0_ n1_ n2_ n3_;clear hb hbox hg))
 (try simp only [Act.put,List.setIfInBounds_toArray,List.set_cons_zero,List.set_cons_succ])
 go_cut [29] (fun v29 wc=>∃ (kq:Nat) (x29_1:Bool),v29=.bool x29_1∧qah (ostinatoref05_Check.j0 kq x29_1 a0_0 a0_1 l0_2=some r)∧qah (kq≤k)∧qah (wc.heap[gb107]? = some (.cells #[.int .i64 a0_0,.int .i64 a0_1,(.slice A0_2 l0_2.length c0_2)] 32 (0,0)))∧qah (Below w.heap.size w wc))
 case first=>
  have H:=HC2.out
  clear HC2
  by_cases c4:a0_0<0
  ·rw [if_pos c4] at H
   have c4b0:decide (a0_0<0)=true:=decide_eq_true c4
   clear c4
   (first|rw [c4b0]|(simp only [qat,qau];rw [c4b0])|skip)
   have H':=qah.mk H
   clear H
   have hcz5_0:w3.cell? ⟨gb107,0,none⟩=some (.int .i64 a0_0):=(qab BK107.out 0).trans rfl
   have hcz5_1:w3.cell? ⟨gb107,1,none⟩=some (.int .i64 a0_1):=(qab BK107.out 1).trans rfl
   have hcz5_2:w3.cell? ⟨gb107,2,none⟩=some (.slice A0_2 l0_2.length c0_2):=(qab BK107.out 2).trans rfl
   have hfz5_0:=qaa BK107.out 0
   have hfz5_1:=qaa BK107.out 1
   have hfz5_2:=qaa BK107.out 2
   go_wp2
   go_meet
   case rel=>exact⟨_,(true),(by first|rfl|(simp;done)|(simp [*];done)),H',⟨by first|omega|exact Nat.le_refl _⟩,⟨by (with_reducible repeat (first|refine qae ?_ _|refine qag ?_|refine qac ?_ _));exact BK107.out⟩,⟨by repeat (first|(with_reducible first|exact HB.out|apply qaj|apply qad|apply qai|refine qaf ?_ GE107.out)|exact HB.out)⟩⟩
  ·rw [if_neg c4] at H
   have c4b0:decide (a0_0<0)=false:=decide_eq_false c4
   clear c4
   (first|rw [c4b0]|(simp only [qat,qau];rw [c4b0])|skip)
   by_cases c6:a0_0 > 256
   ·rw [if_pos c6] at H
    have c6b0:decide (256<a0_0)=true:=decide_eq_true c6
    clear c6
    have H':=qah.mk H
    clear H
    have hcz7_0:w3.cell? ⟨gb107,0,none⟩=some (.int .i64 a0_0):=(qab BK107.out 0).trans rfl
    have hcz7_1:w3.cell? ⟨gb107,1,none⟩=some (.int .i64 a0_1):=(qab BK107.out 1).trans rfl
    have hcz7_2:w3.cell? ⟨gb107,2,none⟩=some (.slice A0_2 l0_2.length c0_2):=(qab BK107.out 2).trans rfl
    have hfz7_0:=qaa BK107.out 0
    have hfz7_1:=qaa BK107.out 1
    have hfz7_2:=qaa BK107.out 2
    go_wp2
    go_meet
    case rel=>exact⟨_,(true),(by first|rfl|(simp;done)|(simp [*];done)),H',⟨by first|omega|exact Nat.le_refl _⟩,⟨by (with_reducible repeat (first|refine qae ?_ _|refine qag ?_|refine qac ?_ _));exact BK107.out⟩,⟨by repeat (first|(with_reducible first|exact HB.out|apply qaj|apply qad|apply qai|refine qaf ?_ GE107.out)|exact HB.out)⟩⟩
   ·rw [if_neg c6] at H
    have c6b0:decide (256<a0_0)=false:=decide_eq_false c6
    clear c6
    by_cases c8:a0_1<0
    ·rw [if_pos c8] at H
     have c8b0:decide (a0_1<0)=true:=decide_eq_true c8
     clear c8
     have H':=qah.mk H
     clear H
     have hcz9_0:w3.cell? ⟨gb107,0,none⟩=some (.int .i64 a0_0):=(qab BK107.out 0).trans rfl
     have hcz9_1:w3.cell? ⟨gb107,1,none⟩=some (.int .i64 a0_1):=(qab BK107.out 1).trans rfl
     have hcz9_2:w3.cell? ⟨gb107,2,none⟩=some (.slice A0_2 l0_2.length c0_2):=(qab BK107.out 2).trans rfl
     have hfz9_0:=qaa BK107.out 0
     have hfz9_1:=qaa BK107.out 1
     have hfz9_2:=qaa BK107.out 2
     go_wp2
     go_meet
     case rel=>exact⟨_,(true),(by first|rfl|(simp;done)|(simp [*];done)),H',⟨by first|omega|exact Nat.le_refl _⟩,⟨by (with_reducible repeat (first|refine qae ?_ _|refine qag ?_|refine qac ?_ _));exact BK107.out⟩,⟨by repeat (first|(with_reducible first|exact HB.out|apply qaj|apply qad|apply qai|refine qaf ?_ GE107.out)|exact HB.out)⟩⟩
    ·rw [if_neg c8] at H
     have c8b0:decide (a0_1<0)=false:=decide_eq_false c8
     clear c8
     by_cases c10:a0_1 > 1000
     ·rw [if_pos c10] at H
      have c10b0:decide (1000<a0_1)=true:=decide_eq_true c10
      clear c10
      have H':=qah.mk H
      clear H
      have hcz11_0:w3.cell? ⟨gb107,0,none⟩=some (.int .i64 a0_0):=(qab BK107.out 0).trans rfl
      have hcz11_1:w3.cell? ⟨gb107,1,none⟩=some (.int .i64 a0_1):=(qab BK107.out 1).trans rfl
      have hcz11_2:w3.cell? ⟨gb107,2,none⟩=some (.slice A0_2 l0_2.length c0_2):=(qab BK107.out 2).trans rfl
      have hfz11_0:=qaa BK107.out 0
      have hfz11_1:=qaa BK107.out 1
      have hfz11_2:=qaa BK107.out 2
      go_wp2
      go_meet
      case rel=>exact⟨_,(true),(by first|rfl|(simp;done)|(simp [*];done)),H',⟨by first|omega|exact Nat.le_refl _⟩,⟨by (with_reducible repeat (first|refine qae ?_ _|refine qag ?_|refine qac ?_ _));exact BK107.out⟩,⟨by repeat (first|(with_reducible first|exact HB.out|apply qaj|apply qad|apply qai|refine qaf ?_ GE107.out)|exact HB.out)⟩⟩
     ·rw [if_neg c10] at H
      have c10b0:decide (1000<a0_1)=false:=decide_eq_false c10
      clear c10
      have H':=qah.mk H
      clear H
      have hcz12_0:w3.cell? ⟨gb107,0,none⟩=some (.int .i64 a0_0):=(qab BK107.out 0).trans rfl
      have hcz12_1:w3.cell? ⟨gb107,1,none⟩=some (.int .i64 a0_1):=(qab BK107.out 1).trans rfl
      have hcz12_2:w3.cell? ⟨gb107,2,none⟩=some (.slice A0_2 l0_2.length c0_2):=(qab BK107.out 2).trans rfl
      have hfz12_0:=qaa BK107.out 0
      have hfz12_1:=qaa BK107.out 1
      have hfz12_2:=qaa BK107.out 2
      go_wp2
      go_meet
      case rel=>exact⟨_,(((l0_2.length:Int) == 0)),(by first|rfl|(simp;done)|(simp [*];done)),H',⟨by first|omega|exact Nat.le_refl _⟩,⟨by (with_reducible repeat (first|refine qae ?_ _|refine qag ?_|refine qac ?_ _));exact BK107.out⟩,⟨by repeat (first|(with_reducible first|exact HB.out|apply qaj|apply qad|apply qai|refine qaf ?_ GE107.out)|exact HB.out)⟩⟩
 case rest=>
  clear HC2
  try clear c1
  try clear p2
  try clear c4
  try clear c4b0
  try clear c6
  try clear c6b0
  try clear c8
  try clear c8b0
  try clear c10
  try clear c10b0
  try clear hcz11_0
  try clear hcz11_1
  try clear hcz11_2
  try clear hcz12_0
  try clear hcz12_1
  try clear hcz12_2
  try clear hcz5_0
  try clear hcz5_1
  try clear hcz5_2
  try clear hcz7_0
  try clear hcz7_1
  try clear hcz7_2
  try clear hcz9_0
  try clear hcz9_1
  try clear hcz9_2
  try clear hfz11_0
  try clear hfz11_1
  try clear hfz11_2
  try clear hfz12_0
  try clear hfz12_1
  try clear hfz12_2
  try clear hfz5_0
  try clear hfz5_1
  try clear hfz5_2
  try clear hfz7_0
  try clear hfz7_1
  try clear hfz7_2
  try clear hfz9_0
  try clear hfz9_1
  try clear hfz9_2
  obtain⟨kq,x29_1,rfl,HA,HJ1,BK107,HB⟩:=hcut
  cases kq with
  |zero=>exact absurd HA.out (by simp [ostinatoref05_Check.j0])
  |succ kj1=>
   have H:=HA.out
   clear HA
   simp only [ostinatoref05_Check.j0] at H
   by_cases c13:x29_1=true
   ·subst c13
    have H1:(some 1)=some r:=by rw [if_pos rfl] at H;exact H
    clear H
    have H:=H1
    clear H1
    obtain rfl:=Option.some.inj H
    go_wp2
    go_ret
    exact⟨by first|rfl|(simp [qaq,qap]<;>rfl)|(simp [bneNil,bneNilU]<;>rfl)|(simp [*,qaq,qap]<;>rfl),by repeat (first|(with_reducible first|exact HB.out|apply qaj|apply qad|apply qai|refine qaf ?_ GE107.out)|exact HB.out)⟩
   ·replace c13:=Bool.eq_false_iff.mpr c13
    subst c13
    have H1:(if (l0_2.length:Int) > 64 then (some 15) else (ostinatoref05_Check.l0 kj1 0 a0_0 a0_1 l0_2))=some r:=by rw [if_neg (show ¬ (false=true) by decide)] at H;exact H
    clear H
    have H:=H1
    clear H1
    by_cases c14:(l0_2.length:Int) > 64
    ·rw [if_pos c14] at H
     have c14b0:decide (64<(l0_2.length:Int))=true:=decide_eq_true c14
     have c14b1:decide (64<l0_2.length)=true:=decide_eq_true (by omega)
     clear c14
     obtain rfl:=Option.some.inj H
     have hcz15_0:wc.cell? ⟨gb107,0,none⟩=some (.int .i64 a0_0):=(qab BK107.out 0).trans rfl
     have hcz15_1:wc.cell? ⟨gb107,1,none⟩=some (.int .i64 a0_1):=(qab BK107.out 1).trans rfl
     have hcz15_2:wc.cell? ⟨gb107,2,none⟩=some (.slice A0_2 l0_2.length c0_2):=(qab BK107.out 2).trans rfl
     have hfz15_0:=qaa BK107.out 0
     have hfz15_1:=qaa BK107.out 1
     have hfz15_2:=qaa BK107.out 2
     go_wp2
     go_ret
     exact⟨by first|rfl|(simp [qaq,qap]<;>rfl)|(simp [bneNil,bneNilU]<;>rfl)|(simp [*,qaq,qap]<;>rfl),by repeat (first|(with_reducible first|exact HB.out|apply qaj|apply qad|apply qai|refine qaf ?_ GE107.out)|exact HB.out)⟩
    ·rw [if_neg c14] at H
     have c14b0:decide (64<(l0_2.length:Int))=false:=decide_eq_false c14
     have c14b1:decide (64<l0_2.length)=false:=decide_eq_false (by omega)
     clear c14
     have H':=qah.mk H
     clear H
     have hcz16_0:wc.cell? ⟨gb107,0,none⟩=some (.int .i64 a0_0):=(qab BK107.out 0).trans rfl
     have hcz16_1:wc.cell? ⟨gb107,1,none⟩=some (.int .i64 a0_1):=(qab BK107.out 1).trans rfl
     have hcz16_2:wc.cell? ⟨gb107,2,none⟩=some (.slice A0_2 l0_2.length c0_2):=(qab BK107.out 2).trans rfl
     have hfz16_0:=qaa BK107.out 0
     have hfz16_1:=qaa BK107.out 1
     have hfz16_2:=qaa BK107.out 2
     go_wp2
     go_loopg [3] kj1 (fun kq v3 w'=>∃ (x3_2:Int),v3=.int .i64 x3_2∧qah (ostinatoref05_Check.l0 kq x3_2 a0_0 a0_1 l0_2=some r)∧qah (kq≤kj1)∧qah (w'.heap[gb107]? = some (.cells #[.int .i64 a0_0,.int .i64 a0_1,(.slice A0_2 l0_2.length c0_2)] 32 (0,0)))∧qah (Below w.heap.size w w'))
     case atStart=>exact⟨(0),(by first|rfl|(simp;done)|(simp [*];done)),H',⟨Nat.le_refl _⟩,⟨by (with_reducible repeat (first|refine qae ?_ _|refine qag ?_|refine qac ?_ _));exact BK107.out⟩,⟨by repeat (first|(with_reducible first|exact HB.out|apply qaj|apply qad|apply qai|refine qaf ?_ GE107.out)|exact HB.out)⟩⟩
     case round=>
      clear H'
      try clear c1
      try clear p2
      try clear c4
      try clear c4b0
      try clear c6
      try clear c6b0
      try clear c8
      try clear c8b0
      try clear c10
      try clear c10b0
      try clear c13
      try clear c14
      try clear c14b0
      try clear c14b1
      try clear c16
      try clear hcz11_0
      try clear hcz11_1
      try clear hcz11_2
      try clear hcz12_0
      try clear hcz12_1
      try clear hcz12_2
      try clear hcz15_0
      try clear hcz15_1
      try clear hcz15_2
      try clear hcz16_0
      try clear hcz16_1
      try clear hcz16_2
      try clear hcz5_0
      try clear hcz5_1
      try clear hcz5_2
      try clear hcz7_0
      try clear hcz7_1
      try clear hcz7_2
      try clear hcz9_0
      try clear hcz9_1
      try clear hcz9_2
      try clear hfz11_0
      try clear hfz11_1
      try clear hfz11_2
      try clear hfz12_0
      try clear hfz12_1
      try clear hfz12_2
      try clear hfz15_0
      try clear hfz15_1
      try clear hfz15_2
      try clear hfz16_0
      try clear hfz16_1
      try clear hfz16_2
      try clear hfz5_0
      try clear hfz5_1
      try clear hfz5_2
      try clear hfz7_0
      try clear hfz7_1
      try clear hfz7_2
      try clear hfz9_0
      try clear hfz9_1
      try clear hfz9_2
      try clear p2
      obtain⟨x3_2,rfl,HA,HK2,BK107,HB⟩:=hrel
      cases gk with
      |zero=>exact absurd HA.out (by simp [ostinatoref05_Check.l0])
      |succ k2=>
       have H:=HA.out
       clear HA
       simp only [ostinatoref05_Check.l0] at H
       by_cases c17:x3_2<(l0_2.length:Int)
       ·rw [if_pos c17] at H
        have c17b0:decide (x3_2<(l0_2.length:Int))=true:=decide_eq_true c17
        clear c17
        by_cases c18:0≤x3_2
        ·rw [if_pos c18] at H
         have c18b0:decide (0≤x3_2)=true:=decide_eq_true c18
         clear c18
         replace H:=Option.bind_eq_some_iff.mp H
         obtain⟨t109,A190,H⟩:=H
         replace H:(if t109=0 then (if x3_2 > 0 then (if 0≤(wrap64 (x3_2 - 1)) then (if (wrap64 (x3_2 - 1))<(l0_2.length:Int) then (ostinatoref05_Check.j2 k2 x3_2 (decide (((qal l0_2 x3_2).f0)≤((qal l0_2 (wrap64 (x3_2 - 1))).f0))) a0_0 a0_1 l0_2) else (none)) else (none)) else (ostinatoref05_Check.j2 k2 x3_2 false a0_0 a0_1 l0_2)) else (some t109))=some r:=H
         have A19:=qah.mk A190
         clear A190
         by_cases c20:t109=0
         ·rw [if_pos c20] at H
          have c20b0:(t109 == 0)=true:=beq_iff_eq.mpr c20
          have c20b1:(t109 != 0)=false:=bne_eq_false_iff_eq.mpr c20
          clear c20
          have HC21:=qah.mk H
          clear H
          have hcz22_0:wr.cell? ⟨gb107,0,none⟩=some (.int .i64 a0_0):=(qab BK107.out 0).trans rfl
          have hcz22_1:wr.cell? ⟨gb107,1,none⟩=some (.int .i64 a0_1):=(qab BK107.out 1).trans rfl
          have hcz22_2:wr.cell? ⟨gb107,2,none⟩=some (.slice A0_2 l0_2.length c0_2):=(qab BK107.out 2).trans rfl
          have hfz22_0:=qaa BK107.out 0
          have hfz22_1:=qaa BK107.out 1
          have hfz22_2:=qaa BK107.out 2
          try go_wp2
          have n0_:=qah.mk (qag BK107.out)
          have n1_:=qah.mk (qai HB.out)
          clear BK107
          clear HB
          have BK107:=n0_
          have HB:=n1_
          clear n0_ n1_
          have p108:0≤(x3_2:Int):=of_decide_eq_true (by first|(with_reducible assumption)|assumption)
          have q108:x3_2<(l0_2.length:Int):=of_decide_eq_true (by first|(with_reducible assumption)|assumption)
          obtain⟨ad108,A108_5,c108_5,A108_6,c108_6,e108,hx108_0,hx108_1,hx108_2,hx108_3,hx108_4,hx108_5,hx108_6,hl108_5,hi108_5,hl108_6,hi108_6⟩:=at_T52 HR0_2.out x3_2 p108 q108
          have hw108_6:=hx108_6
          have hw108_5:=hx108_5
          have hw108_4:=hx108_4
          have hw108_3:=hx108_3
          have hw108_2:=hx108_2
          have hw108_1:=hx108_1
          have hw108_0:=hx108_0
          cases e108
          replace hx108_0:=(HB.out.cell (bLt w _ hx108_0)).trans hx108_0
          replace hx108_1:=(HB.out.cell (bLt w _ hx108_1)).trans hx108_1
          replace hx108_2:=(HB.out.cell (bLt w _ hx108_2)).trans hx108_2
          replace hx108_3:=(HB.out.cell (bLt w _ hx108_3)).trans hx108_3
          replace hx108_4:=(HB.out.cell (bLt w _ hx108_4)).trans hx108_4
          replace hx108_5:=(HB.out.cell (bLt w _ hx108_5)).trans hx108_5
          replace hx108_6:=(HB.out.cell (bLt w _ hx108_6)).trans hx108_6
          have HR108_5:=qah.mk hi108_5
          have HC108_5:=qah.mk hl108_5
          clear hi108_5 hl108_5
          have HR108_6:=qah.mk hi108_6
          have HC108_6:=qah.mk hl108_6
          clear hi108_6 hl108_6
          replace p108:=eq_true p108
          replace q108:=eq_true q108
          refine start_ (n:=9) (S:=fun w'=>w'.cell? ⟨gb107,0,none⟩=some (.int .i64 a0_0)∧w'.cell? ⟨gb107,1,none⟩=some (.int .i64 a0_1)∧w'.cell? ⟨gb107,2,none⟩=some (.slice (some ad108) l0_2.length c0_2)∧w'.cell? (ad108.add ((x3_2).toNat * 7))=some (.int .i64 ((qal l0_2 x3_2).f0))∧w'.cell? ⟨(ad108.add ((x3_2).toNat * 7)).block,(ad108.add ((x3_2).toNat * 7)).off+1,none⟩=some (.int .i64 ((qal l0_2 x3_2).f1))∧w'.cell? ⟨(ad108.add ((x3_2).toNat * 7)).block,(ad108.add ((x3_2).toNat * 7)).off+2,none⟩=some (.int .i64 ((qal l0_2 x3_2).f2))∧w'.cell? ⟨(ad108.add ((x3_2).toNat * 7)).block,(ad108.add ((x3_2).toNat * 7)).off+3,none⟩=some (.int .i64 ((qal l0_2 x3_2).f3))∧w'.cell? ⟨(ad108.add ((x3_2).toNat * 7)).block,(ad108.add ((x3_2).toNat * 7)).off+4,none⟩=some (.int .i64 ((qal l0_2 x3_2).f4))∧w'.cell? ⟨(ad108.add ((x3_2).toNat * 7)).block,(ad108.add ((x3_2).toNat * 7)).off+5,none⟩=some (.slice A108_5 ((qal l0_2 x3_2).f5).length c108_5)∧w'.cell? ⟨(ad108.add ((x3_2).toNat * 7)).block,(ad108.add ((x3_2).toNat * 7)).off+6,none⟩=some (.slice A108_6 ((qal l0_2 x3_2).f6).length c108_6)) (ds:=[]) #[false,false,false,false,false,false,false,false,false] (by kernel_rfl) rfl rfl ⟨(qab BK107.out 0).trans rfl,(qab BK107.out 1).trans rfl,(qab BK107.out 2).trans rfl,((HB.out.cell (bLt w _ hw108_0)).trans hw108_0),((HB.out.cell (bLt w _ hw108_1)).trans hw108_1),((HB.out.cell (bLt w _ hw108_2)).trans hw108_2),((HB.out.cell (bLt w _ hw108_3)).trans hw108_3),((HB.out.cell (bLt w _ hw108_4)).trans hw108_4),((HB.out.cell (bLt w _ hw108_5)).trans hw108_5),((HB.out.cell (bLt w _ hw108_6)).trans hw108_6)⟩ (fun hHeld=>?_);refine qa2 ostinatoref05_Check.tab8 ostinatoref05_Check.bits8 (fun HT_ HW_=>?_)
          generalize wr.drew=w23 at BK107 HB HR108_5 HR108_6 hx108_0 hx108_1 hx108_2 hx108_3 hx108_4 hx108_5 hx108_6 hHeld ⊢
          refine qaC (i:=0) (N:=some 41) (v:=?_) (a':=?_) #[true,false,false,false,false,false,false,false,false] rfl rfl (qav HT_.out (by kernel_rfl)) (fun _ _ _ h=>h) (Or.inl ⟨by rfl,?_⟩) ?_ ?_
          rotate_left
          ·intro w'
           go_simp
           with_reducible rfl
          rotate_left
          ·simp only [Act.put,List.setIfInBounds_toArray,List.set_cons_zero,List.set_cons_succ,qat,qau]
           rfl
          refine qaC (i:=2) (N:=some 43) (v:=?_) (a':=?_) #[true,false,true,false,false,false,false,false,false] rfl rfl (qav HT_.out (by kernel_rfl)) (fun _ _ _ h=>h) (Or.inl ⟨by rfl,?_⟩) ?_ ?_
          rotate_left
          ·intro w'
           go_simp
           with_reducible rfl
          rotate_left
          ·simp only [Act.put,List.setIfInBounds_toArray,List.set_cons_zero,List.set_cons_succ,qat,qau]
           rfl
          refine qaC (i:=5) (N:=some 46) (v:=?_) (a':=?_) #[true,false,true,false,false,true,false,false,false] rfl rfl (qav HT_.out (by kernel_rfl)) (fun _ _ _ h=>h) (Or.inl ⟨by rfl,?_⟩) ?_ ?_
          rotate_left
          ·intro w'
           go_simp
           with_reducible rfl
          rotate_left
          ·simp only [Act.put,List.setIfInBounds_toArray,List.set_cons_zero,List.set_cons_succ,qat,qau]
           rfl
          refine qba (i:=1) (N:=some 42) (v:=?_) (a':=?_) #[true,true,true,false,false,true,false,false,false] rfl rfl (qaE HT_.out HW_.out (by kernel_rfl)) (fun _ _ _ h=>h) (Or.inl ⟨by rfl,?_⟩) hHeld ?_ ?_
          rotate_left
          ·rintro w' ⟨s0,s1,s2,s3,s4,s5,s6,s7,s8,s9⟩
           go_simp
           with_reducible rfl
          rotate_left
          ·simp only [Act.put,List.setIfInBounds_toArray,List.set_cons_zero,List.set_cons_succ,qat,qau]
           rfl
          refine qaC (i:=3) (N:=some 44) (v:=?_) (a':=?_) #[true,true,true,true,false,true,false,false,false] rfl rfl (qav HT_.out (by kernel_rfl)) (fun _ _ _ h=>h) (Or.inl ⟨by rfl,?_⟩) ?_ ?_
          rotate_left
          ·intro w'
           go_simp
           with_reducible rfl
          rotate_left
          ·simp only [Act.put,List.setIfInBounds_toArray,List.set_cons_zero,List.set_cons_succ,qat,qau]
           rfl
          refine qba (i:=4) (N:=some 45) (v:=?_) (a':=?_) #[true,true,true,true,true,true,false,false,false] rfl rfl (qaE HT_.out HW_.out (by kernel_rfl)) (fun _ _ _ h=>h) (Or.inl ⟨by rfl,?_⟩) hHeld ?_ ?_
          rotate_left
          ·rintro w' ⟨s0,s1,s2,s3,s4,s5,s6,s7,s8,s9⟩
           go_simp
           with_reducible rfl
          rotate_left
          ·simp only [Act.put,List.setIfInBounds_toArray,List.set_cons_zero,List.set_cons_succ,qat,qau]
           rfl
          refine qba (i:=6) (N:=some 47) (v:=?_) (a':=?_) #[true,true,true,true,true,true,true,false,false] rfl rfl (qaE HT_.out HW_.out (by kernel_rfl)) (fun _ _ _ h=>h) (Or.inl ⟨by rfl,?_⟩) hHeld ?_ ?_
          rotate_left
          ·rintro w' ⟨s0,s1,s2,s3,s4,s5,s6,s7,s8,s9⟩
           go_simp
           with_reducible rfl
          rotate_left
          ·simp only [Act.put,List.setIfInBounds_toArray,List.set_cons_zero,List.set_cons_succ,qat,qau]
           rfl
          refine one_ (i:=7) (N:=some 48) #[true,true,true,true,true,true,true,true,false] rfl rfl (one_of HT_.out (by kernel_rfl)) (by decide) (fun K hK=>?_)
          refine goes_ Tryd.func35 (by kernel_rfl) rfl #[.agg #[.int .i64 ((qal l0_2 x3_2).f0),.int .i64 ((qal l0_2 x3_2).f1),.int .i64 ((qal l0_2 x3_2).f2),.int .i64 ((qal l0_2 x3_2).f3),.int .i64 ((qal l0_2 x3_2).f4),.slice A108_5 ((qal l0_2 x3_2).f5).length c108_5,.slice A108_6 ((qal l0_2 x3_2).f6).length c108_6],.int .i64 a0_0] (by rfl) rfl rfl (by (try simp only [List.map_toArray,List.map_cons,List.map_nil]);first|done|rfl|(simp only [List.length_drop,List.length_take];rfl)) ?_
          with_reducible refine (ostinatoref05_Right.calls k2 ((qal l0_2 x3_2).f0) ((qal l0_2 x3_2).f1) ((qal l0_2 x3_2).f2) ((qal l0_2 x3_2).f3) ((qal l0_2 x3_2).f4) _ _ ((qal l0_2 x3_2).f5) _ _ ((qal l0_2 x3_2).f6) a0_0 t109 _ ?side1 ?side2 ?side3 ?side4 A19.out).mono ?_
          (case side1=>repeat (first|exact (Kd.C_below HR108_5.out HB.out)|(with_reducible refine Kd.C_alloc ?_ _)|(with_reducible refine Kd.C_drewN ?_ _)|(with_reducible refine Kd.C_drew ?_)))
          (case side2=>exact HC108_5.out)
          (case side3=>repeat (first|exact (Kd.C_below HR108_6.out HB.out)|(with_reducible refine Kd.C_alloc ?_ _)|(with_reducible refine Kd.C_drewN ?_ _)|(with_reducible refine Kd.C_drew ?_)))
          (case side4=>exact HC108_6.out)
          rintro e w24 ⟨rfl,hb⟩
          refine⟨_,rfl,?_⟩
          have n0_:=qah.mk (qax (g:=gb107) (o:=.cells #[.int .i64 a0_0,.int .i64 a0_1,.slice (some ad108) l0_2.length c0_2] 32 (0,0)) (by (with_reducible repeat (first|refine qae ?_ _|refine qag ?_|refine qac ?_ _));exact BK107.out) hb)
          have n1_:=qah.mk (qaw (by repeat (first|(with_reducible first|exact HB.out|apply qaj|apply qad|apply qai|refine qaf ?_ GE107.out)|exact HB.out)) hb)
          clear BK107
          clear HB
          have BK107:=n0_
          have HB:=n1_
          clear n0_ n1_
          (try clear hb)
          (try clear hb2)
          (try clear hk)
          (try clear hi)
          refine hK.out _ _ ⟨(qab BK107.out 0).trans rfl,(qab BK107.out 1).trans rfl,(qab BK107.out 2).trans rfl,((HB.out.cell (bLt w _ hw108_0)).trans hw108_0),((HB.out.cell (bLt w _ hw108_1)).trans hw108_1),((HB.out.cell (bLt w _ hw108_2)).trans hw108_2),((HB.out.cell (bLt w _ hw108_3)).trans hw108_3),((HB.out.cell (bLt w _ hw108_4)).trans hw108_4),((HB.out.cell (bLt w _ hw108_5)).trans hw108_5),((HB.out.cell (bLt w _ hw108_6)).trans hw108_6)⟩ (fun hHeld=>?_)
          clear hK K
          refine norm_ (a':=?_) ?_ ?_
          rotate_left
          ·show Act.put _ (some 48) _=_
           simp only [Act.put,List.setIfInBounds_toArray,List.set_cons_zero,List.set_cons_succ,qat,qau]
           rfl
          refine qaC (i:=8) (N:=some 4) (v:=?_) (a':=?_) #[true,true,true,true,true,true,true,true,true] rfl rfl (qav HT_.out (by kernel_rfl)) (fun _ _ _ h=>h) (Or.inl ⟨by rfl,?_⟩) ?_ ?_
          rotate_left
          ·intro w'
           go_simp
           with_reducible rfl
          rotate_left
          ·simp only [Act.put,List.setIfInBounds_toArray,List.set_cons_zero,List.set_cons_succ,qat,qau]
           rfl
          refine done_ (done_of HT_.out (by kernel_rfl)) ?_
          go_upto_region 11 with (fail)
          go_cut [69] (fun v69 wc=>∃ (kq:Nat) (x69_20:Bool),v69=.bool x69_20∧qah (ostinatoref05_Check.j2 kq x3_2 x69_20 a0_0 a0_1 l0_2=some r)∧qah (kq≤k2)∧qah (wc.heap[gb107]? = some (.cells #[.int .i64 a0_0,.int .i64 a0_1,(.slice (some ad108) l0_2.length c0_2)] 32 (0,0)))∧qah (Below w.heap.size w wc))
          case first=>
           have H:=HC21.out
           clear HC21
           by_cases c25:x3_2 > 0
           ·rw [if_pos c25] at H
            have c25b0:decide (0<x3_2)=true:=decide_eq_true c25
            clear c25
            (first|rw [c25b0]|(simp only [qat,qau];rw [c25b0])|skip)
            obtain⟨ji26,hji26⟩:∃ j_:Int,(wrap64 (x3_2 - 1))=j_:=⟨_,rfl⟩
            replace H:(if 0≤(ji26) then (if (ji26)<(l0_2.length:Int) then (ostinatoref05_Check.j2 k2 x3_2 (decide (((qal l0_2 x3_2).f0)≤((qal l0_2 (ji26)).f0))) a0_0 a0_1 l0_2) else (none)) else (none))=some r:=by first|(rw [hji26] at H;exact H)|(simp only [hji26] at H ⊢;exact H)
            have hji26w:(IntKind.i64.wrap (x3_2 - 1))=ji26:=(qat _).trans hji26
            by_cases c27:0≤(ji26)
            ·rw [if_pos c27] at H
             have c27b0:decide (0≤(ji26))=true:=decide_eq_true c27
             clear c27
             by_cases c28:(ji26)<(l0_2.length:Int)
             ·rw [if_pos c28] at H
              have c28b0:decide ((ji26)<(l0_2.length:Int))=true:=decide_eq_true c28
              clear c28
              have H':=qah.mk H
              clear H
              try go_wp2
              have n0_:=qah.mk (qag BK107.out)
              have n1_:=qah.mk (qai HB.out)
              clear BK107
              clear HB
              have BK107:=n0_
              have HB:=n1_
              clear n0_ n1_
              have p110:0≤(x3_2:Int):=of_decide_eq_true (by first|(with_reducible assumption)|assumption)
              have q110:x3_2<(l0_2.length:Int):=of_decide_eq_true (by first|(with_reducible assumption)|assumption)
              obtain⟨ad110,A110_5,c110_5,A110_6,c110_6,e110,hx110_0,hx110_1,hx110_2,hx110_3,hx110_4,hx110_5,hx110_6,hl110_5,hi110_5,hl110_6,hi110_6⟩:=at_T52 HR0_2.out x3_2 p110 q110
              have hw110_6:=hx110_6
              have hw110_5:=hx110_5
              have hw110_4:=hx110_4
              have hw110_3:=hx110_3
              have hw110_2:=hx110_2
              have hw110_1:=hx110_1
              have hw110_0:=hx110_0
              obtain rfl:ad108=ad110:=(by injection e110)
              replace hx110_0:=(HB.out.cell (bLt w _ hx110_0)).trans hx110_0
              replace hx110_1:=(HB.out.cell (bLt w _ hx110_1)).trans hx110_1
              replace hx110_2:=(HB.out.cell (bLt w _ hx110_2)).trans hx110_2
              replace hx110_3:=(HB.out.cell (bLt w _ hx110_3)).trans hx110_3
              replace hx110_4:=(HB.out.cell (bLt w _ hx110_4)).trans hx110_4
              replace hx110_5:=(HB.out.cell (bLt w _ hx110_5)).trans hx110_5
              replace hx110_6:=(HB.out.cell (bLt w _ hx110_6)).trans hx110_6
              have HR110_5:=qah.mk hi110_5
              have HC110_5:=qah.mk hl110_5
              clear hi110_5 hl110_5
              have HR110_6:=qah.mk hi110_6
              have HC110_6:=qah.mk hl110_6
              clear hi110_6 hl110_6
              replace p110:=eq_true p110
              replace q110:=eq_true q110
              have p111:0≤((ji26):Int):=of_decide_eq_true (by first|(with_reducible assumption)|assumption)
              have q111:(ji26)<(l0_2.length:Int):=of_decide_eq_true (by first|(with_reducible assumption)|assumption)
              obtain⟨ad111,A111_5,c111_5,A111_6,c111_6,e111,hx111_0,hx111_1,hx111_2,hx111_3,hx111_4,hx111_5,hx111_6,hl111_5,hi111_5,hl111_6,hi111_6⟩:=at_T52 HR0_2.out (ji26) p111 q111
              have hw111_6:=hx111_6
              have hw111_5:=hx111_5
              have hw111_4:=hx111_4
              have hw111_3:=hx111_3
              have hw111_2:=hx111_2
              have hw111_1:=hx111_1
              have hw111_0:=hx111_0
              obtain rfl:ad108=ad111:=(by injection e111)
              replace hx111_0:=(HB.out.cell (bLt w _ hx111_0)).trans hx111_0
              replace hx111_1:=(HB.out.cell (bLt w _ hx111_1)).trans hx111_1
              replace hx111_2:=(HB.out.cell (bLt w _ hx111_2)).trans hx111_2
              replace hx111_3:=(HB.out.cell (bLt w _ hx111_3)).trans hx111_3
              replace hx111_4:=(HB.out.cell (bLt w _ hx111_4)).trans hx111_4
              replace hx111_5:=(HB.out.cell (bLt w _ hx111_5)).trans hx111_5
              replace hx111_6:=(HB.out.cell (bLt w _ hx111_6)).trans hx111_6
              have HR111_5:=qah.mk hi111_5
              have HC111_5:=qah.mk hl111_5
              clear hi111_5 hl111_5
              have HR111_6:=qah.mk hi111_6
              have HC111_6:=qah.mk hl111_6
              clear hi111_6 hl111_6
              replace p111:=eq_true p111
              replace q111:=eq_true q111
              refine start_ (n:=18) (S:=fun w'=>w'.cell? ⟨gb107,0,none⟩=some (.int .i64 a0_0)∧w'.cell? ⟨gb107,1,none⟩=some (.int .i64 a0_1)∧w'.cell? ⟨gb107,2,none⟩=some (.slice (some ad108) l0_2.length c0_2)∧w'.cell? (ad108.add ((x3_2).toNat * 7))=some (.int .i64 ((qal l0_2 x3_2).f0))∧w'.cell? ⟨(ad108.add ((x3_2).toNat * 7)).block,(ad108.add ((x3_2).toNat * 7)).off+1,none⟩=some (.int .i64 ((qal l0_2 x3_2).f1))∧w'.cell? ⟨(ad108.add ((x3_2).toNat * 7)).block,(ad108.add ((x3_2).toNat * 7)).off+2,none⟩=some (.int .i64 ((qal l0_2 x3_2).f2))∧w'.cell? ⟨(ad108.add ((x3_2).toNat * 7)).block,(ad108.add ((x3_2).toNat * 7)).off+3,none⟩=some (.int .i64 ((qal l0_2 x3_2).f3))∧w'.cell? ⟨(ad108.add ((x3_2).toNat * 7)).block,(ad108.add ((x3_2).toNat * 7)).off+4,none⟩=some (.int .i64 ((qal l0_2 x3_2).f4))∧w'.cell? ⟨(ad108.add ((x3_2).toNat * 7)).block,(ad108.add ((x3_2).toNat * 7)).off+5,none⟩=some (.slice A110_5 ((qal l0_2 x3_2).f5).length c110_5)∧w'.cell? ⟨(ad108.add ((x3_2).toNat * 7)).block,(ad108.add ((x3_2).toNat * 7)).off+6,none⟩=some (.slice A110_6 ((qal l0_2 x3_2).f6).length c110_6)∧w'.cell? (ad108.add (((ji26)).toNat * 7))=some (.int .i64 ((qal l0_2 (ji26)).f0))∧w'.cell? ⟨(ad108.add (((ji26)).toNat * 7)).block,(ad108.add (((ji26)).toNat * 7)).off+1,none⟩=some (.int .i64 ((qal l0_2 (ji26)).f1))∧w'.cell? ⟨(ad108.add (((ji26)).toNat * 7)).block,(ad108.add (((ji26)).toNat * 7)).off+2,none⟩=some (.int .i64 ((qal l0_2 (ji26)).f2))∧w'.cell? ⟨(ad108.add (((ji26)).toNat * 7)).block,(ad108.add (((ji26)).toNat * 7)).off+3,none⟩=some (.int .i64 ((qal l0_2 (ji26)).f3))∧w'.cell? ⟨(ad108.add (((ji26)).toNat * 7)).block,(ad108.add (((ji26)).toNat * 7)).off+4,none⟩=some (.int .i64 ((qal l0_2 (ji26)).f4))∧w'.cell? ⟨(ad108.add (((ji26)).toNat * 7)).block,(ad108.add (((ji26)).toNat * 7)).off+5,none⟩=some (.slice A111_5 ((qal l0_2 (ji26)).f5).length c111_5)∧w'.cell? ⟨(ad108.add (((ji26)).toNat * 7)).block,(ad108.add (((ji26)).toNat * 7)).off+6,none⟩=some (.slice A111_6 ((qal l0_2 (ji26)).f6).length c111_6)) (ds:=[]) #[false,false,false,false,false,false,false,false,false,false,false,false,false,false,false,false,false,false] (by kernel_rfl) rfl rfl ⟨(qab BK107.out 0).trans rfl,(qab BK107.out 1).trans rfl,(qab BK107.out 2).trans rfl,((HB.out.cell (bLt w _ hw110_0)).trans hw110_0),((HB.out.cell (bLt w _ hw110_1)).trans hw110_1),((HB.out.cell (bLt w _ hw110_2)).trans hw110_2),((HB.out.cell (bLt w _ hw110_3)).trans hw110_3),((HB.out.cell (bLt w _ hw110_4)).trans hw110_4),((HB.out.cell (bLt w _ hw110_5)).trans hw110_5),((HB.out.cell (bLt w _ hw110_6)).trans hw110_6),((HB.out.cell (bLt w _ hw111_0)).trans hw111_0),((HB.out.cell (bLt w _ hw111_1)).trans hw111_1),((HB.out.cell (bLt w _ hw111_2)).trans hw111_2),((HB.out.cell (bLt w _ hw111_3)).trans hw111_3),((HB.out.cell (bLt w _ hw111_4)).trans hw111_4),((HB.out.cell (bLt w _ hw111_5)).trans hw111_5),((HB.out.cell (bLt w _ hw111_6)).trans hw111_6)⟩ (fun hHeld=>?_);refine qa2 ostinatoref05_Check.tab11 ostinatoref05_Check.bits11 (fun HT_ HW_=>?_)
              generalize w24.drew=w29 at BK107 HB HR110_5 HR110_6 HR111_5 HR111_6 hx110_0 hx110_1 hx110_2 hx110_3 hx110_4 hx110_5 hx110_6 hx111_0 hx111_1 hx111_2 hx111_3 hx111_4 hx111_5 hx111_6 hHeld ⊢
              refine qaC (i:=0) (N:=some 52) (v:=?_) (a':=?_) #[true,false,false,false,false,false,false,false,false,false,false,false,false,false,false,false,false,false] rfl rfl (qav HT_.out (by kernel_rfl)) (fun _ _ _ h=>h) (Or.inl ⟨by rfl,?_⟩) ?_ ?_
              rotate_left
              ·intro w'
               go_simp
               with_reducible rfl
              rotate_left
              ·simp only [Act.put,List.setIfInBounds_toArray,List.set_cons_zero,List.set_cons_succ,qat,qau]
               rfl
              refine qaC (i:=1) (N:=some 53) (v:=?_) (a':=?_) #[true,true,false,false,false,false,false,false,false,false,false,false,false,false,false,false,false,false] rfl rfl (qav HT_.out (by kernel_rfl)) (fun _ _ _ h=>h) (Or.inl ⟨by rfl,?_⟩) ?_ ?_
              rotate_left
              ·intro w'
               go_simp
               with_reducible rfl
              rotate_left
              ·simp only [Act.put,List.setIfInBounds_toArray,List.set_cons_zero,List.set_cons_succ,qat,qau]
               rfl
              refine qaC (i:=2) (N:=some 54) (v:=?_) (a':=?_) #[true,true,true,false,false,false,false,false,false,false,false,false,false,false,false,false,false,false] rfl rfl (qav HT_.out (by kernel_rfl)) (fun _ _ _ h=>h) (Or.inl ⟨by rfl,?_⟩) ?_ ?_
              rotate_left
              ·intro w'
               go_simp
               with_reducible rfl
              rotate_left
              ·simp only [Act.put,List.setIfInBounds_toArray,List.set_cons_zero,List.set_cons_succ,qat,qau]
               rfl
              refine qaC (i:=3) (N:=some 55) (v:=?_) (a':=?_) #[true,true,true,true,false,false,false,false,false,false,false,false,false,false,false,false,false,false] rfl rfl (qav HT_.out (by kernel_rfl)) (fun _ _ _ h=>h) (Or.inl ⟨by rfl,?_⟩) ?_ ?_
              rotate_left
              ·intro w'
               go_simp
               with_reducible rfl
              rotate_left
              ·simp only [Act.put,List.setIfInBounds_toArray,List.set_cons_zero,List.set_cons_succ,qat,qau]
               rfl
              refine qaC (i:=5) (N:=some 57) (v:=?_) (a':=?_) #[true,true,true,true,false,true,false,false,false,false,false,false,false,false,false,false,false,false] rfl rfl (qav HT_.out (by kernel_rfl)) (fun _ _ _ h=>h) (Or.inl ⟨by rfl,?_⟩) ?_ ?_
              rotate_left
              ·intro w'
               go_simp
               with_reducible rfl
              rotate_left
              ·simp only [Act.put,List.setIfInBounds_toArray,List.set_cons_zero,List.set_cons_succ,qat,qau]
               rfl
              refine qaC (i:=9) (N:=some 61) (v:=?_) (a':=?_) #[true,true,true,true,false,true,false,false,false,true,false,false,false,false,false,false,false,false] rfl rfl (qav HT_.out (by kernel_rfl)) (fun _ _ _ h=>h) (Or.inl ⟨by rfl,?_⟩) ?_ ?_
              rotate_left
              ·intro w'
               go_simp
               with_reducible rfl
              rotate_left
              ·simp only [Act.put,List.setIfInBounds_toArray,List.set_cons_zero,List.set_cons_succ,qat,qau]
               rfl
              refine qaC (i:=11) (N:=some 63) (v:=?_) (a':=?_) #[true,true,true,true,false,true,false,false,false,true,false,true,false,false,false,false,false,false] rfl rfl (qav HT_.out (by kernel_rfl)) (fun _ _ _ h=>h) (Or.inl ⟨by rfl,?_⟩) ?_ ?_
              rotate_left
              ·intro w'
               go_simp
               with_reducible rfl
              rotate_left
              ·simp only [Act.put,List.setIfInBounds_toArray,List.set_cons_zero,List.set_cons_succ,qat,qau]
               rfl
              refine qaC (i:=12) (N:=some 64) (v:=?_) (a':=?_) #[true,true,true,true,false,true,false,false,false,true,false,true,true,false,false,false,false,false] rfl rfl (qav HT_.out (by kernel_rfl)) (fun _ _ _ h=>h) (Or.inl ⟨by rfl,?_⟩) ?_ ?_
              rotate_left
              ·intro w'
               go_simp
               with_reducible rfl
              rotate_left
              ·simp only [Act.put,List.setIfInBounds_toArray,List.set_cons_zero,List.set_cons_succ,qat,qau]
               rfl
              refine qba (i:=4) (N:=some 56) (v:=?_) (a':=?_) #[true,true,true,true,true,true,false,false,false,true,false,true,true,false,false,false,false,false] rfl rfl (qaE HT_.out HW_.out (by kernel_rfl)) (fun _ _ _ h=>h) (Or.inl ⟨by rfl,?_⟩) hHeld ?_ ?_
              rotate_left
              ·rintro w' ⟨s0,s1,s2,s3,s4,s5,s6,s7,s8,s9,s10,s11,s12,s13,s14,s15,s16⟩
               go_simp
               with_reducible rfl
              rotate_left
              ·simp only [Act.put,List.setIfInBounds_toArray,List.set_cons_zero,List.set_cons_succ,qat,qau]
               rfl
              refine qaC (i:=6) (N:=some 58) (v:=?_) (a':=?_) #[true,true,true,true,true,true,true,false,false,true,false,true,true,false,false,false,false,false] rfl rfl (qav HT_.out (by kernel_rfl)) (fun _ _ _ h=>h) (Or.inl ⟨by rfl,?_⟩) ?_ ?_
              rotate_left
              ·intro w'
               go_simp
               with_reducible rfl
              rotate_left
              ·simp only [Act.put,List.setIfInBounds_toArray,List.set_cons_zero,List.set_cons_succ,qat,qau]
               rfl
              refine qaC (i:=7) (N:=some 59) (v:=?_) (a':=?_) #[true,true,true,true,true,true,true,true,false,true,false,true,true,false,false,false,false,false] rfl rfl (qav HT_.out (by kernel_rfl)) (fun _ _ _ h=>h) (Or.inl ⟨by rfl,?_⟩) ?_ ?_
              rotate_left
              ·intro w'
               go_simp
               with_reducible rfl
              rotate_left
              ·simp only [Act.put,List.setIfInBounds_toArray,List.set_cons_zero,List.set_cons_succ,qat,qau]
               rfl
              refine qba (i:=8) (N:=some 60) (v:=?_) (a':=?_) #[true,true,true,true,true,true,true,true,true,true,false,true,true,false,false,false,false,false] rfl rfl (qaE HT_.out HW_.out (by kernel_rfl)) (fun _ _ _ h=>h) (Or.inl ⟨by rfl,?_⟩) hHeld ?_ ?_
              rotate_left
              ·rintro w' ⟨s0,s1,s2,s3,s4,s5,s6,s7,s8,s9,s10,s11,s12,s13,s14,s15,s16⟩
               go_simp
               with_reducible rfl
              rotate_left
              ·simp only [Act.put,List.setIfInBounds_toArray,List.set_cons_zero,List.set_cons_succ,qat,qau]
               rfl
              refine qba (i:=10) (N:=some 62) (v:=?_) (a':=?_) #[true,true,true,true,true,true,true,true,true,true,true,true,true,false,false,false,false,false] rfl rfl (qaE HT_.out HW_.out (by kernel_rfl)) (fun _ _ _ h=>h) (Or.inl ⟨by rfl,?_⟩) hHeld ?_ ?_
              rotate_left
              ·rintro w' ⟨s0,s1,s2,s3,s4,s5,s6,s7,s8,s9,s10,s11,s12,s13,s14,s15,s16⟩
               go_simp
               with_reducible rfl
              rotate_left
              ·simp only [Act.put,List.setIfInBounds_toArray,List.set_cons_zero,List.set_cons_succ,qat,qau]
               rfl
              refine qaC (i:=13) (N:=some 65) (v:=?_) (a':=?_) #[true,true,true,true,true,true,true,true,true,true,true,true,true,true,false,false,false,false] rfl rfl (qav HT_.out (by kernel_rfl)) (fun _ _ _ h=>h) (Or.inl ⟨by rfl,?_⟩) ?_ ?_
              rotate_left
              ·intro w'
               go_simp
               with_reducible rfl
              rotate_left
              ·simp only [Act.put,List.setIfInBounds_toArray,List.set_cons_zero,List.set_cons_succ,qat,qau]
               rfl
              refine qaC (i:=14) (N:=some 66) (v:=?_) (a':=?_) #[true,true,true,true,true,true,true,true,true,true,true,true,true,true,true,false,false,false] rfl rfl (qav HT_.out (by kernel_rfl)) (fun _ _ _ h=>h) (Or.inl ⟨by rfl,?_⟩) ?_ ?_
              rotate_left
              ·intro w'
               go_simp
               with_reducible rfl
              rotate_left
              ·simp only [Act.put,List.setIfInBounds_toArray,List.set_cons_zero,List.set_cons_succ,qat,qau]
               rfl
              refine qba (i:=15) (N:=some 67) (v:=?_) (a':=?_) #[true,true,true,true,true,true,true,true,true,true,true,true,true,true,true,true,false,false] rfl rfl (qaE HT_.out HW_.out (by kernel_rfl)) (fun _ _ _ h=>h) (Or.inl ⟨by rfl,?_⟩) hHeld ?_ ?_
              rotate_left
              ·rintro w' ⟨s0,s1,s2,s3,s4,s5,s6,s7,s8,s9,s10,s11,s12,s13,s14,s15,s16⟩
               go_simp
               with_reducible rfl
              rotate_left
              ·simp only [Act.put,List.setIfInBounds_toArray,List.set_cons_zero,List.set_cons_succ,qat,qau]
               rfl
              refine qaC (i:=16) (N:=some 68) (v:=?_) (a':=?_) #[true,true,true,true,true,true,true,true,true,true,true,true,true,true,true,true,true,false] rfl rfl (qav HT_.out (by kernel_rfl)) (fun _ _ _ h=>h) (Or.inl ⟨by rfl,?_⟩) ?_ ?_
              rotate_left
              ·intro w'
               go_simp
               with_reducible rfl
              rotate_left
              ·simp only [Act.put,List.setIfInBounds_toArray,List.set_cons_zero,List.set_cons_succ,qat,qau]
               rfl
              refine qaC (i:=17) (N:=some 69) (v:=?_) (a':=?_) #[true,true,true,true,true,true,true,true,true,true,true,true,true,true,true,true,true,true] rfl rfl (qav HT_.out (by kernel_rfl)) (fun _ _ _ h=>h) (Or.inl ⟨by rfl,?_⟩) ?_ ?_
              rotate_left
              ·intro w'
               go_simp
               with_reducible rfl
              rotate_left
              ·simp only [Act.put,List.setIfInBounds_toArray,List.set_cons_zero,List.set_cons_succ,qat,qau]
               rfl
              refine done_ (done_of HT_.out (by kernel_rfl)) ?_
              try go_wp2
              go_meet
              case rel=>exact⟨_,(decide (((qal l0_2 x3_2).f0)≤((qal l0_2 (ji26)).f0))),(by first|rfl|(simp;done)|(simp only [← hji26]<;>(first|rfl|simp))|(simp [*];done)),H',⟨by have:=HJ1.out;have:=HK2.out;first|omega|exact Nat.le_refl _⟩,⟨by (with_reducible repeat (first|refine qae ?_ _|refine qag ?_|refine qac ?_ _));exact BK107.out⟩,⟨by repeat (first|(with_reducible first|exact HB.out|apply qaj|apply qad|apply qai|refine qaf ?_ GE107.out)|exact HB.out)⟩⟩
             ·rw [if_neg c28] at H
              exact absurd H (by simp)
            ·rw [if_neg c27] at H
             exact absurd H (by simp)
           ·rw [if_neg c25] at H
            have c25b0:decide (0<x3_2)=false:=decide_eq_false c25
            clear c25
            (first|rw [c25b0]|(simp only [qat,qau];rw [c25b0])|skip)
            have H':=qah.mk H
            clear H
            try go_wp2
            have n0_:=qah.mk (qag BK107.out)
            have n1_:=qah.mk (qai HB.out)
            clear BK107
            clear HB
            have BK107:=n0_
            have HB:=n1_
            clear n0_ n1_
            refine start_ (n:=18) (S:=fun w'=>True) (ds:=[]) #[false,false,false,false,false,false,false,false,false,false,false,false,false,false,false,false,false,false] (by kernel_rfl) rfl rfl trivial (fun hHeld=>?_);refine qa2 ostinatoref05_Check.tab11 ostinatoref05_Check.bits11 (fun HT_ HW_=>?_)
            generalize w24.drew=w30 at BK107 HB hHeld ⊢
            refine qaC (i:=0) (N:=some 52) (v:=?_) (a':=?_) #[true,false,false,false,false,false,false,false,false,false,false,false,false,false,false,false,false,false] rfl rfl (qav HT_.out (by kernel_rfl)) (fun _ _ _ h=>h) (Or.inl ⟨by rfl,?_⟩) ?_ ?_
            rotate_left
            ·intro w'
             go_simp
             with_reducible rfl
            rotate_left
            ·simp only [Act.put,List.setIfInBounds_toArray,List.set_cons_zero,List.set_cons_succ,qat,qau]
             rfl
            refine qaC (i:=1) (N:=some 53) (v:=?_) (a':=?_) #[true,true,false,false,false,false,false,false,false,false,false,false,false,false,false,false,false,false] rfl rfl (qav HT_.out (by kernel_rfl)) (fun _ _ _ h=>h) (Or.inl ⟨by rfl,?_⟩) ?_ ?_
            rotate_left
            ·intro w'
             go_simp
             with_reducible rfl
            rotate_left
            ·simp only [Act.put,List.setIfInBounds_toArray,List.set_cons_zero,List.set_cons_succ,qat,qau]
             rfl
            refine qaC (i:=2) (N:=some 54) (v:=?_) (a':=?_) #[true,true,true,false,false,false,false,false,false,false,false,false,false,false,false,false,false,false] rfl rfl (qav HT_.out (by kernel_rfl)) (fun _ _ _ h=>h) (Or.inl ⟨by rfl,?_⟩) ?_ ?_
            rotate_left
            ·intro w'
             go_simp
             with_reducible rfl
            rotate_left
            ·simp only [Act.put,List.setIfInBounds_toArray,List.set_cons_zero,List.set_cons_succ,qat,qau]
             rfl
            refine qaC (i:=3) (N:=some 55) (v:=undef) (a':=?_) #[true,true,true,true,false,false,false,false,false,false,false,false,false,false,false,false,false,false] rfl rfl (qav HT_.out (by kernel_rfl)) (fun _ _ _ h=>h) (Or.inr ⟨by rfl,rfl⟩) ?_ ?_
            rotate_left
            ·simp only [Act.put,List.setIfInBounds_toArray,List.set_cons_zero,List.set_cons_succ,qat,qau]
             rfl
            refine qaC (i:=4) (N:=some 56) (v:=undef) (a':=?_) #[true,true,true,true,true,false,false,false,false,false,false,false,false,false,false,false,false,false] rfl rfl (qav HT_.out (by kernel_rfl)) (fun _ _ _ h=>h) (Or.inr ⟨by rfl,rfl⟩) ?_ ?_
            rotate_left
            ·simp only [Act.put,List.setIfInBounds_toArray,List.set_cons_zero,List.set_cons_succ,qat,qau]
             rfl
            refine qaC (i:=5) (N:=some 57) (v:=undef) (a':=?_) #[true,true,true,true,true,true,false,false,false,false,false,false,false,false,false,false,false,false] rfl rfl (qav HT_.out (by kernel_rfl)) (fun _ _ _ h=>h) (Or.inr ⟨by rfl,rfl⟩) ?_ ?_
            rotate_left
            ·simp only [Act.put,List.setIfInBounds_toArray,List.set_cons_zero,List.set_cons_succ,qat,qau]
             rfl
            refine qaC (i:=6) (N:=some 58) (v:=undef) (a':=?_) #[true,true,true,true,true,true,true,false,false,false,false,false,false,false,false,false,false,false] rfl rfl (qav HT_.out (by kernel_rfl)) (fun _ _ _ h=>h) (Or.inr ⟨by rfl,rfl⟩) ?_ ?_
            rotate_left
            ·simp only [Act.put,List.setIfInBounds_toArray,List.set_cons_zero,List.set_cons_succ,qat,qau]
             rfl
            refine qaC (i:=7) (N:=some 59) (v:=undef) (a':=?_) #[true,true,true,true,true,true,true,true,false,false,false,false,false,false,false,false,false,false] rfl rfl (qav HT_.out (by kernel_rfl)) (fun _ _ _ h=>h) (Or.inr ⟨by rfl,rfl⟩) ?_ ?_
            rotate_left
            ·simp only [Act.put,List.setIfInBounds_toArray,List.set_cons_zero,List.set_cons_succ,qat,qau]
             rfl
            refine qaC (i:=8) (N:=some 60) (v:=undef) (a':=?_) #[true,true,true,true,true,true,true,true,true,false,false,false,false,false,false,false,false,false] rfl rfl (qav HT_.out (by kernel_rfl)) (fun _ _ _ h=>h) (Or.inr ⟨by rfl,rfl⟩) ?_ ?_
            rotate_left
            ·simp only [Act.put,List.setIfInBounds_toArray,List.set_cons_zero,List.set_cons_succ,qat,qau]
             rfl
            refine qaC (i:=9) (N:=some 61) (v:=undef) (a':=?_) #[true,true,true,true,true,true,true,true,true,true,false,false,false,false,false,false,false,false] rfl rfl (qav HT_.out (by kernel_rfl)) (fun _ _ _ h=>h) (Or.inr ⟨by rfl,rfl⟩) ?_ ?_
            rotate_left
            ·simp only [Act.put,List.setIfInBounds_toArray,List.set_cons_zero,List.set_cons_succ,qat,qau]
             rfl
            refine qaC (i:=10) (N:=some 62) (v:=undef) (a':=?_) #[true,true,true,true,true,true,true,true,true,true,true,false,false,false,false,false,false,false] rfl rfl (qav HT_.out (by kernel_rfl)) (fun _ _ _ h=>h) (Or.inr ⟨by rfl,rfl⟩) ?_ ?_
            rotate_left
            ·simp only [Act.put,List.setIfInBounds_toArray,List.set_cons_zero,List.set_cons_succ,qat,qau]
             rfl
            refine qaC (i:=11) (N:=some 63) (v:=undef) (a':=?_) #[true,true,true,true,true,true,true,true,true,true,true,true,false,false,false,false,false,false] rfl rfl (qav HT_.out (by kernel_rfl)) (fun _ _ _ h=>h) (Or.inr ⟨by rfl,rfl⟩) ?_ ?_
            rotate_left
            ·simp only [Act.put,List.setIfInBounds_toArray,List.set_cons_zero,List.set_cons_succ,qat,qau]
             rfl
            refine qaC (i:=12) (N:=some 64) (v:=undef) (a':=?_) #[true,true,true,true,true,true,true,true,true,true,true,true,true,false,false,false,false,false] rfl rfl (qav HT_.out (by kernel_rfl)) (fun _ _ _ h=>h) (Or.inr ⟨by rfl,rfl⟩) ?_ ?_
            rotate_left
            ·simp only [Act.put,List.setIfInBounds_toArray,List.set_cons_zero,List.set_cons_succ,qat,qau]
             rfl
            refine qaC (i:=13) (N:=some 65) (v:=undef) (a':=?_) #[true,true,true,true,true,true,true,true,true,true,true,true,true,true,false,false,false,false] rfl rfl (qav HT_.out (by kernel_rfl)) (fun _ _ _ h=>h) (Or.inr ⟨by rfl,rfl⟩) ?_ ?_
            rotate_left
            ·simp only [Act.put,List.setIfInBounds_toArray,List.set_cons_zero,List.set_cons_succ,qat,qau]
             rfl
            refine qaC (i:=14) (N:=some 66) (v:=undef) (a':=?_) #[true,true,true,true,true,true,true,true,true,true,true,true,true,true,true,false,false,false] rfl rfl (qav HT_.out (by kernel_rfl)) (fun _ _ _ h=>h) (Or.inr ⟨by rfl,rfl⟩) ?_ ?_
            rotate_left
            ·simp only [Act.put,List.setIfInBounds_toArray,List.set_cons_zero,List.set_cons_succ,qat,qau]
             rfl
            refine qaC (i:=15) (N:=some 67) (v:=undef) (a':=?_) #[true,true,true,true,true,true,true,true,true,true,true,true,true,true,true,true,false,false] rfl rfl (qav HT_.out (by kernel_rfl)) (fun _ _ _ h=>h) (Or.inr ⟨by rfl,rfl⟩) ?_ ?_
            rotate_left
            ·simp only [Act.put,List.setIfInBounds_toArray,List.set_cons_zero,List.set_cons_succ,qat,qau]
             rfl
            refine qaC (i:=16) (N:=some 68) (v:=undef) (a':=?_) #[true,true,true,true,true,true,true,true,true,true,true,true,true,true,true,true,true,false] rfl rfl (qav HT_.out (by kernel_rfl)) (fun _ _ _ h=>h) (Or.inr ⟨by rfl,rfl⟩) ?_ ?_
            rotate_left
            ·simp only [Act.put,List.setIfInBounds_toArray,List.set_cons_zero,List.set_cons_succ,qat,qau]
             rfl
            refine qaC (i:=17) (N:=some 69) (v:=?_) (a':=?_) #[true,true,true,true,true,true,true,true,true,true,true,true,true,true,true,true,true,true] rfl rfl (qav HT_.out (by kernel_rfl)) (fun _ _ _ h=>h) (Or.inl ⟨by rfl,?_⟩) ?_ ?_
            rotate_left
            ·intro w'
             go_simp
             with_reducible rfl
            rotate_left
            ·simp only [Act.put,List.setIfInBounds_toArray,List.set_cons_zero,List.set_cons_succ,qat,qau]
             rfl
            refine done_ (done_of HT_.out (by kernel_rfl)) ?_
            try go_wp2
            go_meet
            case rel=>exact⟨_,(false),(by first|rfl|(simp;done)|(simp [*];done)),H',⟨by have:=HJ1.out;have:=HK2.out;first|omega|exact Nat.le_refl _⟩,⟨by (with_reducible repeat (first|refine qae ?_ _|refine qag ?_|refine qac ?_ _));exact BK107.out⟩,⟨by repeat (first|(with_reducible first|exact HB.out|apply qaj|apply qad|apply qai|refine qaf ?_ GE107.out)|exact HB.out)⟩⟩
          case rest=>
           clear HC21
           try clear c1
           try clear p1
           try clear q1
           try clear hx1
           try clear c2
           try clear p2
           try clear c3
           try clear c4
           try clear c4b0
           try clear c6
           try clear c6b0
           try clear p6
           try clear c8
           try clear c8b0
           try clear c10
           try clear c10b0
           try clear p10
           try clear q10
           try clear hx10
           try clear c11
           try clear p11
           try clear q11
           try clear hx11
           try clear c13
           try clear c14
           try clear c14b0
           try clear c14b1
           try clear c16
           try clear c17
           try clear c17b0
           try clear c18
           try clear c18b0
           try clear c20
           try clear c20b0
           try clear c20b1
           try clear c25
           try clear c25b0
           try clear c27
           try clear c27b0
           try clear c28
           try clear c28b0
           try clear hcz11_0
           try clear hcz11_1
           try clear hcz11_2
           try clear hcz12_0
           try clear hcz12_1
           try clear hcz12_2
           try clear hcz15_0
           try clear hcz15_1
           try clear hcz15_2
           try clear hcz16_0
           try clear hcz16_1
           try clear hcz16_2
           try clear hcz22_0
           try clear hcz22_1
           try clear hcz22_2
           try clear hcz5_0
           try clear hcz5_1
           try clear hcz5_2
           try clear hcz7_0
           try clear hcz7_1
           try clear hcz7_2
           try clear hcz9_0
           try clear hcz9_1
           try clear hcz9_2
           try clear hfz11_0
           try clear hfz11_1
           try clear hfz11_2
           try clear hfz12_0
           try clear hfz12_1
           try clear hfz12_2
           try clear hfz15_0
           try clear hfz15_1
           try clear hfz15_2
           try clear hfz16_0
           try clear hfz16_1
           try clear hfz16_2
           try clear hfz22_0
           try clear hfz22_1
           try clear hfz22_2
           try clear hfz5_0
           try clear hfz5_1
           try clear hfz5_2
           try clear hfz7_0
           try clear hfz7_1
           try clear hfz7_2
           try clear hfz9_0
           try clear hfz9_1
           try clear hfz9_2
           try clear hx108_0
           try clear hx108_1
           try clear hx108_2
           try clear hx108_3
           try clear hx108_4
           try clear hx108_5
           try clear hx108_6
           try clear hx110_0
           try clear hx110_1
           try clear hx110_2
           try clear hx110_3
           try clear hx110_4
           try clear hx110_5
           try clear hx110_6
           try clear hx111_0
           try clear hx111_1
           try clear hx111_2
           try clear hx111_3
           try clear hx111_4
           try clear hx111_5
           try clear hx111_6
           try clear p108
           try clear p110
           try clear p111
           try clear p2
           try clear q108
           try clear q110
           try clear q111
           obtain⟨kq,x69_20,rfl,HA,HJ20,BK107,HB⟩:=hcut
           cases kq with
           |zero=>exact absurd HA.out (by simp [ostinatoref05_Check.j2])
           |succ kj20=>
            have H:=HA.out
            clear HA
            simp only [ostinatoref05_Check.j2] at H
            by_cases c31:x69_20=true
            ·subst c31
             have H1:(some 10)=some r:=by rw [if_pos rfl] at H;exact H
             clear H
             have H:=H1
             clear H1
             obtain rfl:=Option.some.inj H
             go_wp2
             go_ret
             exact⟨by first|rfl|(simp [qaq,qap]<;>rfl)|(simp [bneNil,bneNilU]<;>rfl)|(simp [*,qaq,qap]<;>rfl),by repeat (first|(with_reducible first|exact HB.out|apply qaj|apply qad|apply qai|refine qaf ?_ GE107.out)|exact HB.out)⟩
            ·replace c31:=Bool.eq_false_iff.mpr c31
             subst c31
             have H1:(ostinatoref05_Check.l1 kj20 x3_2 0 a0_0 a0_1 l0_2)=some r:=by rw [if_neg (show ¬ (false=true) by decide)] at H;exact H
             clear H
             have H:=H1
             clear H1
             have H':=qah.mk H
             clear H
             go_wp2
             go_loopg [5] kj20 (fun kq v5 w'=>∃ (x5_4:Int),v5=.int .i64 x5_4∧qah (ostinatoref05_Check.l1 kq x3_2 x5_4 a0_0 a0_1 l0_2=some r)∧qah (kq≤kj20)∧qah (w'.heap[gb107]? = some (.cells #[.int .i64 a0_0,.int .i64 a0_1,(.slice (some ad108) l0_2.length c0_2)] 32 (0,0)))∧qah (Below w.heap.size w w'))
             case atStart=>exact⟨(0),(by first|rfl|(simp;done)|(simp [*];done)),H',⟨Nat.le_refl _⟩,⟨by (with_reducible repeat (first|refine qae ?_ _|refine qag ?_|refine qac ?_ _));exact BK107.out⟩,⟨by repeat (first|(with_reducible first|exact HB.out|apply qaj|apply qad|apply qai|refine qaf ?_ GE107.out)|exact HB.out)⟩⟩
             case round=>
              clear H'
              try clear c1
              try clear p1
              try clear q1
              try clear hx1
              try clear c2
              try clear p2
              try clear c3
              try clear c4
              try clear c4b0
              try clear c6
              try clear c6b0
              try clear p6
              try clear c8
              try clear c8b0
              try clear c10
              try clear c10b0
              try clear p10
              try clear q10
              try clear hx10
              try clear c11
              try clear p11
              try clear q11
              try clear hx11
              try clear c13
              try clear c14
              try clear c14b0
              try clear c14b1
              try clear c16
              try clear c17
              try clear c17b0
              try clear c18
              try clear c18b0
              try clear c20
              try clear c20b0
              try clear c20b1
              try clear c25
              try clear c25b0
              try clear c27
              try clear c27b0
              try clear c28
              try clear c28b0
              try clear c31
              try clear hcz11_0
              try clear hcz11_1
              try clear hcz11_2
              try clear hcz12_0
              try clear hcz12_1
              try clear hcz12_2
              try clear hcz15_0
              try clear hcz15_1
              try clear hcz15_2
              try clear hcz16_0
              try clear hcz16_1
              try clear hcz16_2
              try clear hcz22_0
              try clear hcz22_1
              try clear hcz22_2
              try clear hcz5_0
              try clear hcz5_1
              try clear hcz5_2
              try clear hcz7_0
              try clear hcz7_1
              try clear hcz7_2
              try clear hcz9_0
              try clear hcz9_1
              try clear hcz9_2
              try clear hfz11_0
              try clear hfz11_1
              try clear hfz11_2
              try clear hfz12_0
              try clear hfz12_1
              try clear hfz12_2
              try clear hfz15_0
              try clear hfz15_1
              try clear hfz15_2
              try clear hfz16_0
              try clear hfz16_1
              try clear hfz16_2
              try clear hfz22_0
              try clear hfz22_1
              try clear hfz22_2
              try clear hfz5_0
              try clear hfz5_1
              try clear hfz5_2
              try clear hfz7_0
              try clear hfz7_1
              try clear hfz7_2
              try clear hfz9_0
              try clear hfz9_1
              try clear hfz9_2
              try clear hx108_0
              try clear hx108_1
              try clear hx108_2
              try clear hx108_3
              try clear hx108_4
              try clear hx108_5
              try clear hx108_6
              try clear hx110_0
              try clear hx110_1
              try clear hx110_2
              try clear hx110_3
              try clear hx110_4
              try clear hx110_5
              try clear hx110_6
              try clear hx111_0
              try clear hx111_1
              try clear hx111_2
              try clear hx111_3
              try clear hx111_4
              try clear hx111_5
              try clear hx111_6
              try clear p1
              try clear p10
              try clear p108
              try clear p11
              try clear p110
              try clear p111
              try clear p2
              try clear p6
              try clear q1
              try clear q10
              try clear q108
              try clear q11
              try clear q110
              try clear q111
              obtain⟨x5_4,rfl,HA,HK4,BK107,HB⟩:=hrel
              cases gk with
              |zero=>exact absurd HA.out (by simp [ostinatoref05_Check.l1])
              |succ k4=>
               have H:=HA.out
               clear HA
               simp only [ostinatoref05_Check.l1] at H
               by_cases c32:x5_4<x3_2
               ·rw [if_pos c32] at H
                have c32b0:decide (x5_4<x3_2)=true:=decide_eq_true c32
                clear c32
                by_cases c33:0≤x5_4
                ·rw [if_pos c33] at H
                 have c33b0:decide (0≤x5_4)=true:=decide_eq_true c33
                 clear c33
                 by_cases c34:x5_4<(l0_2.length:Int)
                 ·rw [if_pos c34] at H
                  have c34b0:decide (x5_4<(l0_2.length:Int))=true:=decide_eq_true c34
                  clear c34
                  by_cases c35:0≤x3_2
                  ·rw [if_pos c35] at H
                   have c35b0:decide (0≤x3_2)=true:=decide_eq_true c35
                   clear c35
                   by_cases c36:x3_2<(l0_2.length:Int)
                   ·rw [if_pos c36] at H
                    have c36b0:decide (x3_2<(l0_2.length:Int))=true:=decide_eq_true c36
                    clear c36
                    by_cases c37:((qal l0_2 x5_4).f4)=((qal l0_2 x3_2).f4)
                    ·rw [if_pos c37] at H
                     have c37b0:(((qal l0_2 x5_4).f4) == ((qal l0_2 x3_2).f4))=true:=beq_iff_eq.mpr c37
                     have c37b1:(((qal l0_2 x5_4).f4) != ((qal l0_2 x3_2).f4))=false:=bne_eq_false_iff_eq.mpr c37
                     clear c37
                     obtain rfl:=Option.some.inj H
                     try go_wp2
                     have n0_:=qah.mk (qag BK107.out)
                     have n1_:=qah.mk (qai HB.out)
                     clear BK107
                     clear HB
                     have BK107:=n0_
                     have HB:=n1_
                     clear n0_ n1_
                     have p112:0≤(x5_4:Int):=of_decide_eq_true (by first|(with_reducible assumption)|assumption)
                     have q112:x5_4<(l0_2.length:Int):=of_decide_eq_true (by first|(with_reducible assumption)|assumption)
                     obtain⟨ad112,A112_5,c112_5,A112_6,c112_6,e112,hx112_0,hx112_1,hx112_2,hx112_3,hx112_4,hx112_5,hx112_6,hl112_5,hi112_5,hl112_6,hi112_6⟩:=at_T52 HR0_2.out x5_4 p112 q112
                     have hw112_6:=hx112_6
                     have hw112_5:=hx112_5
                     have hw112_4:=hx112_4
                     have hw112_3:=hx112_3
                     have hw112_2:=hx112_2
                     have hw112_1:=hx112_1
                     have hw112_0:=hx112_0
                     obtain rfl:ad108=ad112:=(by injection e112)
                     replace hx112_0:=(HB.out.cell (bLt w _ hx112_0)).trans hx112_0
                     replace hx112_1:=(HB.out.cell (bLt w _ hx112_1)).trans hx112_1
                     replace hx112_2:=(HB.out.cell (bLt w _ hx112_2)).trans hx112_2
                     replace hx112_3:=(HB.out.cell (bLt w _ hx112_3)).trans hx112_3
                     replace hx112_4:=(HB.out.cell (bLt w _ hx112_4)).trans hx112_4
                     replace hx112_5:=(HB.out.cell (bLt w _ hx112_5)).trans hx112_5
                     replace hx112_6:=(HB.out.cell (bLt w _ hx112_6)).trans hx112_6
                     have HR112_5:=qah.mk hi112_5
                     have HC112_5:=qah.mk hl112_5
                     clear hi112_5 hl112_5
                     have HR112_6:=qah.mk hi112_6
                     have HC112_6:=qah.mk hl112_6
                     clear hi112_6 hl112_6
                     replace p112:=eq_true p112
                     replace q112:=eq_true q112
                     have p113:0≤(x3_2:Int):=of_decide_eq_true (by first|(with_reducible assumption)|assumption)
                     have q113:x3_2<(l0_2.length:Int):=of_decide_eq_true (by first|(with_reducible assumption)|assumption)
                     obtain⟨ad113,A113_5,c113_5,A113_6,c113_6,e113,hx113_0,hx113_1,hx113_2,hx113_3,hx113_4,hx113_5,hx113_6,hl113_5,hi113_5,hl113_6,hi113_6⟩:=at_T52 HR0_2.out x3_2 p113 q113
                     have hw113_6:=hx113_6
                     have hw113_5:=hx113_5
                     have hw113_4:=hx113_4
                     have hw113_3:=hx113_3
                     have hw113_2:=hx113_2
                     have hw113_1:=hx113_1
                     have hw113_0:=hx113_0
                     obtain rfl:ad108=ad113:=(by injection e113)
                     replace hx113_0:=(HB.out.cell (bLt w _ hx113_0)).trans hx113_0
                     replace hx113_1:=(HB.out.cell (bLt w _ hx113_1)).trans hx113_1
                     replace hx113_2:=(HB.out.cell (bLt w _ hx113_2)).trans hx113_2
                     replace hx113_3:=(HB.out.cell (bLt w _ hx113_3)).trans hx113_3
                     replace hx113_4:=(HB.out.cell (bLt w _ hx113_4)).trans hx113_4
                     replace hx113_5:=(HB.out.cell (bLt w _ hx113_5)).trans hx113_5
                     replace hx113_6:=(HB.out.cell (bLt w _ hx113_6)).trans hx113_6
                     have HR113_5:=qah.mk hi113_5
                     have HC113_5:=qah.mk hl113_5
                     clear hi113_5 hl113_5
                     have HR113_6:=qah.mk hi113_6
                     have HC113_6:=qah.mk hl113_6
                     clear hi113_6 hl113_6
                     replace p113:=eq_true p113
                     replace q113:=eq_true q113
                     refine start_ (n:=13) (S:=fun w'=>w'.cell? ⟨gb107,0,none⟩=some (.int .i64 a0_0)∧w'.cell? ⟨gb107,1,none⟩=some (.int .i64 a0_1)∧w'.cell? ⟨gb107,2,none⟩=some (.slice (some ad108) l0_2.length c0_2)∧w'.cell? (ad108.add ((x5_4).toNat * 7))=some (.int .i64 ((qal l0_2 x5_4).f0))∧w'.cell? ⟨(ad108.add ((x5_4).toNat * 7)).block,(ad108.add ((x5_4).toNat * 7)).off+1,none⟩=some (.int .i64 ((qal l0_2 x5_4).f1))∧w'.cell? ⟨(ad108.add ((x5_4).toNat * 7)).block,(ad108.add ((x5_4).toNat * 7)).off+2,none⟩=some (.int .i64 ((qal l0_2 x5_4).f2))∧w'.cell? ⟨(ad108.add ((x5_4).toNat * 7)).block,(ad108.add ((x5_4).toNat * 7)).off+3,none⟩=some (.int .i64 ((qal l0_2 x5_4).f3))∧w'.cell? ⟨(ad108.add ((x5_4).toNat * 7)).block,(ad108.add ((x5_4).toNat * 7)).off+4,none⟩=some (.int .i64 ((qal l0_2 x5_4).f4))∧w'.cell? ⟨(ad108.add ((x5_4).toNat * 7)).block,(ad108.add ((x5_4).toNat * 7)).off+5,none⟩=some (.slice A112_5 ((qal l0_2 x5_4).f5).length c112_5)∧w'.cell? ⟨(ad108.add ((x5_4).toNat * 7)).block,(ad108.add ((x5_4).toNat * 7)).off+6,none⟩=some (.slice A112_6 ((qal l0_2 x5_4).f6).length c112_6)∧w'.cell? (ad108.add ((x3_2).toNat * 7))=some (.int .i64 ((qal l0_2 x3_2).f0))∧w'.cell? ⟨(ad108.add ((x3_2).toNat * 7)).block,(ad108.add ((x3_2).toNat * 7)).off+1,none⟩=some (.int .i64 ((qal l0_2 x3_2).f1))∧w'.cell? ⟨(ad108.add ((x3_2).toNat * 7)).block,(ad108.add ((x3_2).toNat * 7)).off+2,none⟩=some (.int .i64 ((qal l0_2 x3_2).f2))∧w'.cell? ⟨(ad108.add ((x3_2).toNat * 7)).block,(ad108.add ((x3_2).toNat * 7)).off+3,none⟩=some (.int .i64 ((qal l0_2 x3_2).f3))∧w'.cell? ⟨(ad108.add ((x3_2).toNat * 7)).block,(ad108.add ((x3_2).toNat * 7)).off+4,none⟩=some (.int .i64 ((qal l0_2 x3_2).f4))∧w'.cell? ⟨(ad108.add ((x3_2).toNat * 7)).block,(ad108.add ((x3_2).toNat * 7)).off+5,none⟩=some (.slice A113_5 ((qal l0_2 x3_2).f5).length c113_5)∧w'.cell? ⟨(ad108.add ((x3_2).toNat * 7)).block,(ad108.add ((x3_2).toNat * 7)).off+6,none⟩=some (.slice A113_6 ((qal l0_2 x3_2).f6).length c113_6)) (ds:=[]) #[false,false,false,false,false,false,false,false,false,false,false,false,false] (by kernel_rfl) rfl rfl ⟨(qab BK107.out 0).trans rfl,(qab BK107.out 1).trans rfl,(qab BK107.out 2).trans rfl,((HB.out.cell (bLt w _ hw112_0)).trans hw112_0),((HB.out.cell (bLt w _ hw112_1)).trans hw112_1),((HB.out.cell (bLt w _ hw112_2)).trans hw112_2),((HB.out.cell (bLt w _ hw112_3)).trans hw112_3),((HB.out.cell (bLt w _ hw112_4)).trans hw112_4),((HB.out.cell (bLt w _ hw112_5)).trans hw112_5),((HB.out.cell (bLt w _ hw112_6)).trans hw112_6),((HB.out.cell (bLt w _ hw113_0)).trans hw113_0),((HB.out.cell (bLt w _ hw113_1)).trans hw113_1),((HB.out.cell (bLt w _ hw113_2)).trans hw113_2),((HB.out.cell (bLt w _ hw113_3)).trans hw113_3),((HB.out.cell (bLt w _ hw113_4)).trans hw113_4),((HB.out.cell (bLt w _ hw113_5)).trans hw113_5),((HB.out.cell (bLt w _ hw113_6)).trans hw113_6)⟩ (fun hHeld=>?_);refine qa2 ostinatoref05_Check.tab16 ostinatoref05_Check.bits16 (fun HT_ HW_=>?_)
                     generalize wr.drew=w38 at BK107 HB HR112_5 HR112_6 HR113_5 HR113_6 hx112_0 hx112_1 hx112_2 hx112_3 hx112_4 hx112_5 hx112_6 hx113_0 hx113_1 hx113_2 hx113_3 hx113_4 hx113_5 hx113_6 hHeld ⊢
                     refine qaC (i:=0) (N:=some 75) (v:=?_) (a':=?_) #[true,false,false,false,false,false,false,false,false,false,false,false,false] rfl rfl (qav HT_.out (by kernel_rfl)) (fun _ _ _ h=>h) (Or.inl ⟨by rfl,?_⟩) ?_ ?_
                     rotate_left
                     ·intro w'
                      go_simp
                      with_reducible rfl
                     rotate_left
                     ·simp only [Act.put,List.setIfInBounds_toArray,List.set_cons_zero,List.set_cons_succ,qat,qau]
                      rfl
                     refine qaC (i:=2) (N:=some 77) (v:=?_) (a':=?_) #[true,false,true,false,false,false,false,false,false,false,false,false,false] rfl rfl (qav HT_.out (by kernel_rfl)) (fun _ _ _ h=>h) (Or.inl ⟨by rfl,?_⟩) ?_ ?_
                     rotate_left
                     ·intro w'
                      go_simp
                      with_reducible rfl
                     rotate_left
                     ·simp only [Act.put,List.setIfInBounds_toArray,List.set_cons_zero,List.set_cons_succ,qat,qau]
                      rfl
                     refine qaC (i:=6) (N:=some 81) (v:=?_) (a':=?_) #[true,false,true,false,false,false,true,false,false,false,false,false,false] rfl rfl (qav HT_.out (by kernel_rfl)) (fun _ _ _ h=>h) (Or.inl ⟨by rfl,?_⟩) ?_ ?_
                     rotate_left
                     ·intro w'
                      go_simp
                      with_reducible rfl
                     rotate_left
                     ·simp only [Act.put,List.setIfInBounds_toArray,List.set_cons_zero,List.set_cons_succ,qat,qau]
                      rfl
                     refine qaC (i:=8) (N:=some 83) (v:=?_) (a':=?_) #[true,false,true,false,false,false,true,false,true,false,false,false,false] rfl rfl (qav HT_.out (by kernel_rfl)) (fun _ _ _ h=>h) (Or.inl ⟨by rfl,?_⟩) ?_ ?_
                     rotate_left
                     ·intro w'
                      go_simp
                      with_reducible rfl
                     rotate_left
                     ·simp only [Act.put,List.setIfInBounds_toArray,List.set_cons_zero,List.set_cons_succ,qat,qau]
                      rfl
                     refine qba (i:=1) (N:=some 76) (v:=?_) (a':=?_) #[true,true,true,false,false,false,true,false,true,false,false,false,false] rfl rfl (qaE HT_.out HW_.out (by kernel_rfl)) (fun _ _ _ h=>h) (Or.inl ⟨by rfl,?_⟩) hHeld ?_ ?_
                     rotate_left
                     ·rintro w' ⟨s0,s1,s2,s3,s4,s5,s6,s7,s8,s9,s10,s11,s12,s13,s14,s15,s16⟩
                      go_simp
                      with_reducible rfl
                     rotate_left
                     ·simp only [Act.put,List.setIfInBounds_toArray,List.set_cons_zero,List.set_cons_succ,qat,qau]
                      rfl
                     refine qaC (i:=3) (N:=some 78) (v:=?_) (a':=?_) #[true,true,true,true,false,false,true,false,true,false,false,false,false] rfl rfl (qav HT_.out (by kernel_rfl)) (fun _ _ _ h=>h) (Or.inl ⟨by rfl,?_⟩) ?_ ?_
                     rotate_left
                     ·intro w'
                      go_simp
                      with_reducible rfl
                     rotate_left
                     ·simp only [Act.put,List.setIfInBounds_toArray,List.set_cons_zero,List.set_cons_succ,qat,qau]
                      rfl
                     refine qaC (i:=4) (N:=some 79) (v:=?_) (a':=?_) #[true,true,true,true,true,false,true,false,true,false,false,false,false] rfl rfl (qav HT_.out (by kernel_rfl)) (fun _ _ _ h=>h) (Or.inl ⟨by rfl,?_⟩) ?_ ?_
                     rotate_left
                     ·intro w'
                      go_simp
                      with_reducible rfl
                     rotate_left
                     ·simp only [Act.put,List.setIfInBounds_toArray,List.set_cons_zero,List.set_cons_succ,qat,qau]
                      rfl
                     refine qba (i:=5) (N:=some 80) (v:=?_) (a':=?_) #[true,true,true,true,true,true,true,false,true,false,false,false,false] rfl rfl (qaE HT_.out HW_.out (by kernel_rfl)) (fun _ _ _ h=>h) (Or.inl ⟨by rfl,?_⟩) hHeld ?_ ?_
                     rotate_left
                     ·rintro w' ⟨s0,s1,s2,s3,s4,s5,s6,s7,s8,s9,s10,s11,s12,s13,s14,s15,s16⟩
                      go_simp
                      with_reducible rfl
                     rotate_left
                     ·simp only [Act.put,List.setIfInBounds_toArray,List.set_cons_zero,List.set_cons_succ,qat,qau]
                      rfl
                     refine qba (i:=7) (N:=some 82) (v:=?_) (a':=?_) #[true,true,true,true,true,true,true,true,true,false,false,false,false] rfl rfl (qaE HT_.out HW_.out (by kernel_rfl)) (fun _ _ _ h=>h) (Or.inl ⟨by rfl,?_⟩) hHeld ?_ ?_
                     rotate_left
                     ·rintro w' ⟨s0,s1,s2,s3,s4,s5,s6,s7,s8,s9,s10,s11,s12,s13,s14,s15,s16⟩
                      go_simp
                      with_reducible rfl
                     rotate_left
                     ·simp only [Act.put,List.setIfInBounds_toArray,List.set_cons_zero,List.set_cons_succ,qat,qau]
                      rfl
                     refine qaC (i:=9) (N:=some 84) (v:=?_) (a':=?_) #[true,true,true,true,true,true,true,true,true,true,false,false,false] rfl rfl (qav HT_.out (by kernel_rfl)) (fun _ _ _ h=>h) (Or.inl ⟨by rfl,?_⟩) ?_ ?_
                     rotate_left
                     ·intro w'
                      go_simp
                      with_reducible rfl
                     rotate_left
                     ·simp only [Act.put,List.setIfInBounds_toArray,List.set_cons_zero,List.set_cons_succ,qat,qau]
                      rfl
                     refine qaC (i:=10) (N:=some 85) (v:=?_) (a':=?_) #[true,true,true,true,true,true,true,true,true,true,true,false,false] rfl rfl (qav HT_.out (by kernel_rfl)) (fun _ _ _ h=>h) (Or.inl ⟨by rfl,?_⟩) ?_ ?_
                     rotate_left
                     ·intro w'
                      go_simp
                      with_reducible rfl
                     rotate_left
                     ·simp only [Act.put,List.setIfInBounds_toArray,List.set_cons_zero,List.set_cons_succ,qat,qau]
                      rfl
                     refine qba (i:=11) (N:=some 86) (v:=?_) (a':=?_) #[true,true,true,true,true,true,true,true,true,true,true,true,false] rfl rfl (qaE HT_.out HW_.out (by kernel_rfl)) (fun _ _ _ h=>h) (Or.inl ⟨by rfl,?_⟩) hHeld ?_ ?_
                     rotate_left
                     ·rintro w' ⟨s0,s1,s2,s3,s4,s5,s6,s7,s8,s9,s10,s11,s12,s13,s14,s15,s16⟩
                      go_simp
                      with_reducible rfl
                     rotate_left
                     ·simp only [Act.put,List.setIfInBounds_toArray,List.set_cons_zero,List.set_cons_succ,qat,qau]
                      rfl
                     refine qaC (i:=12) (N:=some 87) (v:=?_) (a':=?_) #[true,true,true,true,true,true,true,true,true,true,true,true,true] rfl rfl (qav HT_.out (by kernel_rfl)) (fun _ _ _ h=>h) (Or.inl ⟨by rfl,?_⟩) ?_ ?_
                     rotate_left
                     ·intro w'
                      go_simp
                      with_reducible rfl
                     rotate_left
                     ·simp only [Act.put,List.setIfInBounds_toArray,List.set_cons_zero,List.set_cons_succ,qat,qau]
                      rfl
                     refine done_ (done_of HT_.out (by kernel_rfl)) ?_
                     try go_wp2
                     go_ret
                     exact⟨by first|rfl|(simp [qaq,qap]<;>rfl)|(simp [bneNil,bneNilU]<;>rfl)|(simp [*,qaq,qap]<;>rfl),by repeat (first|(with_reducible first|exact HB.out|apply qaj|apply qad|apply qai|refine qaf ?_ GE107.out)|exact HB.out)⟩
                    ·rw [if_neg c37] at H
                     have c37b0:(((qal l0_2 x5_4).f4) == ((qal l0_2 x3_2).f4))=false:=beq_eq_false_iff_ne.mpr c37
                     have c37b1:(((qal l0_2 x5_4).f4) != ((qal l0_2 x3_2).f4))=true:=bne_iff_ne.mpr c37
                     have H':=qah.mk H
                     clear H
                     try go_wp2
                     have n0_:=qah.mk (qag BK107.out)
                     have n1_:=qah.mk (qai HB.out)
                     clear BK107
                     clear HB
                     have BK107:=n0_
                     have HB:=n1_
                     clear n0_ n1_
                     have p112:0≤(x5_4:Int):=of_decide_eq_true (by first|(with_reducible assumption)|assumption)
                     have q112:x5_4<(l0_2.length:Int):=of_decide_eq_true (by first|(with_reducible assumption)|assumption)
                     obtain⟨ad112,A112_5,c112_5,A112_6,c112_6,e112,hx112_0,hx112_1,hx112_2,hx112_3,hx112_4,hx112_5,hx112_6,hl112_5,hi112_5,hl112_6,hi112_6⟩:=at_T52 HR0_2.out x5_4 p112 q112
                     have hw112_6:=hx112_6
                     have hw112_5:=hx112_5
                     have hw112_4:=hx112_4
                     have hw112_3:=hx112_3
                     have hw112_2:=hx112_2
                     have hw112_1:=hx112_1
                     have hw112_0:=hx112_0
                     obtain rfl:ad108=ad112:=(by injection e112)
                     replace hx112_0:=(HB.out.cell (bLt w _ hx112_0)).trans hx112_0
                     replace hx112_1:=(HB.out.cell (bLt w _ hx112_1)).trans hx112_1
                     replace hx112_2:=(HB.out.cell (bLt w _ hx112_2)).trans hx112_2
                     replace hx112_3:=(HB.out.cell (bLt w _ hx112_3)).trans hx112_3
                     replace hx112_4:=(HB.out.cell (bLt w _ hx112_4)).trans hx112_4
                     replace hx112_5:=(HB.out.cell (bLt w _ hx112_5)).trans hx112_5
                     replace hx112_6:=(HB.out.cell (bLt w _ hx112_6)).trans hx112_6
                     have HR112_5:=qah.mk hi112_5
                     have HC112_5:=qah.mk hl112_5
                     clear hi112_5 hl112_5
                     have HR112_6:=qah.mk hi112_6
                     have HC112_6:=qah.mk hl112_6
                     clear hi112_6 hl112_6
                     replace p112:=eq_true p112
                     replace q112:=eq_true q112
                     have p113:0≤(x3_2:Int):=of_decide_eq_true (by first|(with_reducible assumption)|assumption)
                     have q113:x3_2<(l0_2.length:Int):=of_decide_eq_true (by first|(with_reducible assumption)|assumption)
                     obtain⟨ad113,A113_5,c113_5,A113_6,c113_6,e113,hx113_0,hx113_1,hx113_2,hx113_3,hx113_4,hx113_5,hx113_6,hl113_5,hi113_5,hl113_6,hi113_6⟩:=at_T52 HR0_2.out x3_2 p113 q113
                     have hw113_6:=hx113_6
                     have hw113_5:=hx113_5
                     have hw113_4:=hx113_4
                     have hw113_3:=hx113_3
                     have hw113_2:=hx113_2
                     have hw113_1:=hx113_1
                     have hw113_0:=hx113_0
                     obtain rfl:ad108=ad113:=(by injection e113)
                     replace hx113_0:=(HB.out.cell (bLt w _ hx113_0)).trans hx113_0
                     replace hx113_1:=(HB.out.cell (bLt w _ hx113_1)).trans hx113_1
                     replace hx113_2:=(HB.out.cell (bLt w _ hx113_2)).trans hx113_2
                     replace hx113_3:=(HB.out.cell (bLt w _ hx113_3)).trans hx113_3
                     replace hx113_4:=(HB.out.cell (bLt w _ hx113_4)).trans hx113_4
                     replace hx113_5:=(HB.out.cell (bLt w _ hx113_5)).trans hx113_5
                     replace hx113_6:=(HB.out.cell (bLt w _ hx113_6)).trans hx113_6
                     have HR113_5:=qah.mk hi113_5
                     have HC113_5:=qah.mk hl113_5
                     clear hi113_5 hl113_5
                     have HR113_6:=qah.mk hi113_6
                     have HC113_6:=qah.mk hl113_6
                     clear hi113_6 hl113_6
                     replace p113:=eq_true p113
                     replace q113:=eq_true q113
                     refine start_ (n:=13) (S:=fun w'=>w'.cell? ⟨gb107,0,none⟩=some (.int .i64 a0_0)∧w'.cell? ⟨gb107,1,none⟩=some (.int .i64 a0_1)∧w'.cell? ⟨gb107,2,none⟩=some (.slice (some ad108) l0_2.length c0_2)∧w'.cell? (ad108.add ((x5_4).toNat * 7))=some (.int .i64 ((qal l0_2 x5_4).f0))∧w'.cell? ⟨(ad108.add ((x5_4).toNat * 7)).block,(ad108.add ((x5_4).toNat * 7)).off+1,none⟩=some (.int .i64 ((qal l0_2 x5_4).f1))∧w'.cell? ⟨(ad108.add ((x5_4).toNat * 7)).block,(ad108.add ((x5_4).toNat * 7)).off+2,none⟩=some (.int .i64 ((qal l0_2 x5_4).f2))∧w'.cell? ⟨(ad108.add ((x5_4).toNat * 7)).block,(ad108.add ((x5_4).toNat * 7)).off+3,none⟩=some (.int .i64 ((qal l0_2 x5_4).f3))∧w'.cell? ⟨(ad108.add ((x5_4).toNat * 7)).block,(ad108.add ((x5_4).toNat * 7)).off+4,none⟩=some (.int .i64 ((qal l0_2 x5_4).f4))∧w'.cell? ⟨(ad108.add ((x5_4).toNat * 7)).block,(ad108.add ((x5_4).toNat * 7)).off+5,none⟩=some (.slice A112_5 ((qal l0_2 x5_4).f5).length c112_5)∧w'.cell? ⟨(ad108.add ((x5_4).toNat * 7)).block,(ad108.add ((x5_4).toNat * 7)).off+6,none⟩=some (.slice A112_6 ((qal l0_2 x5_4).f6).length c112_6)∧w'.cell? (ad108.add ((x3_2).toNat * 7))=some (.int .i64 ((qal l0_2 x3_2).f0))∧w'.cell? ⟨(ad108.add ((x3_2).toNat * 7)).block,(ad108.add ((x3_2).toNat * 7)).off+1,none⟩=some (.int .i64 ((qal l0_2 x3_2).f1))∧w'.cell? ⟨(ad108.add ((x3_2).toNat * 7)).block,(ad108.add ((x3_2).toNat * 7)).off+2,none⟩=some (.int .i64 ((qal l0_2 x3_2).f2))∧w'.cell? ⟨(ad108.add ((x3_2).toNat * 7)).block,(ad108.add ((x3_2).toNat * 7)).off+3,none⟩=some (.int .i64 ((qal l0_2 x3_2).f3))∧w'.cell? ⟨(ad108.add ((x3_2).toNat * 7)).block,(ad108.add ((x3_2).toNat * 7)).off+4,none⟩=some (.int .i64 ((qal l0_2 x3_2).f4))∧w'.cell? ⟨(ad108.add ((x3_2).toNat * 7)).block,(ad108.add ((x3_2).toNat * 7)).off+5,none⟩=some (.slice A113_5 ((qal l0_2 x3_2).f5).length c113_5)∧w'.cell? ⟨(ad108.add ((x3_2).toNat * 7)).block,(ad108.add ((x3_2).toNat * 7)).off+6,none⟩=some (.slice A113_6 ((qal l0_2 x3_2).f6).length c113_6)) (ds:=[]) #[false,false,false,false,false,false,false,false,false,false,false,false,false] (by kernel_rfl) rfl rfl ⟨(qab BK107.out 0).trans rfl,(qab BK107.out 1).trans rfl,(qab BK107.out 2).trans rfl,((HB.out.cell (bLt w _ hw112_0)).trans hw112_0),((HB.out.cell (bLt w _ hw112_1)).trans hw112_1),((HB.out.cell (bLt w _ hw112_2)).trans hw112_2),((HB.out.cell (bLt w _ hw112_3)).trans hw112_3),((HB.out.cell (bLt w _ hw112_4)).trans hw112_4),((HB.out.cell (bLt w _ hw112_5)).trans hw112_5),((HB.out.cell (bLt w _ hw112_6)).trans hw112_6),((HB.out.cell (bLt w _ hw113_0)).trans hw113_0),((HB.out.cell (bLt w _ hw113_1)).trans hw113_1),((HB.out.cell (bLt w _ hw113_2)).trans hw113_2),((HB.out.cell (bLt w _ hw113_3)).trans hw113_3),((HB.out.cell (bLt w _ hw113_4)).trans hw113_4),((HB.out.cell (bLt w _ hw113_5)).trans hw113_5),((HB.out.cell (bLt w _ hw113_6)).trans hw113_6)⟩ (fun hHeld=>?_);refine qa2 ostinatoref05_Check.tab16 ostinatoref05_Check.bits16 (fun HT_ HW_=>?_)
                     generalize wr.drew=w39 at BK107 HB HR112_5 HR112_6 HR113_5 HR113_6 hx112_0 hx112_1 hx112_2 hx112_3 hx112_4 hx112_5 hx112_6 hx113_0 hx113_1 hx113_2 hx113_3 hx113_4 hx113_5 hx113_6 hHeld ⊢
                     refine qaC (i:=0) (N:=some 75) (v:=?_) (a':=?_) #[true,false,false,false,false,false,false,false,false,false,false,false,false] rfl rfl (qav HT_.out (by kernel_rfl)) (fun _ _ _ h=>h) (Or.inl ⟨by rfl,?_⟩) ?_ ?_
                     rotate_left
                     ·intro w'
                      go_simp
                      with_reducible rfl
                     rotate_left
                     ·simp only [Act.put,List.setIfInBounds_toArray,List.set_cons_zero,List.set_cons_succ,qat,qau]
                      rfl
                     refine qaC (i:=2) (N:=some 77) (v:=?_) (a':=?_) #[true,false,true,false,false,false,false,false,false,false,false,false,false] rfl rfl (qav HT_.out (by kernel_rfl)) (fun _ _ _ h=>h) (Or.inl ⟨by rfl,?_⟩) ?_ ?_
                     rotate_left
                     ·intro w'
                      go_simp
                      with_reducible rfl
                     rotate_left
                     ·simp only [Act.put,List.setIfInBounds_toArray,List.set_cons_zero,List.set_cons_succ,qat,qau]
                      rfl
                     refine qaC (i:=6) (N:=some 81) (v:=?_) (a':=?_) #[true,false,true,false,false,false,true,false,false,false,false,false,false] rfl rfl (qav HT_.out (by kernel_rfl)) (fun _ _ _ h=>h) (Or.inl ⟨by rfl,?_⟩) ?_ ?_
                     rotate_left
                     ·intro w'
                      go_simp
                      with_reducible rfl
                     rotate_left
                     ·simp only [Act.put,List.setIfInBounds_toArray,List.set_cons_zero,List.set_cons_succ,qat,qau]
                      rfl
                     refine qaC (i:=8) (N:=some 83) (v:=?_) (a':=?_) #[true,false,true,false,false,false,true,false,true,false,false,false,false] rfl rfl (qav HT_.out (by kernel_rfl)) (fun _ _ _ h=>h) (Or.inl ⟨by rfl,?_⟩) ?_ ?_
                     rotate_left
                     ·intro w'
                      go_simp
                      with_reducible rfl
                     rotate_left
                     ·simp only [Act.put,List.setIfInBounds_toArray,List.set_cons_zero,List.set_cons_succ,qat,qau]
                      rfl
                     refine qba (i:=1) (N:=some 76) (v:=?_) (a':=?_) #[true,true,true,false,false,false,true,false,true,false,false,false,false] rfl rfl (qaE HT_.out HW_.out (by kernel_rfl)) (fun _ _ _ h=>h) (Or.inl ⟨by rfl,?_⟩) hHeld ?_ ?_
                     rotate_left
                     ·rintro w' ⟨s0,s1,s2,s3,s4,s5,s6,s7,s8,s9,s10,s11,s12,s13,s14,s15,s16⟩
                      go_simp
                      with_reducible rfl
                     rotate_left
                     ·simp only [Act.put,List.setIfInBounds_toArray,List.set_cons_zero,List.set_cons_succ,qat,qau]
                      rfl
                     refine qaC (i:=3) (N:=some 78) (v:=?_) (a':=?_) #[true,true,true,true,false,false,true,false,true,false,false,false,false] rfl rfl (qav HT_.out (by kernel_rfl)) (fun _ _ _ h=>h) (Or.inl ⟨by rfl,?_⟩) ?_ ?_
                     rotate_left
                     ·intro w'
                      go_simp
                      with_reducible rfl
                     rotate_left
                     ·simp only [Act.put,List.setIfInBounds_toArray,List.set_cons_zero,List.set_cons_succ,qat,qau]
                      rfl
                     refine qaC (i:=4) (N:=some 79) (v:=?_) (a':=?_) #[true,true,true,true,true,false,true,false,true,false,false,false,false] rfl rfl (qav HT_.out (by kernel_rfl)) (fun _ _ _ h=>h) (Or.inl ⟨by rfl,?_⟩) ?_ ?_
                     rotate_left
                     ·intro w'
                      go_simp
                      with_reducible rfl
                     rotate_left
                     ·simp only [Act.put,List.setIfInBounds_toArray,List.set_cons_zero,List.set_cons_succ,qat,qau]
                      rfl
                     refine qba (i:=5) (N:=some 80) (v:=?_) (a':=?_) #[true,true,true,true,true,true,true,false,true,false,false,false,false] rfl rfl (qaE HT_.out HW_.out (by kernel_rfl)) (fun _ _ _ h=>h) (Or.inl ⟨by rfl,?_⟩) hHeld ?_ ?_
                     rotate_left
                     ·rintro w' ⟨s0,s1,s2,s3,s4,s5,s6,s7,s8,s9,s10,s11,s12,s13,s14,s15,s16⟩
                      go_simp
                      with_reducible rfl
                     rotate_left
                     ·simp only [Act.put,List.setIfInBounds_toArray,List.set_cons_zero,List.set_cons_succ,qat,qau]
                      rfl
                     refine qba (i:=7) (N:=some 82) (v:=?_) (a':=?_) #[true,true,true,true,true,true,true,true,true,false,false,false,false] rfl rfl (qaE HT_.out HW_.out (by kernel_rfl)) (fun _ _ _ h=>h) (Or.inl ⟨by rfl,?_⟩) hHeld ?_ ?_
                     rotate_left
                     ·rintro w' ⟨s0,s1,s2,s3,s4,s5,s6,s7,s8,s9,s10,s11,s12,s13,s14,s15,s16⟩
                      go_simp
                      with_reducible rfl
                     rotate_left
                     ·simp only [Act.put,List.setIfInBounds_toArray,List.set_cons_zero,List.set_cons_succ,qat,qau]
                      rfl
                     refine qaC (i:=9) (N:=some 84) (v:=?_) (a':=?_) #[true,true,true,true,true,true,true,true,true,true,false,false,false] rfl rfl (qav HT_.out (by kernel_rfl)) (fun _ _ _ h=>h) (Or.inl ⟨by rfl,?_⟩) ?_ ?_
                     rotate_left
                     ·intro w'
                      go_simp
                      with_reducible rfl
                     rotate_left
                     ·simp only [Act.put,List.setIfInBounds_toArray,List.set_cons_zero,List.set_cons_succ,qat,qau]
                      rfl
                     refine qaC (i:=10) (N:=some 85) (v:=?_) (a':=?_) #[true,true,true,true,true,true,true,true,true,true,true,false,false] rfl rfl (qav HT_.out (by kernel_rfl)) (fun _ _ _ h=>h) (Or.inl ⟨by rfl,?_⟩) ?_ ?_
                     rotate_left
                     ·intro w'
                      go_simp
                      with_reducible rfl
                     rotate_left
                     ·simp only [Act.put,List.setIfInBounds_toArray,List.set_cons_zero,List.set_cons_succ,qat,qau]
                      rfl
                     refine qba (i:=11) (N:=some 86) (v:=?_) (a':=?_) #[true,true,true,true,true,true,true,true,true,true,true,true,false] rfl rfl (qaE HT_.out HW_.out (by kernel_rfl)) (fun _ _ _ h=>h) (Or.inl ⟨by rfl,?_⟩) hHeld ?_ ?_
                     rotate_left
                     ·rintro w' ⟨s0,s1,s2,s3,s4,s5,s6,s7,s8,s9,s10,s11,s12,s13,s14,s15,s16⟩
                      go_simp
                      with_reducible rfl
                     rotate_left
                     ·simp only [Act.put,List.setIfInBounds_toArray,List.set_cons_zero,List.set_cons_succ,qat,qau]
                      rfl
                     refine qaC (i:=12) (N:=some 87) (v:=?_) (a':=?_) #[true,true,true,true,true,true,true,true,true,true,true,true,true] rfl rfl (qav HT_.out (by kernel_rfl)) (fun _ _ _ h=>h) (Or.inl ⟨by rfl,?_⟩) ?_ ?_
                     rotate_left
                     ·intro w'
                      go_simp
                      with_reducible rfl
                     rotate_left
                     ·simp only [Act.put,List.setIfInBounds_toArray,List.set_cons_zero,List.set_cons_succ,qat,qau]
                      rfl
                     refine done_ (done_of HT_.out (by kernel_rfl)) ?_
                     try go_wp2
                     go_roundg k4
                     case measure=>have:=HJ1.out;have:=HK2.out;have:=HJ20.out;have:=HK4.out;omega
                     case rel=>exact⟨(wrap64 (x5_4+1)),(by first|rfl|(simp;done)|(simp [*];done)),H',⟨by have:=HJ1.out;have:=HK2.out;have:=HJ20.out;have:=HK4.out;omega⟩,⟨by (with_reducible repeat (first|refine qae ?_ _|refine qag ?_|refine qac ?_ _));exact BK107.out⟩,⟨by repeat (first|(with_reducible first|exact HB.out|apply qaj|apply qad|apply qai|refine qaf ?_ GE107.out)|exact HB.out)⟩⟩
                   ·rw [if_neg c36] at H
                    exact absurd H (by simp)
                  ·rw [if_neg c35] at H
                   exact absurd H (by simp)
                 ·rw [if_neg c34] at H
                  exact absurd H (by simp)
                ·rw [if_neg c33] at H
                 exact absurd H (by simp)
               ·rw [if_neg c32] at H
                have c32b0:decide (x5_4<x3_2)=false:=decide_eq_false c32
                clear c32
                have H':=qah.mk H
                clear H
                go_wp2
                go_roundg k4
                case measure=>have:=HJ1.out;have:=HK2.out;have:=HJ20.out;have:=HK4.out;omega
                case rel=>exact⟨(wrap64 (x3_2+1)),(by first|rfl|(simp;done)|(simp [*];done)),H',⟨by have:=HJ1.out;have:=HK2.out;have:=HJ20.out;have:=HK4.out;omega⟩,⟨by (with_reducible repeat (first|refine qae ?_ _|refine qag ?_|refine qac ?_ _));exact BK107.out⟩,⟨by repeat (first|(with_reducible first|exact HB.out|apply qaj|apply qad|apply qai|refine qaf ?_ GE107.out)|exact HB.out)⟩⟩
         ·rw [if_neg c20] at H
          have c20b0:(t109 == 0)=false:=beq_eq_false_iff_ne.mpr c20
          have c20b1:(t109 != 0)=true:=bne_iff_ne.mpr c20
          obtain rfl:=Option.some.inj H
          have hcz40_0:wr.cell? ⟨gb107,0,none⟩=some (.int .i64 a0_0):=(qab BK107.out 0).trans rfl
          have hcz40_1:wr.cell? ⟨gb107,1,none⟩=some (.int .i64 a0_1):=(qab BK107.out 1).trans rfl
          have hcz40_2:wr.cell? ⟨gb107,2,none⟩=some (.slice A0_2 l0_2.length c0_2):=(qab BK107.out 2).trans rfl
          have hfz40_0:=qaa BK107.out 0
          have hfz40_1:=qaa BK107.out 1
          have hfz40_2:=qaa BK107.out 2
          try go_wp2
          have n0_:=qah.mk (qag BK107.out)
          have n1_:=qah.mk (qai HB.out)
          clear BK107
          clear HB
          have BK107:=n0_
          have HB:=n1_
          clear n0_ n1_
          have p108:0≤(x3_2:Int):=of_decide_eq_true (by first|(with_reducible assumption)|assumption)
          have q108:x3_2<(l0_2.length:Int):=of_decide_eq_true (by first|(with_reducible assumption)|assumption)
          obtain⟨ad108,A108_5,c108_5,A108_6,c108_6,e108,hx108_0,hx108_1,hx108_2,hx108_3,hx108_4,hx108_5,hx108_6,hl108_5,hi108_5,hl108_6,hi108_6⟩:=at_T52 HR0_2.out x3_2 p108 q108
          have hw108_6:=hx108_6
          have hw108_5:=hx108_5
          have hw108_4:=hx108_4
          have hw108_3:=hx108_3
          have hw108_2:=hx108_2
          have hw108_1:=hx108_1
          have hw108_0:=hx108_0
          cases e108
          replace hx108_0:=(HB.out.cell (bLt w _ hx108_0)).trans hx108_0
          replace hx108_1:=(HB.out.cell (bLt w _ hx108_1)).trans hx108_1
          replace hx108_2:=(HB.out.cell (bLt w _ hx108_2)).trans hx108_2
          replace hx108_3:=(HB.out.cell (bLt w _ hx108_3)).trans hx108_3
          replace hx108_4:=(HB.out.cell (bLt w _ hx108_4)).trans hx108_4
          replace hx108_5:=(HB.out.cell (bLt w _ hx108_5)).trans hx108_5
          replace hx108_6:=(HB.out.cell (bLt w _ hx108_6)).trans hx108_6
          have HR108_5:=qah.mk hi108_5
          have HC108_5:=qah.mk hl108_5
          clear hi108_5 hl108_5
          have HR108_6:=qah.mk hi108_6
          have HC108_6:=qah.mk hl108_6
          clear hi108_6 hl108_6
          replace p108:=eq_true p108
          replace q108:=eq_true q108
          refine start_ (n:=9) (S:=fun w'=>w'.cell? ⟨gb107,0,none⟩=some (.int .i64 a0_0)∧w'.cell? ⟨gb107,1,none⟩=some (.int .i64 a0_1)∧w'.cell? ⟨gb107,2,none⟩=some (.slice (some ad108) l0_2.length c0_2)∧w'.cell? (ad108.add ((x3_2).toNat * 7))=some (.int .i64 ((qal l0_2 x3_2).f0))∧w'.cell? ⟨(ad108.add ((x3_2).toNat * 7)).block,(ad108.add ((x3_2).toNat * 7)).off+1,none⟩=some (.int .i64 ((qal l0_2 x3_2).f1))∧w'.cell? ⟨(ad108.add ((x3_2).toNat * 7)).block,(ad108.add ((x3_2).toNat * 7)).off+2,none⟩=some (.int .i64 ((qal l0_2 x3_2).f2))∧w'.cell? ⟨(ad108.add ((x3_2).toNat * 7)).block,(ad108.add ((x3_2).toNat * 7)).off+3,none⟩=some (.int .i64 ((qal l0_2 x3_2).f3))∧w'.cell? ⟨(ad108.add ((x3_2).toNat * 7)).block,(ad108.add ((x3_2).toNat * 7)).off+4,none⟩=some (.int .i64 ((qal l0_2 x3_2).f4))∧w'.cell? ⟨(ad108.add ((x3_2).toNat * 7)).block,(ad108.add ((x3_2).toNat * 7)).off+5,none⟩=some (.slice A108_5 ((qal l0_2 x3_2).f5).length c108_5)∧w'.cell? ⟨(ad108.add ((x3_2).toNat * 7)).block,(ad108.add ((x3_2).toNat * 7)).off+6,none⟩=some (.slice A108_6 ((qal l0_2 x3_2).f6).length c108_6)) (ds:=[]) #[false,false,false,false,false,false,false,false,false] (by kernel_rfl) rfl rfl ⟨(qab BK107.out 0).trans rfl,(qab BK107.out 1).trans rfl,(qab BK107.out 2).trans rfl,((HB.out.cell (bLt w _ hw108_0)).trans hw108_0),((HB.out.cell (bLt w _ hw108_1)).trans hw108_1),((HB.out.cell (bLt w _ hw108_2)).trans hw108_2),((HB.out.cell (bLt w _ hw108_3)).trans hw108_3),((HB.out.cell (bLt w _ hw108_4)).trans hw108_4),((HB.out.cell (bLt w _ hw108_5)).trans hw108_5),((HB.out.cell (bLt w _ hw108_6)).trans hw108_6)⟩ (fun hHeld=>?_);refine qa2 ostinatoref05_Check.tab8 ostinatoref05_Check.bits8 (fun HT_ HW_=>?_)
          generalize wr.drew=w41 at BK107 HB HR108_5 HR108_6 hx108_0 hx108_1 hx108_2 hx108_3 hx108_4 hx108_5 hx108_6 hHeld ⊢
          refine qaC (i:=0) (N:=some 41) (v:=?_) (a':=?_) #[true,false,false,false,false,false,false,false,false] rfl rfl (qav HT_.out (by kernel_rfl)) (fun _ _ _ h=>h) (Or.inl ⟨by rfl,?_⟩) ?_ ?_
          rotate_left
          ·intro w'
           go_simp
           with_reducible rfl
          rotate_left
          ·simp only [Act.put,List.setIfInBounds_toArray,List.set_cons_zero,List.set_cons_succ,qat,qau]
           rfl
          refine qaC (i:=2) (N:=some 43) (v:=?_) (a':=?_) #[true,false,true,false,false,false,false,false,false] rfl rfl (qav HT_.out (by kernel_rfl)) (fun _ _ _ h=>h) (Or.inl ⟨by rfl,?_⟩) ?_ ?_
          rotate_left
          ·intro w'
           go_simp
           with_reducible rfl
          rotate_left
          ·simp only [Act.put,List.setIfInBounds_toArray,List.set_cons_zero,List.set_cons_succ,qat,qau]
           rfl
          refine qaC (i:=5) (N:=some 46) (v:=?_) (a':=?_) #[true,false,true,false,false,true,false,false,false] rfl rfl (qav HT_.out (by kernel_rfl)) (fun _ _ _ h=>h) (Or.inl ⟨by rfl,?_⟩) ?_ ?_
          rotate_left
          ·intro w'
           go_simp
           with_reducible rfl
          rotate_left
          ·simp only [Act.put,List.setIfInBounds_toArray,List.set_cons_zero,List.set_cons_succ,qat,qau]
           rfl
          refine qba (i:=1) (N:=some 42) (v:=?_) (a':=?_) #[true,true,true,false,false,true,false,false,false] rfl rfl (qaE HT_.out HW_.out (by kernel_rfl)) (fun _ _ _ h=>h) (Or.inl ⟨by rfl,?_⟩) hHeld ?_ ?_
          rotate_left
          ·rintro w' ⟨s0,s1,s2,s3,s4,s5,s6,s7,s8,s9⟩
           go_simp
           with_reducible rfl
          rotate_left
          ·simp only [Act.put,List.setIfInBounds_toArray,List.set_cons_zero,List.set_cons_succ,qat,qau]
           rfl
          refine qaC (i:=3) (N:=some 44) (v:=?_) (a':=?_) #[true,true,true,true,false,true,false,false,false] rfl rfl (qav HT_.out (by kernel_rfl)) (fun _ _ _ h=>h) (Or.inl ⟨by rfl,?_⟩) ?_ ?_
          rotate_left
          ·intro w'
           go_simp
           with_reducible rfl
          rotate_left
          ·simp only [Act.put,List.setIfInBounds_toArray,List.set_cons_zero,List.set_cons_succ,qat,qau]
           rfl
          refine qba (i:=4) (N:=some 45) (v:=?_) (a':=?_) #[true,true,true,true,true,true,false,false,false] rfl rfl (qaE HT_.out HW_.out (by kernel_rfl)) (fun _ _ _ h=>h) (Or.inl ⟨by rfl,?_⟩) hHeld ?_ ?_
          rotate_left
          ·rintro w' ⟨s0,s1,s2,s3,s4,s5,s6,s7,s8,s9⟩
           go_simp
           with_reducible rfl
          rotate_left
          ·simp only [Act.put,List.setIfInBounds_toArray,List.set_cons_zero,List.set_cons_succ,qat,qau]
           rfl
          refine qba (i:=6) (N:=some 47) (v:=?_) (a':=?_) #[true,true,true,true,true,true,true,false,false] rfl rfl (qaE HT_.out HW_.out (by kernel_rfl)) (fun _ _ _ h=>h) (Or.inl ⟨by rfl,?_⟩) hHeld ?_ ?_
          rotate_left
          ·rintro w' ⟨s0,s1,s2,s3,s4,s5,s6,s7,s8,s9⟩
           go_simp
           with_reducible rfl
          rotate_left
          ·simp only [Act.put,List.setIfInBounds_toArray,List.set_cons_zero,List.set_cons_succ,qat,qau]
           rfl
          refine one_ (i:=7) (N:=some 48) #[true,true,true,true,true,true,true,true,false] rfl rfl (one_of HT_.out (by kernel_rfl)) (by decide) (fun K hK=>?_)
          refine goes_ Tryd.func35 (by kernel_rfl) rfl #[.agg #[.int .i64 ((qal l0_2 x3_2).f0),.int .i64 ((qal l0_2 x3_2).f1),.int .i64 ((qal l0_2 x3_2).f2),.int .i64 ((qal l0_2 x3_2).f3),.int .i64 ((qal l0_2 x3_2).f4),.slice A108_5 ((qal l0_2 x3_2).f5).length c108_5,.slice A108_6 ((qal l0_2 x3_2).f6).length c108_6],.int .i64 a0_0] (by rfl) rfl rfl (by (try simp only [List.map_toArray,List.map_cons,List.map_nil]);first|done|rfl|(simp only [List.length_drop,List.length_take];rfl)) ?_
          with_reducible refine (ostinatoref05_Right.calls k2 ((qal l0_2 x3_2).f0) ((qal l0_2 x3_2).f1) ((qal l0_2 x3_2).f2) ((qal l0_2 x3_2).f3) ((qal l0_2 x3_2).f4) _ _ ((qal l0_2 x3_2).f5) _ _ ((qal l0_2 x3_2).f6) a0_0 t109 _ ?side1 ?side2 ?side3 ?side4 A19.out).mono ?_
          (case side1=>repeat (first|exact (Kd.C_below HR108_5.out HB.out)|(with_reducible refine Kd.C_alloc ?_ _)|(with_reducible refine Kd.C_drewN ?_ _)|(with_reducible refine Kd.C_drew ?_)))
          (case side2=>exact HC108_5.out)
          (case side3=>repeat (first|exact (Kd.C_below HR108_6.out HB.out)|(with_reducible refine Kd.C_alloc ?_ _)|(with_reducible refine Kd.C_drewN ?_ _)|(with_reducible refine Kd.C_drew ?_)))
          (case side4=>exact HC108_6.out)
          rintro e w42 ⟨rfl,hb⟩
          refine⟨_,rfl,?_⟩
          have n0_:=qah.mk (qax (g:=gb107) (o:=.cells #[.int .i64 a0_0,.int .i64 a0_1,.slice (some ad108) l0_2.length c0_2] 32 (0,0)) (by (with_reducible repeat (first|refine qae ?_ _|refine qag ?_|refine qac ?_ _));exact BK107.out) hb)
          have n1_:=qah.mk (qaw (by repeat (first|(with_reducible first|exact HB.out|apply qaj|apply qad|apply qai|refine qaf ?_ GE107.out)|exact HB.out)) hb)
          clear BK107
          clear HB
          have BK107:=n0_
          have HB:=n1_
          clear n0_ n1_
          (try clear hb)
          (try clear hb2)
          (try clear hk)
          (try clear hi)
          refine hK.out _ _ ⟨(qab BK107.out 0).trans rfl,(qab BK107.out 1).trans rfl,(qab BK107.out 2).trans rfl,((HB.out.cell (bLt w _ hw108_0)).trans hw108_0),((HB.out.cell (bLt w _ hw108_1)).trans hw108_1),((HB.out.cell (bLt w _ hw108_2)).trans hw108_2),((HB.out.cell (bLt w _ hw108_3)).trans hw108_3),((HB.out.cell (bLt w _ hw108_4)).trans hw108_4),((HB.out.cell (bLt w _ hw108_5)).trans hw108_5),((HB.out.cell (bLt w _ hw108_6)).trans hw108_6)⟩ (fun hHeld=>?_)
          clear hK K
          refine norm_ (a':=?_) ?_ ?_
          rotate_left
          ·show Act.put _ (some 48) _=_
           simp only [Act.put,List.setIfInBounds_toArray,List.set_cons_zero,List.set_cons_succ,qat,qau]
           rfl
          refine qaC (i:=8) (N:=some 4) (v:=?_) (a':=?_) #[true,true,true,true,true,true,true,true,true] rfl rfl (qav HT_.out (by kernel_rfl)) (fun _ _ _ h=>h) (Or.inl ⟨by rfl,?_⟩) ?_ ?_
          rotate_left
          ·intro w'
           go_simp
           with_reducible rfl
          rotate_left
          ·simp only [Act.put,List.setIfInBounds_toArray,List.set_cons_zero,List.set_cons_succ,qat,qau]
           rfl
          refine done_ (done_of HT_.out (by kernel_rfl)) ?_
          try go_wp2
          go_ret
          exact⟨by first|rfl|(simp [qaq,qap]<;>rfl)|(simp [bneNil,bneNilU]<;>rfl)|(simp [*,qaq,qap]<;>rfl),by repeat (first|(with_reducible first|exact HB.out|apply qaj|apply qad|apply qai|refine qaf ?_ GE107.out)|exact HB.out)⟩
        ·rw [if_neg c18] at H
         exact absurd H (by simp)
       ·rw [if_neg c17] at H
        have c17b0:decide (x3_2<(l0_2.length:Int))=false:=decide_eq_false c17
        clear c17
        obtain rfl:=Option.some.inj H
        have hcz43_0:wr.cell? ⟨gb107,0,none⟩=some (.int .i64 a0_0):=(qab BK107.out 0).trans rfl
        have hcz43_1:wr.cell? ⟨gb107,1,none⟩=some (.int .i64 a0_1):=(qab BK107.out 1).trans rfl
        have hcz43_2:wr.cell? ⟨gb107,2,none⟩=some (.slice A0_2 l0_2.length c0_2):=(qab BK107.out 2).trans rfl
        have hfz43_0:=qaa BK107.out 0
        have hfz43_1:=qaa BK107.out 1
        have hfz43_2:=qaa BK107.out 2
        go_wp2
        go_ret
        exact⟨by first|rfl|(simp [qaq,qap]<;>rfl)|(simp [bneNil,bneNilU]<;>rfl)|(simp [*,qaq,qap]<;>rfl),by repeat (first|(with_reducible first|exact HB.out|apply qaj|apply qad|apply qai|refine qaf ?_ GE107.out)|exact HB.out)⟩
end
end Go.Proofs.YtcfknijdhmildaaDoor.PParseReads
end
section
namespace Go.Proofs.YtcfknijdhmildaaDoor.PParseReads
open Go.RowKit Go.Lib Go.Proofs.YtcfknijdhmildaaDoorW.PrintWords
theorem rd_nat {L:List Int} {i:Nat} (h:i<L.length):rd L (i:Int)=L[i]:=by
 simp [rd,List.getD_eq_getElem?_getD,List.getElem?_eq_getElem h]
def usE (sets:Int) (us l:List Int):Int:=if us.length≤64∧l.any (farB sets)=false then 0 else 12
theorem right_l1 (sets id c d t p:Int) (ch us:List Int) (hl:us.length≤1000000):∀ (n i:Nat),i+n=us.length→Ev (fun k=>ostinatoref05_Right.l1 k sets (i:Int) id c d t p ch us) (usE sets us (us.drop i)):=by
 intro n
 induction n with
 |zero=>
  intro i hi
  obtain rfl:i=us.length:=by omega
  refine Ev.step (fun k=>by rw [ostinatoref05_Right.l1]) (Ev.ifn (by omega) ?_)
  unfold usE
  rw [List.drop_eq_nil_of_le (Nat.le_refl _)]
  by_cases h:us.length≤64
  ·have e:(us.length≤64∧([]:List Int).any (farB sets)=false):=⟨h,rfl⟩
   rw [if_pos e];exact Ev.ifn (by omega) (Ev.now _)
  ·have e:¬ (us.length≤64∧([]:List Int).any (farB sets)=false):=fun e=>h e.1
   rw [if_neg e];exact Ev.ifp (by omega) (Ev.now _)
 |succ n ih=>
  intro i hi
  have hil:i<us.length:=by omega
  have hd:us.drop i=us[i]::us.drop (i+1):=List.drop_eq_getElem_cons hil
  have hr:=rd_nat hil
  have hstep:∀ b:Bool,usE sets us (us.drop i)=if farB sets us[i]=true then 12 else usE sets us (us.drop (i+1)):=by
   intro _
   unfold usE
   rw [hd,List.any_cons]
   cases farB sets us[i] with
   |true=>simp
   |false=>simp
  rw [hstep true]
  refine Ev.step (fun k=>by rw [ostinatoref05_Right.l1,hr]) (Ev.ifp (by omega) (Ev.ifp (by omega) ?_))
  by_cases h1:us[i]<0
  ·rw [if_pos (by unfold farB;exact decide_eq_true (.inl h1))]
   exact Ev.ifp h1 (Ev.now _)
  ·refine Ev.ifn h1 ?_
   by_cases h2:us[i] ≥ sets
   ·rw [if_pos (by unfold farB;exact decide_eq_true (.inr h2))]
    exact Ev.ifp h2 (Ev.now _)
   ·rw [if_neg (by unfold farB;simp;omega)]
    refine Ev.ifn h2 ?_
    rw [qaQ i (by omega)]
    exact ih (i+1) (by omega)
def chE (left sets:Int) (ch us l:List Int):Int:=if chunkFin ch (chunkL left l)=true then usE sets us us else 13
theorem right_l0 (sets id c d t p:Int) (ch us:List Int) (hc:ch.length≤1000000) (hl:us.length≤1000000):∀ (n i:Nat) (left:Int),i+n=ch.length→left≤9223372036854775807→-9223372036854775808≤left→Ev (fun k=>ostinatoref05_Right.l0 k sets left (i:Int) id c d t p ch us) (chE left sets ch us (ch.drop i)):=by
 have hj:∀ b:Bool,Ev (fun k=>ostinatoref05_Right.j3 k sets b id c d t p ch us) (if b=true then 13 else usE sets us us):=by
  intro b
  refine Ev.step (fun k=>by rw [ostinatoref05_Right.j3]) ?_
  cases b with
  |true=>exact Ev.ifp rfl (Ev.now _)
  |false=>exact Ev.ifn (by decide) (by simpa using right_l1 sets id c d t p ch us hl us.length 0 (by omega))
 intro n
 induction n with
 |zero=>
  intro i left hi h1 h2
  obtain rfl:i=ch.length:=by omega
  refine Ev.step (fun k=>by rw [ostinatoref05_Right.l0]) (Ev.ifn (by omega) ?_)
  unfold chE
  rw [List.drop_eq_nil_of_le (Nat.le_refl _)]
  show Ev _ (if (decide (ch.length=0) || (decide (ch.length≤64) && decide (left=0)))=true then usE sets us us else 13)
  by_cases h64:(ch.length:Int) > 64
  ·have e:(decide (ch.length=0) || (decide (ch.length≤64) && decide (left=0)))=false:=by
    rw [decide_eq_false (show ¬ ch.length=0 by omega),decide_eq_false (show ¬ ch.length≤64 by omega)];rfl
   rw [e,if_neg (by decide)]
   exact Ev.ifp h64 (by simpa using hj true)
  ·refine Ev.ifn h64 ?_
   by_cases h0:(ch.length:Int) > 0
   ·refine Ev.ifp h0 ?_
    have h:=hj (left != 0)
    have e:(decide (ch.length=0) || (decide (ch.length≤64) && decide (left=0))) = !(left != 0):=by
     have a1:decide (ch.length=0)=false:=decide_eq_false (by omega)
     have a2:decide (ch.length≤64)=true:=decide_eq_true (by omega)
     rw [a1,a2]
     by_cases hz:left=0<;>simp [hz]
    rw [e]
    cases hb:(left != 0) with
    |true=>rw [hb] at h;simpa using h
    |false=>rw [hb] at h;simpa using h
   ·have e:(decide (ch.length=0) || (decide (ch.length≤64) && decide (left=0)))=true:=by
     rw [decide_eq_true (show ch.length=0 by omega)];rfl
    rw [e,if_pos rfl]
    exact Ev.ifn h0 (by simpa using hj false)
 |succ n ih=>
  intro i left hi h1 h2
  have hil:i<ch.length:=by omega
  have hd:ch.drop i=ch[i]::ch.drop (i+1):=List.drop_eq_getElem_cons hil
  have hr:=rd_nat hil
  refine Ev.step (fun k=>by rw [ostinatoref05_Right.l0,hr]) (Ev.ifp (by omega) (Ev.ifp (by omega) ?_))
  have hstep:chE left sets ch us (ch.drop i)=if 1≤ch[i]∧ch[i]≤left then chE (left - ch[i]) sets ch us (ch.drop (i+1)) else 13:=by
   unfold chE
   rw [hd,chunkL]
   by_cases h:1≤ch[i]∧ch[i]≤left
   ·rw [if_pos h,if_pos h]
   ·rw [if_neg h,if_neg h];rfl
  rw [hstep]
  by_cases ha:ch[i]<1
  ·rw [if_neg (by omega)];exact Ev.ifp ha (Ev.now _)
  ·refine Ev.ifn ha ?_
   by_cases hb:ch[i] > left
   ·rw [if_neg (by omega)];exact Ev.ifp hb (Ev.now _)
   ·rw [if_pos (by omega)]
    refine Ev.ifn hb ?_
    rw [qaQ i (by omega),qaR (by omega) (by omega)]
    exact ih (i+1) (left - ch[i]) (by omega) (by omega) (by omega)
theorem right_f (id c d t p:Int) (ch us:List Int) (sets:Int) (hc:ch.length≤1000000) (hl:us.length≤1000000) (hcc:c≤9223372036854775807):Ev (fun k=>ostinatoref05_Right.f k id c d t p ch us sets) (rightE id c d t p ch us sets):=by
 have hj1:∀ b:Bool,1≤c→Ev (fun k=>ostinatoref05_Right.j1 k sets b id c d t p ch us) (if b=true then 10 else chE c sets ch us ch):=by
  intro b h1
  refine Ev.step (fun k=>by rw [ostinatoref05_Right.j1]) ?_
  cases b with
  |true=>exact Ev.ifp rfl (Ev.now _)
  |false=>exact Ev.ifn (by decide) (by simpa using right_l0 sets id c d t p ch us hc hl ch.length 0 c (by omega) hcc (by omega))
 have hj1':Ev (fun k=>ostinatoref05_Right.j1 k sets true id c d t p ch us) 10:=Ev.step (fun k=>by rw [ostinatoref05_Right.j1]) (Ev.ifp rfl (Ev.now _))
 have hj0t:Ev (fun k=>ostinatoref05_Right.j0 k sets true id c d t p ch us) 1:=Ev.step (fun k=>by rw [ostinatoref05_Right.j0]) (Ev.ifp rfl (Ev.now _))
 have hE:chE c sets ch us ch=if chunksB c ch=true then (if us.length≤64∧us.any (farB sets)=false then 0 else 12) else 13:=rfl
 have hj0f:Ev (fun k=>ostinatoref05_Right.j0 k sets false id c d t p ch us) (if inB c 1 d=true∧inB d 1 t=true∧t≤1073741824 then chE c sets ch us ch else 10):=by
  refine Ev.step (fun k=>by rw [ostinatoref05_Right.j0]) (Ev.ifn (by decide) ?_)
  unfold inB
  simp only [decide_eq_true_eq]
  by_cases h1:c<1
  ·rw [if_neg (by omega)];exact Ev.ifp h1 hj1'
  ·refine Ev.ifn h1 ?_
   by_cases h2:c > d
   ·rw [if_neg (by omega)];exact Ev.ifp h2 hj1'
   ·refine Ev.ifn h2 ?_
    by_cases h3:d > t
    ·rw [if_neg (by omega)];exact Ev.ifp h3 hj1'
    ·refine Ev.ifn h3 ?_
     have h:=hj1 (decide (t > 1073741824)) (by omega)
     by_cases h4:t > 1073741824
     ·rw [if_neg (by omega)];rw [decide_eq_true h4] at h ⊢;simpa using h
     ·rw [if_pos (by omega)];rw [decide_eq_false h4] at h ⊢;simpa using h
 unfold ostinatoref05_Right.f rightE
 rw [← hE]
 have hin:(inB id 1 99=true∧inB p 1 99=true)↔(1≤id∧id≤99)∧(1≤p∧p≤99):=by unfold inB;simp only [decide_eq_true_eq]
 by_cases h1:id<1
 ·rw [if_neg (by rw [hin];omega)];exact Ev.ifp h1 hj0t
 ·refine Ev.ifn h1 ?_
  by_cases h2:id > 99
  ·rw [if_neg (by rw [hin];omega)];exact Ev.ifp h2 hj0t
  ·refine Ev.ifn h2 ?_
   by_cases h3:p<1
   ·rw [if_neg (by rw [hin];omega)];exact Ev.ifp h3 hj0t
   ·refine Ev.ifn h3 ?_
    by_cases h4:p > 99
    ·rw [if_neg (by rw [hin];omega),decide_eq_true h4];exact hj0t
    ·rw [if_pos (by rw [hin];omega),decide_eq_false h4];exact hj0f
def tkTo (x:Tk):S52:=⟨x.id,x.c,x.d,x.t,x.p,x.ch,x.us⟩
theorem rdT_nat {L:List Tk} {i:Nat} (h:i<L.length):qal (L.map tkTo) (i:Int)=tkTo L[i]:=by
 simp [qal,List.getD_eq_getElem?_getD,List.getElem?_eq_getElem h]
def lastI (L:List Tk) (i:Nat):Int:=if h:i - 1<L.length then (if i=0 then 0 else L[i - 1].id) else 0
theorem rightE_id {x:Tk} {sets:Int} (h:rightE x.id x.c x.d x.t x.p x.ch x.us sets=0):1≤x.id:=by
 unfold rightE at h
 split at h
 ·rename_i h1
  have:=h1.1
  unfold inB at this
  simp at this
  exact this.1
 ·omega
theorem check_l1 (sets rel:Int) (L:List Tk) (hL:L.length≤70000) (V:Int) (i:Nat) (hi:i<L.length) (hV:Ev (fun k=>ostinatoref05_Check.l0 k ((i+1:Nat):Int) sets rel (L.map tkTo)) V):∀ (n j:Nat),j+n=i →
  Ev (fun k=>ostinatoref05_Check.l1 k (i:Int) (j:Int) sets rel (L.map tkTo)) (if L[i].p ∈ ((L.take i).drop j).map (·.p) then 14 else V):=by
 intro n
 induction n with
 |zero=>
  intro j hj
  obtain rfl:j=i:=by omega
  rw [List.drop_eq_nil_of_le (by simp;omega)]
  refine Ev.step (fun k=>by rw [ostinatoref05_Check.l1]) (Ev.ifn (by omega) ?_)
  rw [qaQ j (by omega),if_neg (by simp)]
  exact hV
 |succ n ih=>
  intro j hj
  have hjl:j<L.length:=by omega
  have hjt:j<(L.take i).length:=by simp;omega
  have hd:(L.take i).drop j=L[j]::(L.take i).drop (j+1):=by
   rw [List.drop_eq_getElem_cons hjt];simp
  refine Ev.step (fun k=>by rw [ostinatoref05_Check.l1,rdT_nat hjl,rdT_nat hi]) ?_
  refine Ev.ifp (by omega) (Ev.ifp (by omega) (Ev.ifp (by simp;omega) (Ev.ifp (by omega) (Ev.ifp (by simp;omega) ?_))))
  rw [hd,List.map_cons]
  by_cases he:L[j].p=L[i].p
  ·rw [if_pos (by simp [he])]
   exact Ev.ifp he (Ev.now _)
  ·refine Ev.ifn he ?_
   rw [qaQ j (by omega)]
   have h:=ih (j+1) (by omega)
   have e:(L[i].p ∈ L[j].p::((L.take i).drop (j+1)).map (·.p))↔(L[i].p ∈ ((L.take i).drop (j+1)).map (·.p)):=by
    rw [List.mem_cons]
    exact⟨fun h=>h.elim (fun e=>absurd e.symm he) id,.inr⟩
   by_cases hm:L[i].p ∈ ((L.take i).drop (j+1)).map (·.p)
   ·rw [if_pos (e.2 hm)];rw [if_pos hm] at h;exact h
   ·rw [if_neg (fun x=>hm (e.1 x))];rw [if_neg hm] at h;exact h
theorem check_l0 (sets rel:Int) (L:List Tk) (hL:L.length≤70000) (hb:∀ x ∈ L,x.ch.length≤1000000∧x.us.length≤1000000∧x.c≤9223372036854775807):∀ (n i:Nat),i+n=L.length →
  Ev (fun k=>ostinatoref05_Check.l0 k (i:Int) sets rel (L.map tkTo)) (checkGo sets (lastI L i) ((L.take i).map (·.p)) (L.drop i)):=by
 intro n
 induction n with
 |zero=>
  intro i hi
  obtain rfl:i=L.length:=by omega
  rw [List.drop_eq_nil_of_le (Nat.le_refl _)]
  refine Ev.step (fun k=>by rw [ostinatoref05_Check.l0]) ?_
  exact Ev.ifn (by simp) (Ev.now _)
 |succ n ih=>
  intro i hi
  have hil:i<L.length:=by omega
  have hx:=hb L[i] (List.getElem_mem hil)
  rw [checkGo_step hil]
  have hR:=right_f L[i].id L[i].c L[i].d L[i].t L[i].p L[i].ch L[i].us sets hx.1 hx.2.1 hx.2.2
  have hnext:=ih (i+1) (by omega)
  have hlast:lastI L (i+1)=L[i].id:=by unfold lastI;simp [hil]
  have htk:(L.take (i+1)).map (·.p)=(L.take i).map (·.p)++[L[i].p]:=by rw [List.take_add_one,List.getElem?_eq_getElem hil,List.map_append];rfl
  rw [hlast,htk] at hnext
  have h1:=check_l1 sets rel L hL _ i hil hnext i 0 (by omega)
  rw [List.drop_zero] at h1
  refine Ev.step (fun k=>by rw [ostinatoref05_Check.l0,rdT_nat hil]) ?_
  refine Ev.ifp (by simp;omega) (Ev.ifp (by omega) ?_)
  refine Ev.bind hR ?_
  by_cases hr0:rightE L[i].id L[i].c L[i].d L[i].t L[i].p L[i].ch L[i].us sets=0
  rotate_left
  ·rw [if_neg hr0];exact Ev.ifn hr0 (Ev.now _)
  rw [if_pos hr0]
  refine Ev.ifp hr0 ?_
  have hid:=rightE_id hr0
  have hj2:∀ b:Bool,Ev (fun k=>ostinatoref05_Check.j2 k (i:Int) b sets rel (L.map tkTo)) (if b=true then 10 else if L[i].p ∈ (L.take i).map (·.p) then 14 else checkGo sets L[i].id ((L.take i).map (·.p)++[L[i].p]) (L.drop (i+1))):=by
   intro b
   refine Ev.step (fun k=>by rw [ostinatoref05_Check.j2]) ?_
   cases b with
   |true=>exact Ev.ifp rfl (Ev.now _)
   |false=>exact Ev.ifn (by decide) (by simpa using h1)
  by_cases hi0:i=0
  ·subst hi0
   have hla:lastI L 0=0:=by unfold lastI;split<;>simp
   rw [hla,if_neg (by omega)]
   exact Ev.ifn (by decide) (by simpa using hj2 false)
  ·have hla:lastI L i=(L[i - 1]'(by omega)).id:=by unfold lastI;rw [dif_pos (by omega),if_neg hi0]
   have hw:wrap64 ((i:Int) - 1)=((i - 1:Nat):Int):=by rw [qaR (by omega) (by omega)];omega
   rw [hla]
   refine Ev.ifp (by omega) (Ev.congr (fun k=>by rw [hw,rdT_nat (show i - 1<L.length by omega)]) (Ev.ifp (by omega) (Ev.ifp (by simp;omega) ?_)))
   have h:=hj2 (decide (L[i].id≤(L[i - 1]'(by omega)).id))
   by_cases hle:L[i].id≤(L[i - 1]'(by omega)).id
   ·rw [if_pos hle];rw [decide_eq_true hle] at h;rw [if_pos rfl] at h
    show Ev (fun n=>ostinatoref05_Check.j2 n (i:Int) (decide ((tkTo L[i]).f0≤(tkTo (L[i - 1]'(by omega))).f0)) sets rel (L.map tkTo)) 10
    rw [show decide ((tkTo L[i]).f0≤(tkTo (L[i - 1]'(by omega))).f0)=true from decide_eq_true hle]
    exact h
   ·rw [if_neg hle];rw [decide_eq_false hle] at h;rw [if_neg (by decide)] at h
    show Ev (fun n=>ostinatoref05_Check.j2 n (i:Int) (decide ((tkTo L[i]).f0≤(tkTo (L[i - 1]'(by omega))).f0)) sets rel (L.map tkTo)) _
    rw [show decide ((tkTo L[i]).f0≤(tkTo (L[i - 1]'(by omega))).f0)=false from decide_eq_false hle]
    exact h
theorem check_f (sets rel:Int) (L:List Tk) (hL:L.length≤70000) (hb:∀ x ∈ L,x.ch.length≤1000000∧x.us.length≤1000000∧x.c≤9223372036854775807):Ev (fun k=>ostinatoref05_Check.f k sets rel (L.map tkTo)) (checkE sets rel L):=by
 have ht:Ev (fun k=>ostinatoref05_Check.j0 k true sets rel (L.map tkTo)) 1:=Ev.step (fun k=>by rw [ostinatoref05_Check.j0]) (Ev.ifp rfl (Ev.now _))
 have h0:=check_l0 sets rel L hL hb L.length 0 (by omega)
 have hla:lastI L 0=0:=by unfold lastI;split<;>simp
 rw [hla,List.take_zero,List.drop_zero] at h0
 have hf:Ev (fun k=>ostinatoref05_Check.j0 k false sets rel (L.map tkTo)) (if L.length≤64 then checkGo sets 0 [] L else 15):=by
  refine Ev.step (fun k=>by rw [ostinatoref05_Check.j0]) (Ev.ifn (by decide) ?_)
  by_cases h:L.length≤64
  ·rw [if_pos h];exact Ev.ifn (by simp;omega) (by simpa using h0)
  ·rw [if_neg h];exact Ev.ifp (by simp;omega) (Ev.now _)
 unfold ostinatoref05_Check.f checkE
 have hin:(inB sets 0 256=true∧inB rel 0 1000=true∧L.length≠0)↔(0≤sets∧sets≤256)∧(0≤rel∧rel≤1000)∧L.length≠0:=by unfold inB;simp only [decide_eq_true_eq]
 by_cases h1:sets<0
 ·rw [if_neg (by rw [hin];omega)];exact Ev.ifp h1 ht
 ·refine Ev.ifn h1 ?_
  by_cases h2:sets > 256
  ·rw [if_neg (by rw [hin];omega)];exact Ev.ifp h2 ht
  ·refine Ev.ifn h2 ?_
   by_cases h3:rel<0
   ·rw [if_neg (by rw [hin];omega)];exact Ev.ifp h3 ht
   ·refine Ev.ifn h3 ?_
    by_cases h4:rel > 1000
    ·rw [if_neg (by rw [hin];omega)];exact Ev.ifp h4 ht
    ·refine Ev.ifn h4 ?_
     by_cases h5:L.length=0
     ·rw [if_neg (by rw [hin];omega)]
      have e:(((L.map tkTo).length:Int) == 0)=true:=by simp [h5]
      rw [e];exact ht
     ·rw [if_pos (by rw [hin];omega)]
      have e:(((L.map tkTo).length:Int) == 0)=false:=by simpa using h5
      rw [e];exact hf
theorem C_tk {w:World} {A:Option Addr} {L:List Tk} (h:Kd.C kTk w A L.length L):Kd.C k52 w A (L.map tkTo).length (L.map tkTo):=by
 obtain⟨h1,h2,h3⟩:=h
 refine⟨rfl,by rw [List.length_map];exact h2,fun hl=>?_⟩
 rw [List.length_map] at hl
 obtain⟨ad,e,hc⟩:=h3 hl
 refine⟨ad,e,fun j p hj=>?_⟩
 rw [List.getElem?_map] at hj
 cases hx:L[j]? with
 |none=>rw [hx] at hj;cases hj
 |some x=>
  rw [hx] at hj
  obtain rfl:=Option.some.inj hj
  obtain⟨c,a1,a2,a3⟩:=hc j x hx
  exact⟨c,a1,a2,a3⟩
theorem ckSays:CkSays:=by
 intro sets rel A cap L W hL hb hC hcap
 obtain⟨k,hk⟩:=(check_f sets rel L hL hb).rounds
 have h:=ostinatoref05_Check.calls k sets rel A cap (L.map tkTo) _ W (C_tk hC) (by rw [List.length_map];exact hcap) hk
 rw [List.length_map] at h
 exact h
end Go.Proofs.YtcfknijdhmildaaDoor.PParseReads
end
section
namespace Go.Proofs.YtcfknijdhmildaaDoor.PParseReads
open Go.RowKit Go.Proofs.YtcfknijdhmildaaDoorW.PrintWords Go.Proofs.YtcfknijdhmildaaDoorW.PrintLast Go.Proofs.YtcfknijdhmildaaDoorW.PrintMore
attribute [local go_sem] max2_int min2_int max_two min_two qa7 qa6 max_four min_four
set_option linter.unusedVariables false
set_option linter.unusedSimpArgs false
noncomputable section
mutual
def ostinatoref05_SameTask.j0:Nat→Bool→Int→Int→Int→Int→Int→List Int→List Int→Int→Int→Int→Int→Int→List Int→List Int→Option (Bool)
 |0,_,_,_,_,_,_,_,_,_,_,_,_,_,_,_=>none
 |k+1,x57,x176000,x176001,x176002,x176003,x176004,x176005,x176006,x177000,x177001,x177002,x177003,x177004,x177005,x177006=>if x57=true then (some false) else (ostinatoref05_SameTask.l0 k 0 x176000 x176001 x176002 x176003 x176004 x176005 x176006 x177000 x177001 x177002 x177003 x177004 x177005 x177006)
def ostinatoref05_SameTask.l0:Nat→Int→Int→Int→Int→Int→Int→List Int→List Int→Int→Int→Int→Int→Int→List Int→List Int→Option (Bool)
 |0,_,_,_,_,_,_,_,_,_,_,_,_,_,_,_=>none
 |k+1,x5,x176000,x176001,x176002,x176003,x176004,x176005,x176006,x177000,x177001,x177002,x177003,x177004,x177005,x177006=>if x5<(x176005.length:Int) then (if 0≤x5 then (if x5<(x177005.length:Int) then (if (rd x176005 x5)=(rd x177005 x5) then (ostinatoref05_SameTask.l0 k (wrap64 (x5+1)) x176000 x176001 x176002 x176003 x176004 x176005 x176006 x177000 x177001 x177002 x177003 x177004 x177005 x177006) else (some false)) else (none)) else (none)) else (ostinatoref05_SameTask.l1 k 0 x176000 x176001 x176002 x176003 x176004 x176005 x176006 x177000 x177001 x177002 x177003 x177004 x177005 x177006)
def ostinatoref05_SameTask.l1:Nat→Int→Int→Int→Int→Int→Int→List Int→List Int→Int→Int→Int→Int→Int→List Int→List Int→Option (Bool)
 |0,_,_,_,_,_,_,_,_,_,_,_,_,_,_,_=>none
 |k+1,x6,x176000,x176001,x176002,x176003,x176004,x176005,x176006,x177000,x177001,x177002,x177003,x177004,x177005,x177006=>if x6<(x176006.length:Int) then (if 0≤x6 then (if x6<(x177006.length:Int) then (if (rd x176006 x6)=(rd x177006 x6) then (ostinatoref05_SameTask.l1 k (wrap64 (x6+1)) x176000 x176001 x176002 x176003 x176004 x176005 x176006 x177000 x177001 x177002 x177003 x177004 x177005 x177006) else (some false)) else (none)) else (none)) else (some true)
end
def ostinatoref05_SameTask.f (k:Nat) (a0_0:Int) (a0_1:Int) (a0_2:Int) (a0_3:Int) (a0_4:Int) (l0_5:List Int) (l0_6:List Int) (a1_0:Int) (a1_1:Int) (a1_2:Int) (a1_3:Int) (a1_4:Int) (l1_5:List Int) (l1_6:List Int):Option (Bool):=if a0_0=a1_0 then (if a0_1=a1_1 then (if a0_2=a1_2 then (if a0_3=a1_3 then (if a0_4=a1_4 then (if (l0_5.length:Int)=(l1_5.length:Int) then (ostinatoref05_SameTask.j0 k ((l0_6.length:Int) != (l1_6.length:Int)) a0_0 a0_1 a0_2 a0_3 a0_4 l0_5 l0_6 a1_0 a1_1 a1_2 a1_3 a1_4 l1_5 l1_6) else (ostinatoref05_SameTask.j0 k true a0_0 a0_1 a0_2 a0_3 a0_4 l0_5 l0_6 a1_0 a1_1 a1_2 a1_3 a1_4 l1_5 l1_6)) else (ostinatoref05_SameTask.j0 k true a0_0 a0_1 a0_2 a0_3 a0_4 l0_5 l0_6 a1_0 a1_1 a1_2 a1_3 a1_4 l1_5 l1_6)) else (ostinatoref05_SameTask.j0 k true a0_0 a0_1 a0_2 a0_3 a0_4 l0_5 l0_6 a1_0 a1_1 a1_2 a1_3 a1_4 l1_5 l1_6)) else (ostinatoref05_SameTask.j0 k true a0_0 a0_1 a0_2 a0_3 a0_4 l0_5 l0_6 a1_0 a1_1 a1_2 a1_3 a1_4 l1_5 l1_6)) else (ostinatoref05_SameTask.j0 k true a0_0 a0_1 a0_2 a0_3 a0_4 l0_5 l0_6 a1_0 a1_1 a1_2 a1_3 a1_4 l1_5 l1_6)) else (ostinatoref05_SameTask.j0 k true a0_0 a0_1 a0_2 a0_3 a0_4 l0_5 l0_6 a1_0 a1_1 a1_2 a1_3 a1_4 l1_5 l1_6)
theorem ostinatoref05_SameTask.calls (k:Nat) (a0_0:Int) (a0_1:Int) (a0_2:Int) (a0_3:Int) (a0_4:Int) (A0_5:Option Addr) (c0_5:Nat) (l0_5:List Int) (A0_6:Option Addr) (c0_6:Nat) (l0_6:List Int) (a1_0:Int) (a1_1:Int) (a1_2:Int) (a1_3:Int) (a1_4:Int) (A1_5:Option Addr) (c1_5:Nat) (l1_5:List Int) (A1_6:Option Addr) (c1_6:Nat) (l1_6:List Int) (r:Bool) (w:World) (hr0_5:Kd.C (Kd.int .i64) w A0_5 l0_5.length l0_5) (hc0_5:l0_5.length≤c0_5) (hr0_6:Kd.C (Kd.int .i64) w A0_6 l0_6.length l0_6) (hc0_6:l0_6.length≤c0_6) (hr1_5:Kd.C (Kd.int .i64) w A1_5 l1_5.length l1_5) (hc1_5:l1_5.length≤c1_5) (hr1_6:Kd.C (Kd.int .i64) w A1_6 l1_6.length l1_6) (hc1_6:l1_6.length≤c1_6) (h:ostinatoref05_SameTask.f k a0_0 a0_1 a0_2 a0_3 a0_4 l0_5 l0_6 a1_0 a1_1 a1_2 a1_3 a1_4 l1_5 l1_6=some r) :
  Calls Tryd.prog 56 #[.agg #[.int .i64 a0_0,.int .i64 a0_1,.int .i64 a0_2,.int .i64 a0_3,.int .i64 a0_4,.slice A0_5 l0_5.length c0_5,.slice A0_6 l0_6.length c0_6],.agg #[.int .i64 a1_0,.int .i64 a1_1,.int .i64 a1_2,.int .i64 a1_3,.int .i64 a1_4,.slice A1_5 l1_5.length c1_5,.slice A1_6 l1_6.length c1_6]] w fun e w'=>e=.returned (.bool r)∧Below w.heap.size w w':=by
 have hu52:=Tryd.underlying52
 have HR0_5:=qah.mk hr0_5
 have HC0_5:=qah.mk hc0_5
 clear hr0_5 hc0_5
 have HR0_6:=qah.mk hr0_6
 have HC0_6:=qah.mk hc0_6
 clear hr0_6 hc0_6
 have HR1_5:=qah.mk hr1_5
 have HC1_5:=qah.mk hc1_5
 clear hr1_5 hc1_5
 have HR1_6:=qah.mk hr1_6
 have HC1_6:=qah.mk hc1_6
 clear hr1_6 hc1_6
 have HB:=qah.mk (Below.refl w.heap.size w)
 have H:(if a0_0=a1_0 then (if a0_1=a1_1 then (if a0_2=a1_2 then (if a0_3=a1_3 then (if a0_4=a1_4 then (if (l0_5.length:Int)=(l1_5.length:Int) then (ostinatoref05_SameTask.j0 k ((l0_6.length:Int) != (l1_6.length:Int)) a0_0 a0_1 a0_2 a0_3 a0_4 l0_5 l0_6 a1_0 a1_1 a1_2 a1_3 a1_4 l1_5 l1_6) else (ostinatoref05_SameTask.j0 k true a0_0 a0_1 a0_2 a0_3 a0_4 l0_5 l0_6 a1_0 a1_1 a1_2 a1_3 a1_4 l1_5 l1_6)) else (ostinatoref05_SameTask.j0 k true a0_0 a0_1 a0_2 a0_3 a0_4 l0_5 l0_6 a1_0 a1_1 a1_2 a1_3 a1_4 l1_5 l1_6)) else (ostinatoref05_SameTask.j0 k true a0_0 a0_1 a0_2 a0_3 a0_4 l0_5 l0_6 a1_0 a1_1 a1_2 a1_3 a1_4 l1_5 l1_6)) else (ostinatoref05_SameTask.j0 k true a0_0 a0_1 a0_2 a0_3 a0_4 l0_5 l0_6 a1_0 a1_1 a1_2 a1_3 a1_4 l1_5 l1_6)) else (ostinatoref05_SameTask.j0 k true a0_0 a0_1 a0_2 a0_3 a0_4 l0_5 l0_6 a1_0 a1_1 a1_2 a1_3 a1_4 l1_5 l1_6)) else (ostinatoref05_SameTask.j0 k true a0_0 a0_1 a0_2 a0_3 a0_4 l0_5 l0_6 a1_0 a1_1 a1_2 a1_3 a1_4 l1_5 l1_6))=some r:=h
 clear h
 have HC3:=qah.mk H
 clear H
 go_enter Tryd.func56,Tryd.ntmps56
 go_upto_region 1 with (first|((with_reducible refine qaJ (N:=2) rfl ?_);(try (refine qbg (by rfl) ?_;dsimp only));refine qaG ?hg (N:=2) ?hd (cs:=#[.int .i64 a0_0,.int .i64 a0_1,.int .i64 a0_2,.int .i64 a0_3,.int .i64 a0_4,.slice A0_5 l0_5.length c0_5,.slice A0_6 l0_6.length c0_6]) (t:=52) ?hr ?_;(case hd=>rfl);(case hg=>rfl);(case hr=>first|(go_simp;done)|(go_simp;rfl));intro gb175 hg w4 hbox hb;have n0_:=qah.mk (qaw (by repeat (first|(with_reducible first|exact HB.out|apply qaj|apply qad|apply qai)|exact HB.out)) hb);have n1_:=qah.mk (hbox);have n2_:=qah.mk ((by rw [hg];exact (qao (by repeat (first|(with_reducible first|exact HB.out|apply qaj|apply qad|apply qai)|exact HB.out))):w.heap.size≤gb175));have n3_:=qah.mk ((by rw [hg];exact (qao (by repeat (first|(with_reducible first|exact HB.out|apply qaj|apply qad|apply qai)|exact HB.out))):w.heap.size≤gb175));clear HB;have HB:=n0_;have BK175:=n1_;have GW175:=n2_;have GE175:=n3_;clear n0_ n1_ n2_ n3_;clear hb hbox hg)|((with_reducible refine qaJ (N:=3) rfl ?_);(try (refine qbg (by rfl) ?_;dsimp only));refine qaG ?hg (N:=3) ?hd (cs:=#[.int .i64 a1_0,.int .i64 a1_1,.int .i64 a1_2,.int .i64 a1_3,.int .i64 a1_4,.slice A1_5 l1_5.length c1_5,.slice A1_6 l1_6.length c1_6]) (t:=52) ?hr ?_;(case hd=>rfl);(case hg=>rfl);(case hr=>first|(go_simp;done)|(go_simp;rfl));intro gb176 hg w5 hbox hb;have n0_:=qah.mk (qax (g:=gb175) (o:=.cells #[.int .i64 a0_0,.int .i64 a0_1,.int .i64 a0_2,.int .i64 a0_3,.int .i64 a0_4,.slice A0_5 l0_5.length c0_5,.slice A0_6 l0_6.length c0_6] 52 (0,0)) (by (with_reducible repeat (first|refine qae ?_ _|refine qag ?_|refine qac ?_ _));exact BK175.out) hb);have n1_:=qah.mk (qaw (by repeat (first|(with_reducible first|exact HB.out|apply qaj|apply qad|apply qai|refine qaf ?_ GE175.out)|exact HB.out)) hb);have n2_:=qah.mk (hbox);have n3_:=qah.mk ((by rw [hg];exact (qao (by repeat (first|(with_reducible first|exact HB.out|apply qaj|apply qad|apply qai|refine qaf ?_ GE175.out)|exact HB.out))):w.heap.size≤gb176));have n4_:=qah.mk ((by rw [hg];exact (qao (by repeat (first|(with_reducible first|exact HB.out|apply qaj|apply qad|apply qai|refine qaf ?_ GE175.out)|exact HB.out))):w.heap.size≤gb176));have n5_:=qah.mk ((by rw [hg];exact Nat.ne_of_lt (qaH (g:=gb175) (o:=.cells #[.int .i64 a0_0,.int .i64 a0_1,.int .i64 a0_2,.int .i64 a0_3,.int .i64 a0_4,.slice A0_5 l0_5.length c0_5,.slice A0_6 l0_6.length c0_6] 52 (0,0)) (by (with_reducible repeat (first|refine qae ?_ _|refine qag ?_|refine qac ?_ _));exact BK175.out)):gb175≠gb176));have n6_:=qah.mk ((by rw [hg];exact Nat.ne_of_gt (qaH (g:=gb175) (o:=.cells #[.int .i64 a0_0,.int .i64 a0_1,.int .i64 a0_2,.int .i64 a0_3,.int .i64 a0_4,.slice A0_5 l0_5.length c0_5,.slice A0_6 l0_6.length c0_6] 52 (0,0)) (by (with_reducible repeat (first|refine qae ?_ _|refine qag ?_|refine qac ?_ _));exact BK175.out)):gb176≠gb175));clear BK175;clear HB;have BK175:=n0_;have HB:=n1_;have BK176:=n2_;have GW176:=n3_;have GE176:=n4_;have NB175_176:=n5_;have NB176_175:=n6_;clear n0_ n1_ n2_ n3_ n4_ n5_ n6_;clear hb hbox hg))
 repeat (go_quiet (first|((with_reducible refine qaJ (N:=2) rfl ?_);(try (refine qbg (by rfl) ?_;dsimp only));refine qaG ?hg (N:=2) ?hd (cs:=#[.int .i64 a0_0,.int .i64 a0_1,.int .i64 a0_2,.int .i64 a0_3,.int .i64 a0_4,.slice A0_5 l0_5.length c0_5,.slice A0_6 l0_6.length c0_6]) (t:=52) ?hr ?_;(case hd=>rfl);(case hg=>rfl);(case hr=>first|(go_simp;done)|(go_simp;rfl));intro gb175 hg w4 hbox hb;have n0_:=qah.mk (qaw (by repeat (first|(with_reducible first|exact HB.out|apply qaj|apply qad|apply qai)|exact HB.out)) hb);have n1_:=qah.mk (hbox);have n2_:=qah.mk ((by rw [hg];exact (qao (by repeat (first|(with_reducible first|exact HB.out|apply qaj|apply qad|apply qai)|exact HB.out))):w.heap.size≤gb175));have n3_:=qah.mk ((by rw [hg];exact (qao (by repeat (first|(with_reducible first|exact HB.out|apply qaj|apply qad|apply qai)|exact HB.out))):w.heap.size≤gb175));clear HB;have HB:=n0_;have BK175:=n1_;have GW175:=n2_;have GE175:=n3_;clear n0_ n1_ n2_ n3_;clear hb hbox hg)|((with_reducible refine qaJ (N:=3) rfl ?_);(try (refine qbg (by rfl) ?_;dsimp only));refine qaG ?hg (N:=3) ?hd (cs:=#[.int .i64 a1_0,.int .i64 a1_1,.int .i64 a1_2,.int .i64 a1_3,.int .i64 a1_4,.slice A1_5 l1_5.length c1_5,.slice A1_6 l1_6.length c1_6]) (t:=52) ?hr ?_;(case hd=>rfl);(case hg=>rfl);(case hr=>first|(go_simp;done)|(go_simp;rfl));intro gb176 hg w5 hbox hb;have n0_:=qah.mk (qax (g:=gb175) (o:=.cells #[.int .i64 a0_0,.int .i64 a0_1,.int .i64 a0_2,.int .i64 a0_3,.int .i64 a0_4,.slice A0_5 l0_5.length c0_5,.slice A0_6 l0_6.length c0_6] 52 (0,0)) (by (with_reducible repeat (first|refine qae ?_ _|refine qag ?_|refine qac ?_ _));exact BK175.out) hb);have n1_:=qah.mk (qaw (by repeat (first|(with_reducible first|exact HB.out|apply qaj|apply qad|apply qai|refine qaf ?_ GE175.out)|exact HB.out)) hb);have n2_:=qah.mk (hbox);have n3_:=qah.mk ((by rw [hg];exact (qao (by repeat (first|(with_reducible first|exact HB.out|apply qaj|apply qad|apply qai|refine qaf ?_ GE175.out)|exact HB.out))):w.heap.size≤gb176));have n4_:=qah.mk ((by rw [hg];exact (qao (by repeat (first|(with_reducible first|exact HB.out|apply qaj|apply qad|apply qai|refine qaf ?_ GE175.out)|exact HB.out))):w.heap.size≤gb176));have n5_:=qah.mk ((by rw [hg];exact Nat.ne_of_lt (qaH (g:=gb175) (o:=.cells #[.int .i64 a0_0,.int .i64 a0_1,.int .i64 a0_2,.int .i64 a0_3,.int .i64 a0_4,.slice A0_5 l0_5.length c0_5,.slice A0_6 l0_6.length c0_6] 52 (0,0)) (by (with_reducible repeat (first|refine qae ?_ _|refine qag ?_|refine qac ?_ _));exact BK175.out)):gb175≠gb176));have n6_:=qah.mk ((by rw [hg];exact Nat.ne_of_gt (qaH (g:=gb175) (o:=.cells #[.int .i64 a0_0,.int .i64 a0_1,.int .i64 a0_2,.int .i64 a0_3,.int .i64 a0_4,.slice A0_5 l0_5.length c0_5,.slice A0_6 l0_6.length c0_6] 52 (0,0)) (by (with_reducible repeat (first|refine qae ?_ _|refine qag ?_|refine qac ?_ _));exact BK175.out)):gb176≠gb175));clear BK175;clear HB;have BK175:=n0_;have HB:=n1_;have BK176:=n2_;have GW176:=n3_;have GE176:=n4_;have NB175_176:=n5_;have NB176_175:=n6_;clear n0_ n1_ n2_ n3_ n4_ n5_ n6_;clear hb hbox hg));go_upto_region 1 with (first|((with_reducible refine qaJ (N:=2) rfl ?_);(try (refine qbg (by rfl) ?_;dsimp only));refine qaG ?hg (N:=2) ?hd (cs:=#[.int .i64 a0_0,.int .i64 a0_1,.int .i64 a0_2,.int .i64 a0_3,.int .i64 a0_4,.slice A0_5 l0_5.length c0_5,.slice A0_6 l0_6.length c0_6]) (t:=52) ?hr ?_;(case hd=>rfl);(case hg=>rfl);(case hr=>first|(go_simp;done)|(go_simp;rfl));intro gb175 hg w4 hbox hb;have n0_:=qah.mk (qaw (by repeat (first|(with_reducible first|exact HB.out|apply qaj|apply qad|apply qai)|exact HB.out)) hb);have n1_:=qah.mk (hbox);have n2_:=qah.mk ((by rw [hg];exact (qao (by repeat (first|(with_reducible first|exact HB.out|apply qaj|apply qad|apply qai)|exact HB.out))):w.heap.size≤gb175));have n3_:=qah.mk ((by rw [hg];exact (qao (by repeat (first|(with_reducible first|exact HB.out|apply qaj|apply qad|apply qai)|exact HB.out))):w.heap.size≤gb175));clear HB;have HB:=n0_;have BK175:=n1_;have GW175:=n2_;have GE175:=n3_;clear n0_ n1_ n2_ n3_;clear hb hbox hg)|((with_reducible refine qaJ (N:=3) rfl ?_);(try (refine qbg (by rfl) ?_;dsimp only));refine qaG ?hg (N:=3) ?hd (cs:=#[.int .i64 a1_0,.int .i64 a1_1,.int .i64 a1_2,.int .i64 a1_3,.int .i64 a1_4,.slice A1_5 l1_5.length c1_5,.slice A1_6 l1_6.length c1_6]) (t:=52) ?hr ?_;(case hd=>rfl);(case hg=>rfl);(case hr=>first|(go_simp;done)|(go_simp;rfl));intro gb176 hg w5 hbox hb;have n0_:=qah.mk (qax (g:=gb175) (o:=.cells #[.int .i64 a0_0,.int .i64 a0_1,.int .i64 a0_2,.int .i64 a0_3,.int .i64 a0_4,.slice A0_5 l0_5.length c0_5,.slice A0_6 l0_6.length c0_6] 52 (0,0)) (by (with_reducible repeat (first|refine qae ?_ _|refine qag ?_|refine qac ?_ _));exact BK175.out) hb);have n1_:=qah.mk (qaw (by repeat (first|(with_reducible first|exact HB.out|apply qaj|apply qad|apply qai|refine qaf ?_ GE175.out)|exact HB.out)) hb);have n2_:=qah.mk (hbox);have n3_:=qah.mk ((by rw [hg];exact (qao (by repeat (first|(with_reducible first|exact HB.out|apply qaj|apply qad|apply qai|refine qaf ?_ GE175.out)|exact HB.out))):w.heap.size≤gb176));have n4_:=qah.mk ((by rw [hg];exact (qao (by repeat (first|(with_reducible first|exact HB.out|apply qaj|apply qad|apply qai|refine qaf ?_ GE175.out)|exact HB.out))):w.heap.size≤gb176));have n5_:=qah.mk ((by rw [hg];exact Nat.ne_of_lt (qaH (g:=gb175) (o:=.cells #[.int .i64 a0_0,.int .i64 a0_1,.int .i64 a0_2,.int .i64 a0_3,.int .i64 a0_4,.slice A0_5 l0_5.length c0_5,.slice A0_6 l0_6.length c0_6] 52 (0,0)) (by (with_reducible repeat (first|refine qae ?_ _|refine qag ?_|refine qac ?_ _));exact BK175.out)):gb175≠gb176));have n6_:=qah.mk ((by rw [hg];exact Nat.ne_of_gt (qaH (g:=gb175) (o:=.cells #[.int .i64 a0_0,.int .i64 a0_1,.int .i64 a0_2,.int .i64 a0_3,.int .i64 a0_4,.slice A0_5 l0_5.length c0_5,.slice A0_6 l0_6.length c0_6] 52 (0,0)) (by (with_reducible repeat (first|refine qae ?_ _|refine qag ?_|refine qac ?_ _));exact BK175.out)):gb176≠gb175));clear BK175;clear HB;have BK175:=n0_;have HB:=n1_;have BK176:=n2_;have GW176:=n3_;have GE176:=n4_;have NB175_176:=n5_;have NB176_175:=n6_;clear n0_ n1_ n2_ n3_ n4_ n5_ n6_;clear hb hbox hg)))
 (try simp only [Act.put,List.setIfInBounds_toArray,List.set_cons_zero,List.set_cons_succ])
 go_cut [57] (fun v57 wc=>∃ (kq:Nat) (x57_2:Bool),v57=.bool x57_2∧qah (ostinatoref05_SameTask.j0 kq x57_2 a0_0 a0_1 a0_2 a0_3 a0_4 l0_5 l0_6 a1_0 a1_1 a1_2 a1_3 a1_4 l1_5 l1_6=some r)∧qah (kq≤k)∧qah (wc.heap[gb175]? = some (.cells #[.int .i64 a0_0,.int .i64 a0_1,.int .i64 a0_2,.int .i64 a0_3,.int .i64 a0_4,(.slice A0_5 l0_5.length c0_5),(.slice A0_6 l0_6.length c0_6)] 52 (0,0)))∧qah (wc.heap[gb176]? = some (.cells #[.int .i64 a1_0,.int .i64 a1_1,.int .i64 a1_2,.int .i64 a1_3,.int .i64 a1_4,(.slice A1_5 l1_5.length c1_5),(.slice A1_6 l1_6.length c1_6)] 52 (0,0)))∧qah (Below w.heap.size w wc))
 case first=>
  have H:=HC3.out
  clear HC3
  by_cases c6:a0_0=a1_0
  ·rw [if_pos c6] at H
   have c6b0:(a0_0 == a1_0)=true:=beq_iff_eq.mpr c6
   have c6b1:(a0_0 != a1_0)=false:=bne_eq_false_iff_eq.mpr c6
   clear c6
   (first|rw [c6b0]|(simp only [qat,qau];rw [c6b0])|skip)
   by_cases c7:a0_1=a1_1
   ·rw [if_pos c7] at H
    have c7b0:(a0_1 == a1_1)=true:=beq_iff_eq.mpr c7
    have c7b1:(a0_1 != a1_1)=false:=bne_eq_false_iff_eq.mpr c7
    clear c7
    by_cases c8:a0_2=a1_2
    ·rw [if_pos c8] at H
     have c8b0:(a0_2 == a1_2)=true:=beq_iff_eq.mpr c8
     have c8b1:(a0_2 != a1_2)=false:=bne_eq_false_iff_eq.mpr c8
     clear c8
     by_cases c9:a0_3=a1_3
     ·rw [if_pos c9] at H
      have c9b0:(a0_3 == a1_3)=true:=beq_iff_eq.mpr c9
      have c9b1:(a0_3 != a1_3)=false:=bne_eq_false_iff_eq.mpr c9
      clear c9
      by_cases c10:a0_4=a1_4
      ·rw [if_pos c10] at H
       have c10b0:(a0_4 == a1_4)=true:=beq_iff_eq.mpr c10
       have c10b1:(a0_4 != a1_4)=false:=bne_eq_false_iff_eq.mpr c10
       clear c10
       by_cases c11:(l0_5.length:Int)=(l1_5.length:Int)
       ·rw [if_pos c11] at H
        have c11b0:((l0_5.length:Int) == (l1_5.length:Int))=true:=beq_iff_eq.mpr c11
        have c11b1:((l0_5.length:Int) != (l1_5.length:Int))=false:=bne_eq_false_iff_eq.mpr c11
        have c11b2:(l0_5.length == l1_5.length)=true:=by first|simpa using c11|(simp at c11 ⊢;omega)
        clear c11
        have H':=qah.mk H
        clear H
        have hnb12:=NB175_176.out
        have hnc12:=NB176_175.out
        have hcz13_0:w5.cell? ⟨gb175,0,none⟩=some (.int .i64 a0_0):=(qab BK175.out 0).trans rfl
        have hcz13_1:w5.cell? ⟨gb175,1,none⟩=some (.int .i64 a0_1):=(qab BK175.out 1).trans rfl
        have hcz13_2:w5.cell? ⟨gb175,2,none⟩=some (.int .i64 a0_2):=(qab BK175.out 2).trans rfl
        have hcz13_3:w5.cell? ⟨gb175,3,none⟩=some (.int .i64 a0_3):=(qab BK175.out 3).trans rfl
        have hcz13_4:w5.cell? ⟨gb175,4,none⟩=some (.int .i64 a0_4):=(qab BK175.out 4).trans rfl
        have hcz13_5:w5.cell? ⟨gb175,5,none⟩=some (.slice A0_5 l0_5.length c0_5):=(qab BK175.out 5).trans rfl
        have hcz13_6:w5.cell? ⟨gb175,6,none⟩=some (.slice A0_6 l0_6.length c0_6):=(qab BK175.out 6).trans rfl
        have hfz13_0:=qaa BK175.out 0
        have hfz13_1:=qaa BK175.out 1
        have hfz13_2:=qaa BK175.out 2
        have hfz13_3:=qaa BK175.out 3
        have hfz13_4:=qaa BK175.out 4
        have hfz13_5:=qaa BK175.out 5
        have hfz13_6:=qaa BK175.out 6
        have hcz14_0:w5.cell? ⟨gb176,0,none⟩=some (.int .i64 a1_0):=(qab BK176.out 0).trans rfl
        have hcz14_1:w5.cell? ⟨gb176,1,none⟩=some (.int .i64 a1_1):=(qab BK176.out 1).trans rfl
        have hcz14_2:w5.cell? ⟨gb176,2,none⟩=some (.int .i64 a1_2):=(qab BK176.out 2).trans rfl
        have hcz14_3:w5.cell? ⟨gb176,3,none⟩=some (.int .i64 a1_3):=(qab BK176.out 3).trans rfl
        have hcz14_4:w5.cell? ⟨gb176,4,none⟩=some (.int .i64 a1_4):=(qab BK176.out 4).trans rfl
        have hcz14_5:w5.cell? ⟨gb176,5,none⟩=some (.slice A1_5 l1_5.length c1_5):=(qab BK176.out 5).trans rfl
        have hcz14_6:w5.cell? ⟨gb176,6,none⟩=some (.slice A1_6 l1_6.length c1_6):=(qab BK176.out 6).trans rfl
        have hfz14_0:=qaa BK176.out 0
        have hfz14_1:=qaa BK176.out 1
        have hfz14_2:=qaa BK176.out 2
        have hfz14_3:=qaa BK176.out 3
        have hfz14_4:=qaa BK176.out 4
        have hfz14_5:=qaa BK176.out 5
        have hfz14_6:=qaa BK176.out 6
        go_wp2
        repeat (go_quiet (fail);try go_wp2)
        go_meet
        case rel=>exact⟨_,(((l0_6.length:Int) != (l1_6.length:Int))),(by first|rfl|(simp;done)|(simp [*];done)),H',⟨by first|omega|exact Nat.le_refl _⟩,⟨by (with_reducible repeat (first|refine qae ?_ _|refine qag ?_|refine qac ?_ _));exact BK175.out⟩,⟨by (with_reducible repeat (first|refine qae ?_ _|refine qag ?_|refine qac ?_ _));exact BK176.out⟩,⟨by repeat (first|(with_reducible first|exact HB.out|apply qaj|apply qad|apply qai|refine qaf ?_ GE175.out|refine qaf ?_ GE176.out)|exact HB.out)⟩⟩
       ·rw [if_neg c11] at H
        have c11b0:((l0_5.length:Int) == (l1_5.length:Int))=false:=beq_eq_false_iff_ne.mpr c11
        have c11b1:((l0_5.length:Int) != (l1_5.length:Int))=true:=bne_iff_ne.mpr c11
        have c11b2:(l0_5.length == l1_5.length)=false:=by first|simpa using c11|(simp at c11 ⊢;omega)
        have H':=qah.mk H
        clear H
        have hnb15:=NB175_176.out
        have hnc15:=NB176_175.out
        have hcz16_0:w5.cell? ⟨gb175,0,none⟩=some (.int .i64 a0_0):=(qab BK175.out 0).trans rfl
        have hcz16_1:w5.cell? ⟨gb175,1,none⟩=some (.int .i64 a0_1):=(qab BK175.out 1).trans rfl
        have hcz16_2:w5.cell? ⟨gb175,2,none⟩=some (.int .i64 a0_2):=(qab BK175.out 2).trans rfl
        have hcz16_3:w5.cell? ⟨gb175,3,none⟩=some (.int .i64 a0_3):=(qab BK175.out 3).trans rfl
        have hcz16_4:w5.cell? ⟨gb175,4,none⟩=some (.int .i64 a0_4):=(qab BK175.out 4).trans rfl
        have hcz16_5:w5.cell? ⟨gb175,5,none⟩=some (.slice A0_5 l0_5.length c0_5):=(qab BK175.out 5).trans rfl
        have hcz16_6:w5.cell? ⟨gb175,6,none⟩=some (.slice A0_6 l0_6.length c0_6):=(qab BK175.out 6).trans rfl
        have hfz16_0:=qaa BK175.out 0
        have hfz16_1:=qaa BK175.out 1
        have hfz16_2:=qaa BK175.out 2
        have hfz16_3:=qaa BK175.out 3
        have hfz16_4:=qaa BK175.out 4
        have hfz16_5:=qaa BK175.out 5
        have hfz16_6:=qaa BK175.out 6
        have hcz17_0:w5.cell? ⟨gb176,0,none⟩=some (.int .i64 a1_0):=(qab BK176.out 0).trans rfl
        have hcz17_1:w5.cell? ⟨gb176,1,none⟩=some (.int .i64 a1_1):=(qab BK176.out 1).trans rfl
        have hcz17_2:w5.cell? ⟨gb176,2,none⟩=some (.int .i64 a1_2):=(qab BK176.out 2).trans rfl
        have hcz17_3:w5.cell? ⟨gb176,3,none⟩=some (.int .i64 a1_3):=(qab BK176.out 3).trans rfl
        have hcz17_4:w5.cell? ⟨gb176,4,none⟩=some (.int .i64 a1_4):=(qab BK176.out 4).trans rfl
        have hcz17_5:w5.cell? ⟨gb176,5,none⟩=some (.slice A1_5 l1_5.length c1_5):=(qab BK176.out 5).trans rfl
        have hcz17_6:w5.cell? ⟨gb176,6,none⟩=some (.slice A1_6 l1_6.length c1_6):=(qab BK176.out 6).trans rfl
        have hfz17_0:=qaa BK176.out 0
        have hfz17_1:=qaa BK176.out 1
        have hfz17_2:=qaa BK176.out 2
        have hfz17_3:=qaa BK176.out 3
        have hfz17_4:=qaa BK176.out 4
        have hfz17_5:=qaa BK176.out 5
        have hfz17_6:=qaa BK176.out 6
        go_wp2
        repeat (go_quiet (fail);try go_wp2)
        go_meet
        case rel=>exact⟨_,(true),(by first|rfl|(simp;done)|(simp [*];done)),H',⟨by first|omega|exact Nat.le_refl _⟩,⟨by (with_reducible repeat (first|refine qae ?_ _|refine qag ?_|refine qac ?_ _));exact BK175.out⟩,⟨by (with_reducible repeat (first|refine qae ?_ _|refine qag ?_|refine qac ?_ _));exact BK176.out⟩,⟨by repeat (first|(with_reducible first|exact HB.out|apply qaj|apply qad|apply qai|refine qaf ?_ GE175.out|refine qaf ?_ GE176.out)|exact HB.out)⟩⟩
      ·rw [if_neg c10] at H
       have c10b0:(a0_4 == a1_4)=false:=beq_eq_false_iff_ne.mpr c10
       have c10b1:(a0_4 != a1_4)=true:=bne_iff_ne.mpr c10
       have H':=qah.mk H
       clear H
       have hnb18:=NB175_176.out
       have hnc18:=NB176_175.out
       have hcz19_0:w5.cell? ⟨gb175,0,none⟩=some (.int .i64 a0_0):=(qab BK175.out 0).trans rfl
       have hcz19_1:w5.cell? ⟨gb175,1,none⟩=some (.int .i64 a0_1):=(qab BK175.out 1).trans rfl
       have hcz19_2:w5.cell? ⟨gb175,2,none⟩=some (.int .i64 a0_2):=(qab BK175.out 2).trans rfl
       have hcz19_3:w5.cell? ⟨gb175,3,none⟩=some (.int .i64 a0_3):=(qab BK175.out 3).trans rfl
       have hcz19_4:w5.cell? ⟨gb175,4,none⟩=some (.int .i64 a0_4):=(qab BK175.out 4).trans rfl
       have hcz19_5:w5.cell? ⟨gb175,5,none⟩=some (.slice A0_5 l0_5.length c0_5):=(qab BK175.out 5).trans rfl
       have hcz19_6:w5.cell? ⟨gb175,6,none⟩=some (.slice A0_6 l0_6.length c0_6):=(qab BK175.out 6).trans rfl
       have hfz19_0:=qaa BK175.out 0
       have hfz19_1:=qaa BK175.out 1
       have hfz19_2:=qaa BK175.out 2
       have hfz19_3:=qaa BK175.out 3
       have hfz19_4:=qaa BK175.out 4
       have hfz19_5:=qaa BK175.out 5
       have hfz19_6:=qaa BK175.out 6
       have hcz20_0:w5.cell? ⟨gb176,0,none⟩=some (.int .i64 a1_0):=(qab BK176.out 0).trans rfl
       have hcz20_1:w5.cell? ⟨gb176,1,none⟩=some (.int .i64 a1_1):=(qab BK176.out 1).trans rfl
       have hcz20_2:w5.cell? ⟨gb176,2,none⟩=some (.int .i64 a1_2):=(qab BK176.out 2).trans rfl
       have hcz20_3:w5.cell? ⟨gb176,3,none⟩=some (.int .i64 a1_3):=(qab BK176.out 3).trans rfl
       have hcz20_4:w5.cell? ⟨gb176,4,none⟩=some (.int .i64 a1_4):=(qab BK176.out 4).trans rfl
       have hcz20_5:w5.cell? ⟨gb176,5,none⟩=some (.slice A1_5 l1_5.length c1_5):=(qab BK176.out 5).trans rfl
       have hcz20_6:w5.cell? ⟨gb176,6,none⟩=some (.slice A1_6 l1_6.length c1_6):=(qab BK176.out 6).trans rfl
       have hfz20_0:=qaa BK176.out 0
       have hfz20_1:=qaa BK176.out 1
       have hfz20_2:=qaa BK176.out 2
       have hfz20_3:=qaa BK176.out 3
       have hfz20_4:=qaa BK176.out 4
       have hfz20_5:=qaa BK176.out 5
       have hfz20_6:=qaa BK176.out 6
       go_wp2
       repeat (go_quiet (fail);try go_wp2)
       go_meet
       case rel=>exact⟨_,(true),(by first|rfl|(simp;done)|(simp [*];done)),H',⟨by first|omega|exact Nat.le_refl _⟩,⟨by (with_reducible repeat (first|refine qae ?_ _|refine qag ?_|refine qac ?_ _));exact BK175.out⟩,⟨by (with_reducible repeat (first|refine qae ?_ _|refine qag ?_|refine qac ?_ _));exact BK176.out⟩,⟨by repeat (first|(with_reducible first|exact HB.out|apply qaj|apply qad|apply qai|refine qaf ?_ GE175.out|refine qaf ?_ GE176.out)|exact HB.out)⟩⟩
     ·rw [if_neg c9] at H
      have c9b0:(a0_3 == a1_3)=false:=beq_eq_false_iff_ne.mpr c9
      have c9b1:(a0_3 != a1_3)=true:=bne_iff_ne.mpr c9
      have H':=qah.mk H
      clear H
      have hnb21:=NB175_176.out
      have hnc21:=NB176_175.out
      have hcz22_0:w5.cell? ⟨gb175,0,none⟩=some (.int .i64 a0_0):=(qab BK175.out 0).trans rfl
      have hcz22_1:w5.cell? ⟨gb175,1,none⟩=some (.int .i64 a0_1):=(qab BK175.out 1).trans rfl
      have hcz22_2:w5.cell? ⟨gb175,2,none⟩=some (.int .i64 a0_2):=(qab BK175.out 2).trans rfl
      have hcz22_3:w5.cell? ⟨gb175,3,none⟩=some (.int .i64 a0_3):=(qab BK175.out 3).trans rfl
      have hcz22_4:w5.cell? ⟨gb175,4,none⟩=some (.int .i64 a0_4):=(qab BK175.out 4).trans rfl
      have hcz22_5:w5.cell? ⟨gb175,5,none⟩=some (.slice A0_5 l0_5.length c0_5):=(qab BK175.out 5).trans rfl
      have hcz22_6:w5.cell? ⟨gb175,6,none⟩=some (.slice A0_6 l0_6.length c0_6):=(qab BK175.out 6).trans rfl
      have hfz22_0:=qaa BK175.out 0
      have hfz22_1:=qaa BK175.out 1
      have hfz22_2:=qaa BK175.out 2
      have hfz22_3:=qaa BK175.out 3
      have hfz22_4:=qaa BK175.out 4
      have hfz22_5:=qaa BK175.out 5
      have hfz22_6:=qaa BK175.out 6
      have hcz23_0:w5.cell? ⟨gb176,0,none⟩=some (.int .i64 a1_0):=(qab BK176.out 0).trans rfl
      have hcz23_1:w5.cell? ⟨gb176,1,none⟩=some (.int .i64 a1_1):=(qab BK176.out 1).trans rfl
      have hcz23_2:w5.cell? ⟨gb176,2,none⟩=some (.int .i64 a1_2):=(qab BK176.out 2).trans rfl
      have hcz23_3:w5.cell? ⟨gb176,3,none⟩=some (.int .i64 a1_3):=(qab BK176.out 3).trans rfl
      have hcz23_4:w5.cell? ⟨gb176,4,none⟩=some (.int .i64 a1_4):=(qab BK176.out 4).trans rfl
      have hcz23_5:w5.cell? ⟨gb176,5,none⟩=some (.slice A1_5 l1_5.length c1_5):=(qab BK176.out 5).trans rfl
      have hcz23_6:w5.cell? ⟨gb176,6,none⟩=some (.slice A1_6 l1_6.length c1_6):=(qab BK176.out 6).trans rfl
      have hfz23_0:=qaa BK176.out 0
      have hfz23_1:=qaa BK176.out 1
      have hfz23_2:=qaa BK176.out 2
      have hfz23_3:=qaa BK176.out 3
      have hfz23_4:=qaa BK176.out 4
      have hfz23_5:=qaa BK176.out 5
      have hfz23_6:=qaa BK176.out 6
      go_wp2
      repeat (go_quiet (fail);try go_wp2)
      go_meet
      case rel=>exact⟨_,(true),(by first|rfl|(simp;done)|(simp [*];done)),H',⟨by first|omega|exact Nat.le_refl _⟩,⟨by (with_reducible repeat (first|refine qae ?_ _|refine qag ?_|refine qac ?_ _));exact BK175.out⟩,⟨by (with_reducible repeat (first|refine qae ?_ _|refine qag ?_|refine qac ?_ _));exact BK176.out⟩,⟨by repeat (first|(with_reducible first|exact HB.out|apply qaj|apply qad|apply qai|refine qaf ?_ GE175.out|refine qaf ?_ GE176.out)|exact HB.out)⟩⟩
    ·rw [if_neg c8] at H
     have c8b0:(a0_2 == a1_2)=false:=beq_eq_false_iff_ne.mpr c8
     have c8b1:(a0_2 != a1_2)=true:=bne_iff_ne.mpr c8
     have H':=qah.mk H
     clear H
     have hnb24:=NB175_176.out
     have hnc24:=NB176_175.out
     have hcz25_0:w5.cell? ⟨gb175,0,none⟩=some (.int .i64 a0_0):=(qab BK175.out 0).trans rfl
     have hcz25_1:w5.cell? ⟨gb175,1,none⟩=some (.int .i64 a0_1):=(qab BK175.out 1).trans rfl
     have hcz25_2:w5.cell? ⟨gb175,2,none⟩=some (.int .i64 a0_2):=(qab BK175.out 2).trans rfl
     have hcz25_3:w5.cell? ⟨gb175,3,none⟩=some (.int .i64 a0_3):=(qab BK175.out 3).trans rfl
     have hcz25_4:w5.cell? ⟨gb175,4,none⟩=some (.int .i64 a0_4):=(qab BK175.out 4).trans rfl
     have hcz25_5:w5.cell? ⟨gb175,5,none⟩=some (.slice A0_5 l0_5.length c0_5):=(qab BK175.out 5).trans rfl
     have hcz25_6:w5.cell? ⟨gb175,6,none⟩=some (.slice A0_6 l0_6.length c0_6):=(qab BK175.out 6).trans rfl
     have hfz25_0:=qaa BK175.out 0
     have hfz25_1:=qaa BK175.out 1
     have hfz25_2:=qaa BK175.out 2
     have hfz25_3:=qaa BK175.out 3
     have hfz25_4:=qaa BK175.out 4
     have hfz25_5:=qaa BK175.out 5
     have hfz25_6:=qaa BK175.out 6
     have hcz26_0:w5.cell? ⟨gb176,0,none⟩=some (.int .i64 a1_0):=(qab BK176.out 0).trans rfl
     have hcz26_1:w5.cell? ⟨gb176,1,none⟩=some (.int .i64 a1_1):=(qab BK176.out 1).trans rfl
     have hcz26_2:w5.cell? ⟨gb176,2,none⟩=some (.int .i64 a1_2):=(qab BK176.out 2).trans rfl
     have hcz26_3:w5.cell? ⟨gb176,3,none⟩=some (.int .i64 a1_3):=(qab BK176.out 3).trans rfl
     have hcz26_4:w5.cell? ⟨gb176,4,none⟩=some (.int .i64 a1_4):=(qab BK176.out 4).trans rfl
     have hcz26_5:w5.cell? ⟨gb176,5,none⟩=some (.slice A1_5 l1_5.length c1_5):=(qab BK176.out 5).trans rfl
     have hcz26_6:w5.cell? ⟨gb176,6,none⟩=some (.slice A1_6 l1_6.length c1_6):=(qab BK176.out 6).trans rfl
     have hfz26_0:=qaa BK176.out 0
     have hfz26_1:=qaa BK176.out 1
     have hfz26_2:=qaa BK176.out 2
     have hfz26_3:=qaa BK176.out 3
     have hfz26_4:=qaa BK176.out 4
     have hfz26_5:=qaa BK176.out 5
     have hfz26_6:=qaa BK176.out 6
     go_wp2
     repeat (go_quiet (fail);try go_wp2)
     go_meet
     case rel=>exact⟨_,(true),(by first|rfl|(simp;done)|(simp [*];done)),H',⟨by first|omega|exact Nat.le_refl _⟩,⟨by (with_reducible repeat (first|refine qae ?_ _|refine qag ?_|refine qac ?_ _));exact BK175.out⟩,⟨by (with_reducible repeat (first|refine qae ?_ _|refine qag ?_|refine qac ?_ _));exact BK176.out⟩,⟨by repeat (first|(with_reducible first|exact HB.out|apply qaj|apply qad|apply qai|refine qaf ?_ GE175.out|refine qaf ?_ GE176.out)|exact HB.out)⟩⟩
   ·rw [if_neg c7] at H
    have c7b0:(a0_1 == a1_1)=false:=beq_eq_false_iff_ne.mpr c7
    have c7b1:(a0_1 != a1_1)=true:=bne_iff_ne.mpr c7
    have H':=qah.mk H
    clear H
    have hnb27:=NB175_176.out
    have hnc27:=NB176_175.out
    have hcz28_0:w5.cell? ⟨gb175,0,none⟩=some (.int .i64 a0_0):=(qab BK175.out 0).trans rfl
    have hcz28_1:w5.cell? ⟨gb175,1,none⟩=some (.int .i64 a0_1):=(qab BK175.out 1).trans rfl
    have hcz28_2:w5.cell? ⟨gb175,2,none⟩=some (.int .i64 a0_2):=(qab BK175.out 2).trans rfl
    have hcz28_3:w5.cell? ⟨gb175,3,none⟩=some (.int .i64 a0_3):=(qab BK175.out 3).trans rfl
    have hcz28_4:w5.cell? ⟨gb175,4,none⟩=some (.int .i64 a0_4):=(qab BK175.out 4).trans rfl
    have hcz28_5:w5.cell? ⟨gb175,5,none⟩=some (.slice A0_5 l0_5.length c0_5):=(qab BK175.out 5).trans rfl
    have hcz28_6:w5.cell? ⟨gb175,6,none⟩=some (.slice A0_6 l0_6.length c0_6):=(qab BK175.out 6).trans rfl
    have hfz28_0:=qaa BK175.out 0
    have hfz28_1:=qaa BK175.out 1
    have hfz28_2:=qaa BK175.out 2
    have hfz28_3:=qaa BK175.out 3
    have hfz28_4:=qaa BK175.out 4
    have hfz28_5:=qaa BK175.out 5
    have hfz28_6:=qaa BK175.out 6
    have hcz29_0:w5.cell? ⟨gb176,0,none⟩=some (.int .i64 a1_0):=(qab BK176.out 0).trans rfl
    have hcz29_1:w5.cell? ⟨gb176,1,none⟩=some (.int .i64 a1_1):=(qab BK176.out 1).trans rfl
    have hcz29_2:w5.cell? ⟨gb176,2,none⟩=some (.int .i64 a1_2):=(qab BK176.out 2).trans rfl
    have hcz29_3:w5.cell? ⟨gb176,3,none⟩=some (.int .i64 a1_3):=(qab BK176.out 3).trans rfl
    have hcz29_4:w5.cell? ⟨gb176,4,none⟩=some (.int .i64 a1_4):=(qab BK176.out 4).trans rfl
    have hcz29_5:w5.cell? ⟨gb176,5,none⟩=some (.slice A1_5 l1_5.length c1_5):=(qab BK176.out 5).trans rfl
    have hcz29_6:w5.cell? ⟨gb176,6,none⟩=some (.slice A1_6 l1_6.length c1_6):=(qab BK176.out 6).trans rfl
    have hfz29_0:=qaa BK176.out 0
    have hfz29_1:=qaa BK176.out 1
    have hfz29_2:=qaa BK176.out 2
    have hfz29_3:=qaa BK176.out 3
    have hfz29_4:=qaa BK176.out 4
    have hfz29_5:=qaa BK176.out 5
    have hfz29_6:=qaa BK176.out 6
    go_wp2
    repeat (go_quiet (fail);try go_wp2)
    go_meet
    case rel=>exact⟨_,(true),(by first|rfl|(simp;done)|(simp [*];done)),H',⟨by first|omega|exact Nat.le_refl _⟩,⟨by (with_reducible repeat (first|refine qae ?_ _|refine qag ?_|refine qac ?_ _));exact BK175.out⟩,⟨by (with_reducible repeat (first|refine qae ?_ _|refine qag ?_|refine qac ?_ _));exact BK176.out⟩,⟨by repeat (first|(with_reducible first|exact HB.out|apply qaj|apply qad|apply qai|refine qaf ?_ GE175.out|refine qaf ?_ GE176.out)|exact HB.out)⟩⟩
  ·rw [if_neg c6] at H
   have c6b0:(a0_0 == a1_0)=false:=beq_eq_false_iff_ne.mpr c6
   have c6b1:(a0_0 != a1_0)=true:=bne_iff_ne.mpr c6
   (first|rw [c6b0]|(simp only [qat,qau];rw [c6b0])|skip)
   have H':=qah.mk H
   clear H
   have hnb30:=NB175_176.out
   have hnc30:=NB176_175.out
   have hcz31_0:w5.cell? ⟨gb175,0,none⟩=some (.int .i64 a0_0):=(qab BK175.out 0).trans rfl
   have hcz31_1:w5.cell? ⟨gb175,1,none⟩=some (.int .i64 a0_1):=(qab BK175.out 1).trans rfl
   have hcz31_2:w5.cell? ⟨gb175,2,none⟩=some (.int .i64 a0_2):=(qab BK175.out 2).trans rfl
   have hcz31_3:w5.cell? ⟨gb175,3,none⟩=some (.int .i64 a0_3):=(qab BK175.out 3).trans rfl
   have hcz31_4:w5.cell? ⟨gb175,4,none⟩=some (.int .i64 a0_4):=(qab BK175.out 4).trans rfl
   have hcz31_5:w5.cell? ⟨gb175,5,none⟩=some (.slice A0_5 l0_5.length c0_5):=(qab BK175.out 5).trans rfl
   have hcz31_6:w5.cell? ⟨gb175,6,none⟩=some (.slice A0_6 l0_6.length c0_6):=(qab BK175.out 6).trans rfl
   have hfz31_0:=qaa BK175.out 0
   have hfz31_1:=qaa BK175.out 1
   have hfz31_2:=qaa BK175.out 2
   have hfz31_3:=qaa BK175.out 3
   have hfz31_4:=qaa BK175.out 4
   have hfz31_5:=qaa BK175.out 5
   have hfz31_6:=qaa BK175.out 6
   have hcz32_0:w5.cell? ⟨gb176,0,none⟩=some (.int .i64 a1_0):=(qab BK176.out 0).trans rfl
   have hcz32_1:w5.cell? ⟨gb176,1,none⟩=some (.int .i64 a1_1):=(qab BK176.out 1).trans rfl
   have hcz32_2:w5.cell? ⟨gb176,2,none⟩=some (.int .i64 a1_2):=(qab BK176.out 2).trans rfl
   have hcz32_3:w5.cell? ⟨gb176,3,none⟩=some (.int .i64 a1_3):=(qab BK176.out 3).trans rfl
   have hcz32_4:w5.cell? ⟨gb176,4,none⟩=some (.int .i64 a1_4):=(qab BK176.out 4).trans rfl
   have hcz32_5:w5.cell? ⟨gb176,5,none⟩=some (.slice A1_5 l1_5.length c1_5):=(qab BK176.out 5).trans rfl
   have hcz32_6:w5.cell? ⟨gb176,6,none⟩=some (.slice A1_6 l1_6.length c1_6):=(qab BK176.out 6).trans rfl
   have hfz32_0:=qaa BK176.out 0
   have hfz32_1:=qaa BK176.out 1
   have hfz32_2:=qaa BK176.out 2
   have hfz32_3:=qaa BK176.out 3
   have hfz32_4:=qaa BK176.out 4
   have hfz32_5:=qaa BK176.out 5
   have hfz32_6:=qaa BK176.out 6
   go_wp2
   repeat (go_quiet (fail);try go_wp2)
   go_meet
   case rel=>exact⟨_,(true),(by first|rfl|(simp;done)|(simp [*];done)),H',⟨by first|omega|exact Nat.le_refl _⟩,⟨by (with_reducible repeat (first|refine qae ?_ _|refine qag ?_|refine qac ?_ _));exact BK175.out⟩,⟨by (with_reducible repeat (first|refine qae ?_ _|refine qag ?_|refine qac ?_ _));exact BK176.out⟩,⟨by repeat (first|(with_reducible first|exact HB.out|apply qaj|apply qad|apply qai|refine qaf ?_ GE175.out|refine qaf ?_ GE176.out)|exact HB.out)⟩⟩
 case rest=>
  clear HC3
  try clear c1
  try clear c2
  try clear p2
  try clear c3
  try clear c5
  try clear c6
  try clear c6b0
  try clear c6b1
  try clear c7
  try clear c7b0
  try clear c7b1
  try clear c8
  try clear c8b0
  try clear c8b1
  try clear c9
  try clear c9b0
  try clear c9b1
  try clear c10
  try clear c10b0
  try clear c10b1
  try clear c11
  try clear c11b0
  try clear c11b1
  try clear c11b2
  try clear c12
  try clear c15
  try clear c18
  try clear c21
  try clear c24
  try clear c27
  try clear c30
  try clear hcz13_0
  try clear hcz13_1
  try clear hcz13_2
  try clear hcz13_3
  try clear hcz13_4
  try clear hcz13_5
  try clear hcz13_6
  try clear hcz14_0
  try clear hcz14_1
  try clear hcz14_2
  try clear hcz14_3
  try clear hcz14_4
  try clear hcz14_5
  try clear hcz14_6
  try clear hcz16_0
  try clear hcz16_1
  try clear hcz16_2
  try clear hcz16_3
  try clear hcz16_4
  try clear hcz16_5
  try clear hcz16_6
  try clear hcz17_0
  try clear hcz17_1
  try clear hcz17_2
  try clear hcz17_3
  try clear hcz17_4
  try clear hcz17_5
  try clear hcz17_6
  try clear hcz19_0
  try clear hcz19_1
  try clear hcz19_2
  try clear hcz19_3
  try clear hcz19_4
  try clear hcz19_5
  try clear hcz19_6
  try clear hcz20_0
  try clear hcz20_1
  try clear hcz20_2
  try clear hcz20_3
  try clear hcz20_4
  try clear hcz20_5
  try clear hcz20_6
  try clear hcz22_0
  try clear hcz22_1
  try clear hcz22_2
  try clear hcz22_3
  try clear hcz22_4
  try clear hcz22_5
  try clear hcz22_6
  try clear hcz23_0
  try clear hcz23_1
  try clear hcz23_2
  try clear hcz23_3
  try clear hcz23_4
  try clear hcz23_5
  try clear hcz23_6
  try clear hcz25_0
  try clear hcz25_1
  try clear hcz25_2
  try clear hcz25_3
  try clear hcz25_4
  try clear hcz25_5
  try clear hcz25_6
  try clear hcz26_0
  try clear hcz26_1
  try clear hcz26_2
  try clear hcz26_3
  try clear hcz26_4
  try clear hcz26_5
  try clear hcz26_6
  try clear hcz28_0
  try clear hcz28_1
  try clear hcz28_2
  try clear hcz28_3
  try clear hcz28_4
  try clear hcz28_5
  try clear hcz28_6
  try clear hcz29_0
  try clear hcz29_1
  try clear hcz29_2
  try clear hcz29_3
  try clear hcz29_4
  try clear hcz29_5
  try clear hcz29_6
  try clear hcz31_0
  try clear hcz31_1
  try clear hcz31_2
  try clear hcz31_3
  try clear hcz31_4
  try clear hcz31_5
  try clear hcz31_6
  try clear hcz32_0
  try clear hcz32_1
  try clear hcz32_2
  try clear hcz32_3
  try clear hcz32_4
  try clear hcz32_5
  try clear hcz32_6
  try clear hfz13_0
  try clear hfz13_1
  try clear hfz13_2
  try clear hfz13_3
  try clear hfz13_4
  try clear hfz13_5
  try clear hfz13_6
  try clear hfz14_0
  try clear hfz14_1
  try clear hfz14_2
  try clear hfz14_3
  try clear hfz14_4
  try clear hfz14_5
  try clear hfz14_6
  try clear hfz16_0
  try clear hfz16_1
  try clear hfz16_2
  try clear hfz16_3
  try clear hfz16_4
  try clear hfz16_5
  try clear hfz16_6
  try clear hfz17_0
  try clear hfz17_1
  try clear hfz17_2
  try clear hfz17_3
  try clear hfz17_4
  try clear hfz17_5
  try clear hfz17_6
  try clear hfz19_0
  try clear hfz19_1
  try clear hfz19_2
  try clear hfz19_3
  try clear hfz19_4
  try clear hfz19_5
  try clear hfz19_6
  try clear hfz20_0
  try clear hfz20_1
  try clear hfz20_2
  try clear hfz20_3
  try clear hfz20_4
  try clear hfz20_5
  try clear hfz20_6
  try clear hfz22_0
  try clear hfz22_1
  try clear hfz22_2
  try clear hfz22_3
  try clear hfz22_4
  try clear hfz22_5
  try clear hfz22_6
  try clear hfz23_0
  try clear hfz23_1
  try clear hfz23_2
  try clear hfz23_3
  try clear hfz23_4
  try clear hfz23_5
  try clear hfz23_6
  try clear hfz25_0
  try clear hfz25_1
  try clear hfz25_2
  try clear hfz25_3
  try clear hfz25_4
  try clear hfz25_5
  try clear hfz25_6
  try clear hfz26_0
  try clear hfz26_1
  try clear hfz26_2
  try clear hfz26_3
  try clear hfz26_4
  try clear hfz26_5
  try clear hfz26_6
  try clear hfz28_0
  try clear hfz28_1
  try clear hfz28_2
  try clear hfz28_3
  try clear hfz28_4
  try clear hfz28_5
  try clear hfz28_6
  try clear hfz29_0
  try clear hfz29_1
  try clear hfz29_2
  try clear hfz29_3
  try clear hfz29_4
  try clear hfz29_5
  try clear hfz29_6
  try clear hfz31_0
  try clear hfz31_1
  try clear hfz31_2
  try clear hfz31_3
  try clear hfz31_4
  try clear hfz31_5
  try clear hfz31_6
  try clear hfz32_0
  try clear hfz32_1
  try clear hfz32_2
  try clear hfz32_3
  try clear hfz32_4
  try clear hfz32_5
  try clear hfz32_6
  obtain⟨kq,x57_2,rfl,HA,HJ2,BK175,BK176,HB⟩:=hcut
  cases kq with
  |zero=>exact absurd HA.out (by simp [ostinatoref05_SameTask.j0])
  |succ kj2=>
   have H:=HA.out
   clear HA
   simp only [ostinatoref05_SameTask.j0] at H
   by_cases c33:x57_2=true
   ·subst c33
    have H1:(some false)=some r:=by rw [if_pos rfl] at H;exact H
    clear H
    have H:=H1
    clear H1
    obtain rfl:=Option.some.inj H
    go_wp2
    repeat (go_quiet (fail);try go_wp2)
    go_ret
    exact⟨by first|rfl|(simp [qaq,qap]<;>rfl)|(simp [bneNil,bneNilU]<;>rfl)|(simp [*,qaq,qap]<;>rfl),by repeat (first|(with_reducible first|exact HB.out|apply qaj|apply qad|apply qai|refine qaf ?_ GE175.out|refine qaf ?_ GE176.out)|exact HB.out)⟩
   ·replace c33:=Bool.eq_false_iff.mpr c33
    subst c33
    have H1:(ostinatoref05_SameTask.l0 kj2 0 a0_0 a0_1 a0_2 a0_3 a0_4 l0_5 l0_6 a1_0 a1_1 a1_2 a1_3 a1_4 l1_5 l1_6)=some r:=by rw [if_neg (show ¬ (false=true) by decide)] at H;exact H
    clear H
    have H:=H1
    clear H1
    have H':=qah.mk H
    clear H
    go_wp2
    repeat (go_quiet (fail);try go_wp2)
    go_loopg [5] kj2 (fun kq v5 w'=>∃ (x5_2:Int),v5=.int .i64 x5_2∧qah (ostinatoref05_SameTask.l0 kq x5_2 a0_0 a0_1 a0_2 a0_3 a0_4 l0_5 l0_6 a1_0 a1_1 a1_2 a1_3 a1_4 l1_5 l1_6=some r)∧qah (kq≤kj2)∧qah (w'.heap[gb175]? = some (.cells #[.int .i64 a0_0,.int .i64 a0_1,.int .i64 a0_2,.int .i64 a0_3,.int .i64 a0_4,(.slice A0_5 l0_5.length c0_5),(.slice A0_6 l0_6.length c0_6)] 52 (0,0)))∧qah (w'.heap[gb176]? = some (.cells #[.int .i64 a1_0,.int .i64 a1_1,.int .i64 a1_2,.int .i64 a1_3,.int .i64 a1_4,(.slice A1_5 l1_5.length c1_5),(.slice A1_6 l1_6.length c1_6)] 52 (0,0)))∧qah (Below w.heap.size w w'))
    case atStart=>exact⟨(0),(by first|rfl|(simp;done)|(simp [*];done)),H',⟨Nat.le_refl _⟩,⟨by (with_reducible repeat (first|refine qae ?_ _|refine qag ?_|refine qac ?_ _));exact BK175.out⟩,⟨by (with_reducible repeat (first|refine qae ?_ _|refine qag ?_|refine qac ?_ _));exact BK176.out⟩,⟨by repeat (first|(with_reducible first|exact HB.out|apply qaj|apply qad|apply qai|refine qaf ?_ GE175.out|refine qaf ?_ GE176.out)|exact HB.out)⟩⟩
    case round=>
     clear H'
     try clear c1
     try clear c2
     try clear p2
     try clear c3
     try clear c5
     try clear c6
     try clear c6b0
     try clear c6b1
     try clear c7
     try clear c7b0
     try clear c7b1
     try clear c8
     try clear c8b0
     try clear c8b1
     try clear c9
     try clear c9b0
     try clear c9b1
     try clear c10
     try clear c10b0
     try clear c10b1
     try clear c11
     try clear c11b0
     try clear c11b1
     try clear c11b2
     try clear c12
     try clear c15
     try clear c18
     try clear c21
     try clear c24
     try clear c27
     try clear c30
     try clear c33
     try clear hcz13_0
     try clear hcz13_1
     try clear hcz13_2
     try clear hcz13_3
     try clear hcz13_4
     try clear hcz13_5
     try clear hcz13_6
     try clear hcz14_0
     try clear hcz14_1
     try clear hcz14_2
     try clear hcz14_3
     try clear hcz14_4
     try clear hcz14_5
     try clear hcz14_6
     try clear hcz16_0
     try clear hcz16_1
     try clear hcz16_2
     try clear hcz16_3
     try clear hcz16_4
     try clear hcz16_5
     try clear hcz16_6
     try clear hcz17_0
     try clear hcz17_1
     try clear hcz17_2
     try clear hcz17_3
     try clear hcz17_4
     try clear hcz17_5
     try clear hcz17_6
     try clear hcz19_0
     try clear hcz19_1
     try clear hcz19_2
     try clear hcz19_3
     try clear hcz19_4
     try clear hcz19_5
     try clear hcz19_6
     try clear hcz20_0
     try clear hcz20_1
     try clear hcz20_2
     try clear hcz20_3
     try clear hcz20_4
     try clear hcz20_5
     try clear hcz20_6
     try clear hcz22_0
     try clear hcz22_1
     try clear hcz22_2
     try clear hcz22_3
     try clear hcz22_4
     try clear hcz22_5
     try clear hcz22_6
     try clear hcz23_0
     try clear hcz23_1
     try clear hcz23_2
     try clear hcz23_3
     try clear hcz23_4
     try clear hcz23_5
     try clear hcz23_6
     try clear hcz25_0
     try clear hcz25_1
     try clear hcz25_2
     try clear hcz25_3
     try clear hcz25_4
     try clear hcz25_5
     try clear hcz25_6
     try clear hcz26_0
     try clear hcz26_1
     try clear hcz26_2
     try clear hcz26_3
     try clear hcz26_4
     try clear hcz26_5
     try clear hcz26_6
     try clear hcz28_0
     try clear hcz28_1
     try clear hcz28_2
     try clear hcz28_3
     try clear hcz28_4
     try clear hcz28_5
     try clear hcz28_6
     try clear hcz29_0
     try clear hcz29_1
     try clear hcz29_2
     try clear hcz29_3
     try clear hcz29_4
     try clear hcz29_5
     try clear hcz29_6
     try clear hcz31_0
     try clear hcz31_1
     try clear hcz31_2
     try clear hcz31_3
     try clear hcz31_4
     try clear hcz31_5
     try clear hcz31_6
     try clear hcz32_0
     try clear hcz32_1
     try clear hcz32_2
     try clear hcz32_3
     try clear hcz32_4
     try clear hcz32_5
     try clear hcz32_6
     try clear hfz13_0
     try clear hfz13_1
     try clear hfz13_2
     try clear hfz13_3
     try clear hfz13_4
     try clear hfz13_5
     try clear hfz13_6
     try clear hfz14_0
     try clear hfz14_1
     try clear hfz14_2
     try clear hfz14_3
     try clear hfz14_4
     try clear hfz14_5
     try clear hfz14_6
     try clear hfz16_0
     try clear hfz16_1
     try clear hfz16_2
     try clear hfz16_3
     try clear hfz16_4
     try clear hfz16_5
     try clear hfz16_6
     try clear hfz17_0
     try clear hfz17_1
     try clear hfz17_2
     try clear hfz17_3
     try clear hfz17_4
     try clear hfz17_5
     try clear hfz17_6
     try clear hfz19_0
     try clear hfz19_1
     try clear hfz19_2
     try clear hfz19_3
     try clear hfz19_4
     try clear hfz19_5
     try clear hfz19_6
     try clear hfz20_0
     try clear hfz20_1
     try clear hfz20_2
     try clear hfz20_3
     try clear hfz20_4
     try clear hfz20_5
     try clear hfz20_6
     try clear hfz22_0
     try clear hfz22_1
     try clear hfz22_2
     try clear hfz22_3
     try clear hfz22_4
     try clear hfz22_5
     try clear hfz22_6
     try clear hfz23_0
     try clear hfz23_1
     try clear hfz23_2
     try clear hfz23_3
     try clear hfz23_4
     try clear hfz23_5
     try clear hfz23_6
     try clear hfz25_0
     try clear hfz25_1
     try clear hfz25_2
     try clear hfz25_3
     try clear hfz25_4
     try clear hfz25_5
     try clear hfz25_6
     try clear hfz26_0
     try clear hfz26_1
     try clear hfz26_2
     try clear hfz26_3
     try clear hfz26_4
     try clear hfz26_5
     try clear hfz26_6
     try clear hfz28_0
     try clear hfz28_1
     try clear hfz28_2
     try clear hfz28_3
     try clear hfz28_4
     try clear hfz28_5
     try clear hfz28_6
     try clear hfz29_0
     try clear hfz29_1
     try clear hfz29_2
     try clear hfz29_3
     try clear hfz29_4
     try clear hfz29_5
     try clear hfz29_6
     try clear hfz31_0
     try clear hfz31_1
     try clear hfz31_2
     try clear hfz31_3
     try clear hfz31_4
     try clear hfz31_5
     try clear hfz31_6
     try clear hfz32_0
     try clear hfz32_1
     try clear hfz32_2
     try clear hfz32_3
     try clear hfz32_4
     try clear hfz32_5
     try clear hfz32_6
     try clear p2
     obtain⟨x5_2,rfl,HA,HK2,BK175,BK176,HB⟩:=hrel
     cases gk with
     |zero=>exact absurd HA.out (by simp [ostinatoref05_SameTask.l0])
     |succ k2=>
      have H:=HA.out
      clear HA
      simp only [ostinatoref05_SameTask.l0] at H
      by_cases c34:x5_2<(l0_5.length:Int)
      ·rw [if_pos c34] at H
       have c34b0:decide (x5_2<(l0_5.length:Int))=true:=decide_eq_true c34
       clear c34
       by_cases c35:0≤x5_2
       ·rw [if_pos c35] at H
        have c35b0:decide (0≤x5_2)=true:=decide_eq_true c35
        clear c35
        by_cases c36:x5_2<(l1_5.length:Int)
        ·rw [if_pos c36] at H
         have c36b0:decide (x5_2<(l1_5.length:Int))=true:=decide_eq_true c36
         clear c36
         by_cases c37:(rd l0_5 x5_2)=(rd l1_5 x5_2)
         ·rw [if_pos c37] at H
          have c37b0:((rd l0_5 x5_2) == (rd l1_5 x5_2))=true:=beq_iff_eq.mpr c37
          have c37b1:((rd l0_5 x5_2) != (rd l1_5 x5_2))=false:=bne_eq_false_iff_eq.mpr c37
          clear c37
          have H':=qah.mk H
          clear H
          have hnb38:=NB175_176.out
          have hnc38:=NB176_175.out
          have hcz39_0:wr.cell? ⟨gb175,0,none⟩=some (.int .i64 a0_0):=(qab BK175.out 0).trans rfl
          have hcz39_1:wr.cell? ⟨gb175,1,none⟩=some (.int .i64 a0_1):=(qab BK175.out 1).trans rfl
          have hcz39_2:wr.cell? ⟨gb175,2,none⟩=some (.int .i64 a0_2):=(qab BK175.out 2).trans rfl
          have hcz39_3:wr.cell? ⟨gb175,3,none⟩=some (.int .i64 a0_3):=(qab BK175.out 3).trans rfl
          have hcz39_4:wr.cell? ⟨gb175,4,none⟩=some (.int .i64 a0_4):=(qab BK175.out 4).trans rfl
          have hcz39_5:wr.cell? ⟨gb175,5,none⟩=some (.slice A0_5 l0_5.length c0_5):=(qab BK175.out 5).trans rfl
          have hcz39_6:wr.cell? ⟨gb175,6,none⟩=some (.slice A0_6 l0_6.length c0_6):=(qab BK175.out 6).trans rfl
          have hfz39_0:=qaa BK175.out 0
          have hfz39_1:=qaa BK175.out 1
          have hfz39_2:=qaa BK175.out 2
          have hfz39_3:=qaa BK175.out 3
          have hfz39_4:=qaa BK175.out 4
          have hfz39_5:=qaa BK175.out 5
          have hfz39_6:=qaa BK175.out 6
          have p177:0≤(x5_2:Int):=of_decide_eq_true (by first|(with_reducible assumption)|assumption)
          have q177:x5_2<(l0_5.length:Int):=of_decide_eq_true (by first|(with_reducible assumption)|assumption)
          obtain⟨ad177,e177,hx177_0⟩:=Kd.at_int HR0_5.out x5_2 p177 q177
          cases e177
          replace hx177_0:=(HB.out.cell (bLt w _ hx177_0)).trans hx177_0
          replace p177:=eq_true p177
          replace q177:=eq_true q177
          have hcz40_0:wr.cell? ⟨gb176,0,none⟩=some (.int .i64 a1_0):=(qab BK176.out 0).trans rfl
          have hcz40_1:wr.cell? ⟨gb176,1,none⟩=some (.int .i64 a1_1):=(qab BK176.out 1).trans rfl
          have hcz40_2:wr.cell? ⟨gb176,2,none⟩=some (.int .i64 a1_2):=(qab BK176.out 2).trans rfl
          have hcz40_3:wr.cell? ⟨gb176,3,none⟩=some (.int .i64 a1_3):=(qab BK176.out 3).trans rfl
          have hcz40_4:wr.cell? ⟨gb176,4,none⟩=some (.int .i64 a1_4):=(qab BK176.out 4).trans rfl
          have hcz40_5:wr.cell? ⟨gb176,5,none⟩=some (.slice A1_5 l1_5.length c1_5):=(qab BK176.out 5).trans rfl
          have hcz40_6:wr.cell? ⟨gb176,6,none⟩=some (.slice A1_6 l1_6.length c1_6):=(qab BK176.out 6).trans rfl
          have hfz40_0:=qaa BK176.out 0
          have hfz40_1:=qaa BK176.out 1
          have hfz40_2:=qaa BK176.out 2
          have hfz40_3:=qaa BK176.out 3
          have hfz40_4:=qaa BK176.out 4
          have hfz40_5:=qaa BK176.out 5
          have hfz40_6:=qaa BK176.out 6
          have p178:0≤(x5_2:Int):=of_decide_eq_true (by first|(with_reducible assumption)|assumption)
          have q178:x5_2<(l1_5.length:Int):=of_decide_eq_true (by first|(with_reducible assumption)|assumption)
          obtain⟨ad178,e178,hx178_0⟩:=Kd.at_int HR1_5.out x5_2 p178 q178
          cases e178
          replace hx178_0:=(HB.out.cell (bLt w _ hx178_0)).trans hx178_0
          replace p178:=eq_true p178
          replace q178:=eq_true q178
          go_wp2
          repeat (go_quiet (fail);try go_wp2)
          go_roundg k2
          case measure=>have:=HJ2.out;have:=HK2.out;omega
          case rel=>exact⟨(wrap64 (x5_2+1)),(by first|rfl|(simp;done)|(simp [*];done)),H',⟨by have:=HJ2.out;have:=HK2.out;omega⟩,⟨by (with_reducible repeat (first|refine qae ?_ _|refine qag ?_|refine qac ?_ _));exact BK175.out⟩,⟨by (with_reducible repeat (first|refine qae ?_ _|refine qag ?_|refine qac ?_ _));exact BK176.out⟩,⟨by repeat (first|(with_reducible first|exact HB.out|apply qaj|apply qad|apply qai|refine qaf ?_ GE175.out|refine qaf ?_ GE176.out)|exact HB.out)⟩⟩
         ·rw [if_neg c37] at H
          have c37b0:((rd l0_5 x5_2) == (rd l1_5 x5_2))=false:=beq_eq_false_iff_ne.mpr c37
          have c37b1:((rd l0_5 x5_2) != (rd l1_5 x5_2))=true:=bne_iff_ne.mpr c37
          obtain rfl:=Option.some.inj H
          have hnb41:=NB175_176.out
          have hnc41:=NB176_175.out
          have hcz42_0:wr.cell? ⟨gb175,0,none⟩=some (.int .i64 a0_0):=(qab BK175.out 0).trans rfl
          have hcz42_1:wr.cell? ⟨gb175,1,none⟩=some (.int .i64 a0_1):=(qab BK175.out 1).trans rfl
          have hcz42_2:wr.cell? ⟨gb175,2,none⟩=some (.int .i64 a0_2):=(qab BK175.out 2).trans rfl
          have hcz42_3:wr.cell? ⟨gb175,3,none⟩=some (.int .i64 a0_3):=(qab BK175.out 3).trans rfl
          have hcz42_4:wr.cell? ⟨gb175,4,none⟩=some (.int .i64 a0_4):=(qab BK175.out 4).trans rfl
          have hcz42_5:wr.cell? ⟨gb175,5,none⟩=some (.slice A0_5 l0_5.length c0_5):=(qab BK175.out 5).trans rfl
          have hcz42_6:wr.cell? ⟨gb175,6,none⟩=some (.slice A0_6 l0_6.length c0_6):=(qab BK175.out 6).trans rfl
          have hfz42_0:=qaa BK175.out 0
          have hfz42_1:=qaa BK175.out 1
          have hfz42_2:=qaa BK175.out 2
          have hfz42_3:=qaa BK175.out 3
          have hfz42_4:=qaa BK175.out 4
          have hfz42_5:=qaa BK175.out 5
          have hfz42_6:=qaa BK175.out 6
          have p177:0≤(x5_2:Int):=of_decide_eq_true (by first|(with_reducible assumption)|assumption)
          have q177:x5_2<(l0_5.length:Int):=of_decide_eq_true (by first|(with_reducible assumption)|assumption)
          obtain⟨ad177,e177,hx177_0⟩:=Kd.at_int HR0_5.out x5_2 p177 q177
          cases e177
          replace hx177_0:=(HB.out.cell (bLt w _ hx177_0)).trans hx177_0
          replace p177:=eq_true p177
          replace q177:=eq_true q177
          have hcz43_0:wr.cell? ⟨gb176,0,none⟩=some (.int .i64 a1_0):=(qab BK176.out 0).trans rfl
          have hcz43_1:wr.cell? ⟨gb176,1,none⟩=some (.int .i64 a1_1):=(qab BK176.out 1).trans rfl
          have hcz43_2:wr.cell? ⟨gb176,2,none⟩=some (.int .i64 a1_2):=(qab BK176.out 2).trans rfl
          have hcz43_3:wr.cell? ⟨gb176,3,none⟩=some (.int .i64 a1_3):=(qab BK176.out 3).trans rfl
          have hcz43_4:wr.cell? ⟨gb176,4,none⟩=some (.int .i64 a1_4):=(qab BK176.out 4).trans rfl
          have hcz43_5:wr.cell? ⟨gb176,5,none⟩=some (.slice A1_5 l1_5.length c1_5):=(qab BK176.out 5).trans rfl
          have hcz43_6:wr.cell? ⟨gb176,6,none⟩=some (.slice A1_6 l1_6.length c1_6):=(qab BK176.out 6).trans rfl
          have hfz43_0:=qaa BK176.out 0
          have hfz43_1:=qaa BK176.out 1
          have hfz43_2:=qaa BK176.out 2
          have hfz43_3:=qaa BK176.out 3
          have hfz43_4:=qaa BK176.out 4
          have hfz43_5:=qaa BK176.out 5
          have hfz43_6:=qaa BK176.out 6
          have p178:0≤(x5_2:Int):=of_decide_eq_true (by first|(with_reducible assumption)|assumption)
          have q178:x5_2<(l1_5.length:Int):=of_decide_eq_true (by first|(with_reducible assumption)|assumption)
          obtain⟨ad178,e178,hx178_0⟩:=Kd.at_int HR1_5.out x5_2 p178 q178
          cases e178
          replace hx178_0:=(HB.out.cell (bLt w _ hx178_0)).trans hx178_0
          replace p178:=eq_true p178
          replace q178:=eq_true q178
          go_wp2
          repeat (go_quiet (fail);try go_wp2)
          go_ret
          exact⟨by first|rfl|(simp [qaq,qap]<;>rfl)|(simp [bneNil,bneNilU]<;>rfl)|(simp [*,qaq,qap]<;>rfl),by repeat (first|(with_reducible first|exact HB.out|apply qaj|apply qad|apply qai|refine qaf ?_ GE175.out|refine qaf ?_ GE176.out)|exact HB.out)⟩
        ·rw [if_neg c36] at H
         exact absurd H (by simp)
       ·rw [if_neg c35] at H
        exact absurd H (by simp)
      ·rw [if_neg c34] at H
       have c34b0:decide (x5_2<(l0_5.length:Int))=false:=decide_eq_false c34
       clear c34
       have H':=qah.mk H
       clear H
       have hnb44:=NB175_176.out
       have hnc44:=NB176_175.out
       have hcz45_0:wr.cell? ⟨gb175,0,none⟩=some (.int .i64 a0_0):=(qab BK175.out 0).trans rfl
       have hcz45_1:wr.cell? ⟨gb175,1,none⟩=some (.int .i64 a0_1):=(qab BK175.out 1).trans rfl
       have hcz45_2:wr.cell? ⟨gb175,2,none⟩=some (.int .i64 a0_2):=(qab BK175.out 2).trans rfl
       have hcz45_3:wr.cell? ⟨gb175,3,none⟩=some (.int .i64 a0_3):=(qab BK175.out 3).trans rfl
       have hcz45_4:wr.cell? ⟨gb175,4,none⟩=some (.int .i64 a0_4):=(qab BK175.out 4).trans rfl
       have hcz45_5:wr.cell? ⟨gb175,5,none⟩=some (.slice A0_5 l0_5.length c0_5):=(qab BK175.out 5).trans rfl
       have hcz45_6:wr.cell? ⟨gb175,6,none⟩=some (.slice A0_6 l0_6.length c0_6):=(qab BK175.out 6).trans rfl
       have hfz45_0:=qaa BK175.out 0
       have hfz45_1:=qaa BK175.out 1
       have hfz45_2:=qaa BK175.out 2
       have hfz45_3:=qaa BK175.out 3
       have hfz45_4:=qaa BK175.out 4
       have hfz45_5:=qaa BK175.out 5
       have hfz45_6:=qaa BK175.out 6
       go_wp2
       repeat (go_quiet (fail);try go_wp2)
       go_loopg [6] k2 (fun kq v6 w'=>∃ (x6_3:Int),v6=.int .i64 x6_3∧qah (ostinatoref05_SameTask.l1 kq x6_3 a0_0 a0_1 a0_2 a0_3 a0_4 l0_5 l0_6 a1_0 a1_1 a1_2 a1_3 a1_4 l1_5 l1_6=some r)∧qah (kq≤k2)∧qah (w'.heap[gb175]? = some (.cells #[.int .i64 a0_0,.int .i64 a0_1,.int .i64 a0_2,.int .i64 a0_3,.int .i64 a0_4,(.slice A0_5 l0_5.length c0_5),(.slice A0_6 l0_6.length c0_6)] 52 (0,0)))∧qah (w'.heap[gb176]? = some (.cells #[.int .i64 a1_0,.int .i64 a1_1,.int .i64 a1_2,.int .i64 a1_3,.int .i64 a1_4,(.slice A1_5 l1_5.length c1_5),(.slice A1_6 l1_6.length c1_6)] 52 (0,0)))∧qah (Below w.heap.size w w'))
       case atStart=>exact⟨(0),(by first|rfl|(simp;done)|(simp [*];done)),H',⟨Nat.le_refl _⟩,⟨by (with_reducible repeat (first|refine qae ?_ _|refine qag ?_|refine qac ?_ _));exact BK175.out⟩,⟨by (with_reducible repeat (first|refine qae ?_ _|refine qag ?_|refine qac ?_ _));exact BK176.out⟩,⟨by repeat (first|(with_reducible first|exact HB.out|apply qaj|apply qad|apply qai|refine qaf ?_ GE175.out|refine qaf ?_ GE176.out)|exact HB.out)⟩⟩
       case round=>
        clear H'
        try clear c1
        try clear p1
        try clear q1
        try clear hx1
        try clear c2
        try clear p2
        try clear c3
        try clear c4
        try clear c5
        try clear c6
        try clear c6b0
        try clear c6b1
        try clear p6
        try clear c7
        try clear c7b0
        try clear c7b1
        try clear c8
        try clear c8b0
        try clear c8b1
        try clear c9
        try clear c9b0
        try clear c9b1
        try clear c10
        try clear c10b0
        try clear c10b1
        try clear c11
        try clear c11b0
        try clear c11b1
        try clear c11b2
        try clear c12
        try clear c15
        try clear p17
        try clear q17
        try clear hx17
        try clear c18
        try clear c21
        try clear c24
        try clear c27
        try clear c30
        try clear c33
        try clear c34
        try clear c34b0
        try clear c35
        try clear c35b0
        try clear c36
        try clear c36b0
        try clear c37
        try clear c37b0
        try clear c37b1
        try clear c38
        try clear c41
        try clear c44
        try clear hcz13_0
        try clear hcz13_1
        try clear hcz13_2
        try clear hcz13_3
        try clear hcz13_4
        try clear hcz13_5
        try clear hcz13_6
        try clear hcz14_0
        try clear hcz14_1
        try clear hcz14_2
        try clear hcz14_3
        try clear hcz14_4
        try clear hcz14_5
        try clear hcz14_6
        try clear hcz16_0
        try clear hcz16_1
        try clear hcz16_2
        try clear hcz16_3
        try clear hcz16_4
        try clear hcz16_5
        try clear hcz16_6
        try clear hcz17_0
        try clear hcz17_1
        try clear hcz17_2
        try clear hcz17_3
        try clear hcz17_4
        try clear hcz17_5
        try clear hcz17_6
        try clear hcz19_0
        try clear hcz19_1
        try clear hcz19_2
        try clear hcz19_3
        try clear hcz19_4
        try clear hcz19_5
        try clear hcz19_6
        try clear hcz20_0
        try clear hcz20_1
        try clear hcz20_2
        try clear hcz20_3
        try clear hcz20_4
        try clear hcz20_5
        try clear hcz20_6
        try clear hcz22_0
        try clear hcz22_1
        try clear hcz22_2
        try clear hcz22_3
        try clear hcz22_4
        try clear hcz22_5
        try clear hcz22_6
        try clear hcz23_0
        try clear hcz23_1
        try clear hcz23_2
        try clear hcz23_3
        try clear hcz23_4
        try clear hcz23_5
        try clear hcz23_6
        try clear hcz25_0
        try clear hcz25_1
        try clear hcz25_2
        try clear hcz25_3
        try clear hcz25_4
        try clear hcz25_5
        try clear hcz25_6
        try clear hcz26_0
        try clear hcz26_1
        try clear hcz26_2
        try clear hcz26_3
        try clear hcz26_4
        try clear hcz26_5
        try clear hcz26_6
        try clear hcz28_0
        try clear hcz28_1
        try clear hcz28_2
        try clear hcz28_3
        try clear hcz28_4
        try clear hcz28_5
        try clear hcz28_6
        try clear hcz29_0
        try clear hcz29_1
        try clear hcz29_2
        try clear hcz29_3
        try clear hcz29_4
        try clear hcz29_5
        try clear hcz29_6
        try clear hcz31_0
        try clear hcz31_1
        try clear hcz31_2
        try clear hcz31_3
        try clear hcz31_4
        try clear hcz31_5
        try clear hcz31_6
        try clear hcz32_0
        try clear hcz32_1
        try clear hcz32_2
        try clear hcz32_3
        try clear hcz32_4
        try clear hcz32_5
        try clear hcz32_6
        try clear hcz39_0
        try clear hcz39_1
        try clear hcz39_2
        try clear hcz39_3
        try clear hcz39_4
        try clear hcz39_5
        try clear hcz39_6
        try clear hcz40_0
        try clear hcz40_1
        try clear hcz40_2
        try clear hcz40_3
        try clear hcz40_4
        try clear hcz40_5
        try clear hcz40_6
        try clear hcz42_0
        try clear hcz42_1
        try clear hcz42_2
        try clear hcz42_3
        try clear hcz42_4
        try clear hcz42_5
        try clear hcz42_6
        try clear hcz43_0
        try clear hcz43_1
        try clear hcz43_2
        try clear hcz43_3
        try clear hcz43_4
        try clear hcz43_5
        try clear hcz43_6
        try clear hcz45_0
        try clear hcz45_1
        try clear hcz45_2
        try clear hcz45_3
        try clear hcz45_4
        try clear hcz45_5
        try clear hcz45_6
        try clear hfz13_0
        try clear hfz13_1
        try clear hfz13_2
        try clear hfz13_3
        try clear hfz13_4
        try clear hfz13_5
        try clear hfz13_6
        try clear hfz14_0
        try clear hfz14_1
        try clear hfz14_2
        try clear hfz14_3
        try clear hfz14_4
        try clear hfz14_5
        try clear hfz14_6
        try clear hfz16_0
        try clear hfz16_1
        try clear hfz16_2
        try clear hfz16_3
        try clear hfz16_4
        try clear hfz16_5
        try clear hfz16_6
        try clear hfz17_0
        try clear hfz17_1
        try clear hfz17_2
        try clear hfz17_3
        try clear hfz17_4
        try clear hfz17_5
        try clear hfz17_6
        try clear hfz19_0
        try clear hfz19_1
        try clear hfz19_2
        try clear hfz19_3
        try clear hfz19_4
        try clear hfz19_5
        try clear hfz19_6
        try clear hfz20_0
        try clear hfz20_1
        try clear hfz20_2
        try clear hfz20_3
        try clear hfz20_4
        try clear hfz20_5
        try clear hfz20_6
        try clear hfz22_0
        try clear hfz22_1
        try clear hfz22_2
        try clear hfz22_3
        try clear hfz22_4
        try clear hfz22_5
        try clear hfz22_6
        try clear hfz23_0
        try clear hfz23_1
        try clear hfz23_2
        try clear hfz23_3
        try clear hfz23_4
        try clear hfz23_5
        try clear hfz23_6
        try clear hfz25_0
        try clear hfz25_1
        try clear hfz25_2
        try clear hfz25_3
        try clear hfz25_4
        try clear hfz25_5
        try clear hfz25_6
        try clear hfz26_0
        try clear hfz26_1
        try clear hfz26_2
        try clear hfz26_3
        try clear hfz26_4
        try clear hfz26_5
        try clear hfz26_6
        try clear hfz28_0
        try clear hfz28_1
        try clear hfz28_2
        try clear hfz28_3
        try clear hfz28_4
        try clear hfz28_5
        try clear hfz28_6
        try clear hfz29_0
        try clear hfz29_1
        try clear hfz29_2
        try clear hfz29_3
        try clear hfz29_4
        try clear hfz29_5
        try clear hfz29_6
        try clear hfz31_0
        try clear hfz31_1
        try clear hfz31_2
        try clear hfz31_3
        try clear hfz31_4
        try clear hfz31_5
        try clear hfz31_6
        try clear hfz32_0
        try clear hfz32_1
        try clear hfz32_2
        try clear hfz32_3
        try clear hfz32_4
        try clear hfz32_5
        try clear hfz32_6
        try clear hfz39_0
        try clear hfz39_1
        try clear hfz39_2
        try clear hfz39_3
        try clear hfz39_4
        try clear hfz39_5
        try clear hfz39_6
        try clear hfz40_0
        try clear hfz40_1
        try clear hfz40_2
        try clear hfz40_3
        try clear hfz40_4
        try clear hfz40_5
        try clear hfz40_6
        try clear hfz42_0
        try clear hfz42_1
        try clear hfz42_2
        try clear hfz42_3
        try clear hfz42_4
        try clear hfz42_5
        try clear hfz42_6
        try clear hfz43_0
        try clear hfz43_1
        try clear hfz43_2
        try clear hfz43_3
        try clear hfz43_4
        try clear hfz43_5
        try clear hfz43_6
        try clear hfz45_0
        try clear hfz45_1
        try clear hfz45_2
        try clear hfz45_3
        try clear hfz45_4
        try clear hfz45_5
        try clear hfz45_6
        try clear hx177_0
        try clear hx178_0
        try clear p177
        try clear p178
        try clear p2
        try clear q177
        try clear q178
        obtain⟨x6_3,rfl,HA,HK3,BK175,BK176,HB⟩:=hrel
        cases gk with
        |zero=>exact absurd HA.out (by simp [ostinatoref05_SameTask.l1])
        |succ k3=>
         have H:=HA.out
         clear HA
         simp only [ostinatoref05_SameTask.l1] at H
         by_cases c46:x6_3<(l0_6.length:Int)
         ·rw [if_pos c46] at H
          have c46b0:decide (x6_3<(l0_6.length:Int))=true:=decide_eq_true c46
          clear c46
          by_cases c47:0≤x6_3
          ·rw [if_pos c47] at H
           have c47b0:decide (0≤x6_3)=true:=decide_eq_true c47
           clear c47
           by_cases c48:x6_3<(l1_6.length:Int)
           ·rw [if_pos c48] at H
            have c48b0:decide (x6_3<(l1_6.length:Int))=true:=decide_eq_true c48
            clear c48
            by_cases c49:(rd l0_6 x6_3)=(rd l1_6 x6_3)
            ·rw [if_pos c49] at H
             have c49b0:((rd l0_6 x6_3) == (rd l1_6 x6_3))=true:=beq_iff_eq.mpr c49
             have c49b1:((rd l0_6 x6_3) != (rd l1_6 x6_3))=false:=bne_eq_false_iff_eq.mpr c49
             clear c49
             have H':=qah.mk H
             clear H
             have hnb50:=NB175_176.out
             have hnc50:=NB176_175.out
             have hcz51_0:wr.cell? ⟨gb175,0,none⟩=some (.int .i64 a0_0):=(qab BK175.out 0).trans rfl
             have hcz51_1:wr.cell? ⟨gb175,1,none⟩=some (.int .i64 a0_1):=(qab BK175.out 1).trans rfl
             have hcz51_2:wr.cell? ⟨gb175,2,none⟩=some (.int .i64 a0_2):=(qab BK175.out 2).trans rfl
             have hcz51_3:wr.cell? ⟨gb175,3,none⟩=some (.int .i64 a0_3):=(qab BK175.out 3).trans rfl
             have hcz51_4:wr.cell? ⟨gb175,4,none⟩=some (.int .i64 a0_4):=(qab BK175.out 4).trans rfl
             have hcz51_5:wr.cell? ⟨gb175,5,none⟩=some (.slice A0_5 l0_5.length c0_5):=(qab BK175.out 5).trans rfl
             have hcz51_6:wr.cell? ⟨gb175,6,none⟩=some (.slice A0_6 l0_6.length c0_6):=(qab BK175.out 6).trans rfl
             have hfz51_0:=qaa BK175.out 0
             have hfz51_1:=qaa BK175.out 1
             have hfz51_2:=qaa BK175.out 2
             have hfz51_3:=qaa BK175.out 3
             have hfz51_4:=qaa BK175.out 4
             have hfz51_5:=qaa BK175.out 5
             have hfz51_6:=qaa BK175.out 6
             have p179:0≤(x6_3:Int):=of_decide_eq_true (by first|(with_reducible assumption)|assumption)
             have q179:x6_3<(l0_6.length:Int):=of_decide_eq_true (by first|(with_reducible assumption)|assumption)
             obtain⟨ad179,e179,hx179_0⟩:=Kd.at_int HR0_6.out x6_3 p179 q179
             cases e179
             replace hx179_0:=(HB.out.cell (bLt w _ hx179_0)).trans hx179_0
             replace p179:=eq_true p179
             replace q179:=eq_true q179
             have hcz52_0:wr.cell? ⟨gb176,0,none⟩=some (.int .i64 a1_0):=(qab BK176.out 0).trans rfl
             have hcz52_1:wr.cell? ⟨gb176,1,none⟩=some (.int .i64 a1_1):=(qab BK176.out 1).trans rfl
             have hcz52_2:wr.cell? ⟨gb176,2,none⟩=some (.int .i64 a1_2):=(qab BK176.out 2).trans rfl
             have hcz52_3:wr.cell? ⟨gb176,3,none⟩=some (.int .i64 a1_3):=(qab BK176.out 3).trans rfl
             have hcz52_4:wr.cell? ⟨gb176,4,none⟩=some (.int .i64 a1_4):=(qab BK176.out 4).trans rfl
             have hcz52_5:wr.cell? ⟨gb176,5,none⟩=some (.slice A1_5 l1_5.length c1_5):=(qab BK176.out 5).trans rfl
             have hcz52_6:wr.cell? ⟨gb176,6,none⟩=some (.slice A1_6 l1_6.length c1_6):=(qab BK176.out 6).trans rfl
             have hfz52_0:=qaa BK176.out 0
             have hfz52_1:=qaa BK176.out 1
             have hfz52_2:=qaa BK176.out 2
             have hfz52_3:=qaa BK176.out 3
             have hfz52_4:=qaa BK176.out 4
             have hfz52_5:=qaa BK176.out 5
             have hfz52_6:=qaa BK176.out 6
             have p180:0≤(x6_3:Int):=of_decide_eq_true (by first|(with_reducible assumption)|assumption)
             have q180:x6_3<(l1_6.length:Int):=of_decide_eq_true (by first|(with_reducible assumption)|assumption)
             obtain⟨ad180,e180,hx180_0⟩:=Kd.at_int HR1_6.out x6_3 p180 q180
             cases e180
             replace hx180_0:=(HB.out.cell (bLt w _ hx180_0)).trans hx180_0
             replace p180:=eq_true p180
             replace q180:=eq_true q180
             go_wp2
             repeat (go_quiet (fail);try go_wp2)
             go_roundg k3
             case measure=>have:=HJ2.out;have:=HK2.out;have:=HK3.out;omega
             case rel=>exact⟨(wrap64 (x6_3+1)),(by first|rfl|(simp;done)|(simp [*];done)),H',⟨by have:=HJ2.out;have:=HK2.out;have:=HK3.out;omega⟩,⟨by (with_reducible repeat (first|refine qae ?_ _|refine qag ?_|refine qac ?_ _));exact BK175.out⟩,⟨by (with_reducible repeat (first|refine qae ?_ _|refine qag ?_|refine qac ?_ _));exact BK176.out⟩,⟨by repeat (first|(with_reducible first|exact HB.out|apply qaj|apply qad|apply qai|refine qaf ?_ GE175.out|refine qaf ?_ GE176.out)|exact HB.out)⟩⟩
            ·rw [if_neg c49] at H
             have c49b0:((rd l0_6 x6_3) == (rd l1_6 x6_3))=false:=beq_eq_false_iff_ne.mpr c49
             have c49b1:((rd l0_6 x6_3) != (rd l1_6 x6_3))=true:=bne_iff_ne.mpr c49
             obtain rfl:=Option.some.inj H
             have hnb53:=NB175_176.out
             have hnc53:=NB176_175.out
             have hcz54_0:wr.cell? ⟨gb175,0,none⟩=some (.int .i64 a0_0):=(qab BK175.out 0).trans rfl
             have hcz54_1:wr.cell? ⟨gb175,1,none⟩=some (.int .i64 a0_1):=(qab BK175.out 1).trans rfl
             have hcz54_2:wr.cell? ⟨gb175,2,none⟩=some (.int .i64 a0_2):=(qab BK175.out 2).trans rfl
             have hcz54_3:wr.cell? ⟨gb175,3,none⟩=some (.int .i64 a0_3):=(qab BK175.out 3).trans rfl
             have hcz54_4:wr.cell? ⟨gb175,4,none⟩=some (.int .i64 a0_4):=(qab BK175.out 4).trans rfl
             have hcz54_5:wr.cell? ⟨gb175,5,none⟩=some (.slice A0_5 l0_5.length c0_5):=(qab BK175.out 5).trans rfl
             have hcz54_6:wr.cell? ⟨gb175,6,none⟩=some (.slice A0_6 l0_6.length c0_6):=(qab BK175.out 6).trans rfl
             have hfz54_0:=qaa BK175.out 0
             have hfz54_1:=qaa BK175.out 1
             have hfz54_2:=qaa BK175.out 2
             have hfz54_3:=qaa BK175.out 3
             have hfz54_4:=qaa BK175.out 4
             have hfz54_5:=qaa BK175.out 5
             have hfz54_6:=qaa BK175.out 6
             have p179:0≤(x6_3:Int):=of_decide_eq_true (by first|(with_reducible assumption)|assumption)
             have q179:x6_3<(l0_6.length:Int):=of_decide_eq_true (by first|(with_reducible assumption)|assumption)
             obtain⟨ad179,e179,hx179_0⟩:=Kd.at_int HR0_6.out x6_3 p179 q179
             cases e179
             replace hx179_0:=(HB.out.cell (bLt w _ hx179_0)).trans hx179_0
             replace p179:=eq_true p179
             replace q179:=eq_true q179
             have hcz55_0:wr.cell? ⟨gb176,0,none⟩=some (.int .i64 a1_0):=(qab BK176.out 0).trans rfl
             have hcz55_1:wr.cell? ⟨gb176,1,none⟩=some (.int .i64 a1_1):=(qab BK176.out 1).trans rfl
             have hcz55_2:wr.cell? ⟨gb176,2,none⟩=some (.int .i64 a1_2):=(qab BK176.out 2).trans rfl
             have hcz55_3:wr.cell? ⟨gb176,3,none⟩=some (.int .i64 a1_3):=(qab BK176.out 3).trans rfl
             have hcz55_4:wr.cell? ⟨gb176,4,none⟩=some (.int .i64 a1_4):=(qab BK176.out 4).trans rfl
             have hcz55_5:wr.cell? ⟨gb176,5,none⟩=some (.slice A1_5 l1_5.length c1_5):=(qab BK176.out 5).trans rfl
             have hcz55_6:wr.cell? ⟨gb176,6,none⟩=some (.slice A1_6 l1_6.length c1_6):=(qab BK176.out 6).trans rfl
             have hfz55_0:=qaa BK176.out 0
             have hfz55_1:=qaa BK176.out 1
             have hfz55_2:=qaa BK176.out 2
             have hfz55_3:=qaa BK176.out 3
             have hfz55_4:=qaa BK176.out 4
             have hfz55_5:=qaa BK176.out 5
             have hfz55_6:=qaa BK176.out 6
             have p180:0≤(x6_3:Int):=of_decide_eq_true (by first|(with_reducible assumption)|assumption)
             have q180:x6_3<(l1_6.length:Int):=of_decide_eq_true (by first|(with_reducible assumption)|assumption)
             obtain⟨ad180,e180,hx180_0⟩:=Kd.at_int HR1_6.out x6_3 p180 q180
             cases e180
             replace hx180_0:=(HB.out.cell (bLt w _ hx180_0)).trans hx180_0
             replace p180:=eq_true p180
             replace q180:=eq_true q180
             go_wp2
             repeat (go_quiet (fail);try go_wp2)
             go_ret
             exact⟨by first|rfl|(simp [qaq,qap]<;>rfl)|(simp [bneNil,bneNilU]<;>rfl)|(simp [*,qaq,qap]<;>rfl),by repeat (first|(with_reducible first|exact HB.out|apply qaj|apply qad|apply qai|refine qaf ?_ GE175.out|refine qaf ?_ GE176.out)|exact HB.out)⟩
           ·rw [if_neg c48] at H
            exact absurd H (by simp)
          ·rw [if_neg c47] at H
           exact absurd H (by simp)
         ·rw [if_neg c46] at H
          have c46b0:decide (x6_3<(l0_6.length:Int))=false:=decide_eq_false c46
          clear c46
          obtain rfl:=Option.some.inj H
          have hnb56:=NB175_176.out
          have hnc56:=NB176_175.out
          have hcz57_0:wr.cell? ⟨gb175,0,none⟩=some (.int .i64 a0_0):=(qab BK175.out 0).trans rfl
          have hcz57_1:wr.cell? ⟨gb175,1,none⟩=some (.int .i64 a0_1):=(qab BK175.out 1).trans rfl
          have hcz57_2:wr.cell? ⟨gb175,2,none⟩=some (.int .i64 a0_2):=(qab BK175.out 2).trans rfl
          have hcz57_3:wr.cell? ⟨gb175,3,none⟩=some (.int .i64 a0_3):=(qab BK175.out 3).trans rfl
          have hcz57_4:wr.cell? ⟨gb175,4,none⟩=some (.int .i64 a0_4):=(qab BK175.out 4).trans rfl
          have hcz57_5:wr.cell? ⟨gb175,5,none⟩=some (.slice A0_5 l0_5.length c0_5):=(qab BK175.out 5).trans rfl
          have hcz57_6:wr.cell? ⟨gb175,6,none⟩=some (.slice A0_6 l0_6.length c0_6):=(qab BK175.out 6).trans rfl
          have hfz57_0:=qaa BK175.out 0
          have hfz57_1:=qaa BK175.out 1
          have hfz57_2:=qaa BK175.out 2
          have hfz57_3:=qaa BK175.out 3
          have hfz57_4:=qaa BK175.out 4
          have hfz57_5:=qaa BK175.out 5
          have hfz57_6:=qaa BK175.out 6
          go_wp2
          repeat (go_quiet (fail);try go_wp2)
          go_ret
          exact⟨by first|rfl|(simp [qaq,qap]<;>rfl)|(simp [bneNil,bneNilU]<;>rfl)|(simp [*,qaq,qap]<;>rfl),by repeat (first|(with_reducible first|exact HB.out|apply qaj|apply qad|apply qai|refine qaf ?_ GE175.out|refine qaf ?_ GE176.out)|exact HB.out)⟩
end
end Go.Proofs.YtcfknijdhmildaaDoor.PParseReads
end
section
namespace Go.Proofs.YtcfknijdhmildaaDoor.PParseReads
open Go.RowKit Go.Proofs.YtcfknijdhmildaaDoorW.PrintWords Go.Proofs.YtcfknijdhmildaaDoorW.PrintLast Go.Proofs.YtcfknijdhmildaaDoorW.PrintMore
attribute [local go_sem] max2_int min2_int max_two min_two qa7 qa6 max_four min_four
set_option linter.unusedVariables false
set_option linter.unusedSimpArgs false
noncomputable section
def ostinatoref05_SameTasks.l0:Nat→List (S52)→List (S52)→Int→Option (Bool)
 |0,_,_,_=>none
 |k+1,x0,x1,x5=>if x5<(x0.length:Int) then (if 0≤x5 then (if x5<(x1.length:Int) then ((ostinatoref05_SameTask.f k ((qal x0 x5).f0) ((qal x0 x5).f1) ((qal x0 x5).f2) ((qal x0 x5).f3) ((qal x0 x5).f4) ((qal x0 x5).f5) ((qal x0 x5).f6) ((qal x1 x5).f0) ((qal x1 x5).f1) ((qal x1 x5).f2) ((qal x1 x5).f3) ((qal x1 x5).f4) ((qal x1 x5).f5) ((qal x1 x5).f6)).bind fun t183=>(if t183=true then (ostinatoref05_SameTasks.l0 k x0 x1 (wrap64 (x5+1))) else (some false))) else (none)) else (none)) else (some true)
def ostinatoref05_SameTasks.f (k:Nat) (l0:List (S52)) (l1:List (S52)):Option (Bool):=if (l0.length:Int)=(l1.length:Int) then (ostinatoref05_SameTasks.l0 k l0 l1 0) else (some false)
def ostinatoref05_SameTasks.T6:Bool × List (List Nat × List Nat):=(true,[([],[]),([],[]),([0,1],[0,1]),([2],[2]),([],[]),([],[]),([4,5],[4,5]),([6],[6]),([3,7],[3,7]),([8,8,0,1,2,3,4,5,6,7,8],[8])])
def ostinatoref05_SameTasks.B6:List Nat:=[0,0,3,7,0,0,48,112,255,511]
theorem ostinatoref05_SameTasks.tab6:rtab .any (opsOf Tryd.f30 6)=ostinatoref05_SameTasks.T6:=by kernel_rfl
theorem ostinatoref05_SameTasks.bits6:waitsOk ostinatoref05_SameTasks.T6.2 ostinatoref05_SameTasks.B6=true:=by kernel_rfl
theorem ostinatoref05_SameTasks.calls (k:Nat) (A0:Option Addr) (c0:Nat) (l0:List (S52)) (A1:Option Addr) (c1:Nat) (l1:List (S52)) (r:Bool) (w:World) (hr0:Kd.C k52 w A0 l0.length l0) (hc0:l0.length≤c0) (hr1:Kd.C k52 w A1 l1.length l1) (hc1:l1.length≤c1) (h:ostinatoref05_SameTasks.f k l0 l1=some r) :
  Calls Tryd.prog 30 #[.slice A0 l0.length c0,.slice A1 l1.length c1] w fun e w'=>e=.returned (.bool r)∧Below w.heap.size w w':=by
 have hu52:=Tryd.underlying52
 have HR0:=qah.mk hr0
 have HC0:=qah.mk hc0
 clear hr0 hc0
 have HR1:=qah.mk hr1
 have HC1:=qah.mk hc1
 clear hr1 hc1
 have HB:=qah.mk (Below.refl w.heap.size w)
 have H:(if (l0.length:Int)=(l1.length:Int) then (ostinatoref05_SameTasks.l0 k l0 l1 0) else (some false))=some r:=h
 clear h
 by_cases c3:(l0.length:Int)=(l1.length:Int)
 ·rw [if_pos c3] at H
  have c3b0:((l0.length:Int) == (l1.length:Int))=true:=beq_iff_eq.mpr c3
  have c3b1:((l0.length:Int) != (l1.length:Int))=false:=bne_eq_false_iff_eq.mpr c3
  have c3b2:(l0.length == l1.length)=true:=by first|simpa using c3|(simp at c3 ⊢;omega)
  clear c3
  have H':=qah.mk H
  clear H
  go_enter Tryd.func30,Tryd.ntmps30
  go_wp2
  go_loopg [5] k (fun kq v5 w'=>∃ (x5_1:Int),v5=.int .i64 x5_1∧qah (ostinatoref05_SameTasks.l0 kq l0 l1 x5_1=some r)∧qah (kq≤k)∧qah (Below w.heap.size w w'))
  case atStart=>exact⟨(0),(by first|rfl|(simp;done)|(simp [*];done)),H',⟨Nat.le_refl _⟩,⟨by repeat (first|(with_reducible first|exact HB.out|apply qaj|apply qad|apply qai)|exact HB.out)⟩⟩
  case round=>
   clear H'
   try clear c1
   try clear p2
   try clear c3
   try clear c3b0
   try clear c3b1
   try clear c3b2
   obtain⟨x5_1,rfl,HA,HK1,HB⟩:=hrel
   cases gk with
   |zero=>exact absurd HA.out (by simp [ostinatoref05_SameTasks.l0])
   |succ k1=>
    have H:=HA.out
    clear HA
    simp only [ostinatoref05_SameTasks.l0] at H
    by_cases c4:x5_1<(l0.length:Int)
    ·rw [if_pos c4] at H
     have c4b0:decide (x5_1<(l0.length:Int))=true:=decide_eq_true c4
     clear c4
     by_cases c5:0≤x5_1
     ·rw [if_pos c5] at H
      have c5b0:decide (0≤x5_1)=true:=decide_eq_true c5
      clear c5
      by_cases c6:x5_1<(l1.length:Int)
      ·rw [if_pos c6] at H
       have c6b0:decide (x5_1<(l1.length:Int))=true:=decide_eq_true c6
       clear c6
       replace H:=Option.bind_eq_some_iff.mp H
       obtain⟨t183,A70,H⟩:=H
       replace H:(if t183=true then (ostinatoref05_SameTasks.l0 k1 l0 l1 (wrap64 (x5_1+1))) else (some false))=some r:=H
       have A7:=qah.mk A70
       clear A70
       by_cases c8:t183=true
       ·subst c8
        have H1:(ostinatoref05_SameTasks.l0 k1 l0 l1 (wrap64 (x5_1+1)))=some r:=by rw [if_pos rfl] at H;exact H
        clear H
        have H:=H1
        clear H1
        have H':=qah.mk H
        clear H
        try go_wp2
        have n0_:=qah.mk (qai HB.out)
        clear HB
        have HB:=n0_
        clear n0_
        have p181:0≤(x5_1:Int):=of_decide_eq_true (by first|(with_reducible assumption)|assumption)
        have q181:x5_1<(l0.length:Int):=of_decide_eq_true (by first|(with_reducible assumption)|assumption)
        obtain⟨ad181,A181_5,c181_5,A181_6,c181_6,e181,hx181_0,hx181_1,hx181_2,hx181_3,hx181_4,hx181_5,hx181_6,hl181_5,hi181_5,hl181_6,hi181_6⟩:=at_T52 HR0.out x5_1 p181 q181
        have hw181_6:=hx181_6
        have hw181_5:=hx181_5
        have hw181_4:=hx181_4
        have hw181_3:=hx181_3
        have hw181_2:=hx181_2
        have hw181_1:=hx181_1
        have hw181_0:=hx181_0
        cases e181
        replace hx181_0:=(HB.out.cell (bLt w _ hx181_0)).trans hx181_0
        replace hx181_1:=(HB.out.cell (bLt w _ hx181_1)).trans hx181_1
        replace hx181_2:=(HB.out.cell (bLt w _ hx181_2)).trans hx181_2
        replace hx181_3:=(HB.out.cell (bLt w _ hx181_3)).trans hx181_3
        replace hx181_4:=(HB.out.cell (bLt w _ hx181_4)).trans hx181_4
        replace hx181_5:=(HB.out.cell (bLt w _ hx181_5)).trans hx181_5
        replace hx181_6:=(HB.out.cell (bLt w _ hx181_6)).trans hx181_6
        have HR181_5:=qah.mk hi181_5
        have HC181_5:=qah.mk hl181_5
        clear hi181_5 hl181_5
        have HR181_6:=qah.mk hi181_6
        have HC181_6:=qah.mk hl181_6
        clear hi181_6 hl181_6
        replace p181:=eq_true p181
        replace q181:=eq_true q181
        have p182:0≤(x5_1:Int):=of_decide_eq_true (by first|(with_reducible assumption)|assumption)
        have q182:x5_1<(l1.length:Int):=of_decide_eq_true (by first|(with_reducible assumption)|assumption)
        obtain⟨ad182,A182_5,c182_5,A182_6,c182_6,e182,hx182_0,hx182_1,hx182_2,hx182_3,hx182_4,hx182_5,hx182_6,hl182_5,hi182_5,hl182_6,hi182_6⟩:=at_T52 HR1.out x5_1 p182 q182
        have hw182_6:=hx182_6
        have hw182_5:=hx182_5
        have hw182_4:=hx182_4
        have hw182_3:=hx182_3
        have hw182_2:=hx182_2
        have hw182_1:=hx182_1
        have hw182_0:=hx182_0
        cases e182
        replace hx182_0:=(HB.out.cell (bLt w _ hx182_0)).trans hx182_0
        replace hx182_1:=(HB.out.cell (bLt w _ hx182_1)).trans hx182_1
        replace hx182_2:=(HB.out.cell (bLt w _ hx182_2)).trans hx182_2
        replace hx182_3:=(HB.out.cell (bLt w _ hx182_3)).trans hx182_3
        replace hx182_4:=(HB.out.cell (bLt w _ hx182_4)).trans hx182_4
        replace hx182_5:=(HB.out.cell (bLt w _ hx182_5)).trans hx182_5
        replace hx182_6:=(HB.out.cell (bLt w _ hx182_6)).trans hx182_6
        have HR182_5:=qah.mk hi182_5
        have HC182_5:=qah.mk hl182_5
        clear hi182_5 hl182_5
        have HR182_6:=qah.mk hi182_6
        have HC182_6:=qah.mk hl182_6
        clear hi182_6 hl182_6
        replace p182:=eq_true p182
        replace q182:=eq_true q182
        refine start_ (n:=10) (S:=fun w'=>w'.cell? (ad181.add ((x5_1).toNat * 7))=some (.int .i64 ((qal l0 x5_1).f0))∧w'.cell? ⟨(ad181.add ((x5_1).toNat * 7)).block,(ad181.add ((x5_1).toNat * 7)).off+1,none⟩=some (.int .i64 ((qal l0 x5_1).f1))∧w'.cell? ⟨(ad181.add ((x5_1).toNat * 7)).block,(ad181.add ((x5_1).toNat * 7)).off+2,none⟩=some (.int .i64 ((qal l0 x5_1).f2))∧w'.cell? ⟨(ad181.add ((x5_1).toNat * 7)).block,(ad181.add ((x5_1).toNat * 7)).off+3,none⟩=some (.int .i64 ((qal l0 x5_1).f3))∧w'.cell? ⟨(ad181.add ((x5_1).toNat * 7)).block,(ad181.add ((x5_1).toNat * 7)).off+4,none⟩=some (.int .i64 ((qal l0 x5_1).f4))∧w'.cell? ⟨(ad181.add ((x5_1).toNat * 7)).block,(ad181.add ((x5_1).toNat * 7)).off+5,none⟩=some (.slice A181_5 ((qal l0 x5_1).f5).length c181_5)∧w'.cell? ⟨(ad181.add ((x5_1).toNat * 7)).block,(ad181.add ((x5_1).toNat * 7)).off+6,none⟩=some (.slice A181_6 ((qal l0 x5_1).f6).length c181_6)∧w'.cell? (ad182.add ((x5_1).toNat * 7))=some (.int .i64 ((qal l1 x5_1).f0))∧w'.cell? ⟨(ad182.add ((x5_1).toNat * 7)).block,(ad182.add ((x5_1).toNat * 7)).off+1,none⟩=some (.int .i64 ((qal l1 x5_1).f1))∧w'.cell? ⟨(ad182.add ((x5_1).toNat * 7)).block,(ad182.add ((x5_1).toNat * 7)).off+2,none⟩=some (.int .i64 ((qal l1 x5_1).f2))∧w'.cell? ⟨(ad182.add ((x5_1).toNat * 7)).block,(ad182.add ((x5_1).toNat * 7)).off+3,none⟩=some (.int .i64 ((qal l1 x5_1).f3))∧w'.cell? ⟨(ad182.add ((x5_1).toNat * 7)).block,(ad182.add ((x5_1).toNat * 7)).off+4,none⟩=some (.int .i64 ((qal l1 x5_1).f4))∧w'.cell? ⟨(ad182.add ((x5_1).toNat * 7)).block,(ad182.add ((x5_1).toNat * 7)).off+5,none⟩=some (.slice A182_5 ((qal l1 x5_1).f5).length c182_5)∧w'.cell? ⟨(ad182.add ((x5_1).toNat * 7)).block,(ad182.add ((x5_1).toNat * 7)).off+6,none⟩=some (.slice A182_6 ((qal l1 x5_1).f6).length c182_6)) (ds:=[]) #[false,false,false,false,false,false,false,false,false,false] (by kernel_rfl) rfl rfl ⟨((HB.out.cell (bLt w _ hw181_0)).trans hw181_0),((HB.out.cell (bLt w _ hw181_1)).trans hw181_1),((HB.out.cell (bLt w _ hw181_2)).trans hw181_2),((HB.out.cell (bLt w _ hw181_3)).trans hw181_3),((HB.out.cell (bLt w _ hw181_4)).trans hw181_4),((HB.out.cell (bLt w _ hw181_5)).trans hw181_5),((HB.out.cell (bLt w _ hw181_6)).trans hw181_6),((HB.out.cell (bLt w _ hw182_0)).trans hw182_0),((HB.out.cell (bLt w _ hw182_1)).trans hw182_1),((HB.out.cell (bLt w _ hw182_2)).trans hw182_2),((HB.out.cell (bLt w _ hw182_3)).trans hw182_3),((HB.out.cell (bLt w _ hw182_4)).trans hw182_4),((HB.out.cell (bLt w _ hw182_5)).trans hw182_5),((HB.out.cell (bLt w _ hw182_6)).trans hw182_6)⟩ (fun hHeld=>?_);refine qa2 ostinatoref05_SameTasks.tab6 ostinatoref05_SameTasks.bits6 (fun HT_ HW_=>?_)
        generalize wr.drew=w9 at HB HR181_5 HR181_6 HR182_5 HR182_6 hx181_0 hx181_1 hx181_2 hx181_3 hx181_4 hx181_5 hx181_6 hx182_0 hx182_1 hx182_2 hx182_3 hx182_4 hx182_5 hx182_6 hHeld ⊢
        refine qaC (i:=0) (N:=some 18) (v:=?_) (a':=?_) #[true,false,false,false,false,false,false,false,false,false] rfl rfl (qav HT_.out (by kernel_rfl)) (fun _ _ _ h=>h) (Or.inl ⟨by rfl,?_⟩) ?_ ?_
        rotate_left
        ·intro w'
         go_simp
         with_reducible rfl
        rotate_left
        ·simp only [Act.put,List.setIfInBounds_toArray,List.set_cons_zero,List.set_cons_succ,qat,qau]
         rfl
        refine qaC (i:=1) (N:=some 19) (v:=?_) (a':=?_) #[true,true,false,false,false,false,false,false,false,false] rfl rfl (qav HT_.out (by kernel_rfl)) (fun _ _ _ h=>h) (Or.inl ⟨by rfl,?_⟩) ?_ ?_
        rotate_left
        ·intro w'
         go_simp
         with_reducible rfl
        rotate_left
        ·simp only [Act.put,List.setIfInBounds_toArray,List.set_cons_zero,List.set_cons_succ,qat,qau]
         rfl
        refine qaC (i:=2) (N:=some 20) (v:=?_) (a':=?_) #[true,true,true,false,false,false,false,false,false,false] rfl rfl (qav HT_.out (by kernel_rfl)) (fun _ _ _ h=>h) (Or.inl ⟨by rfl,?_⟩) ?_ ?_
        rotate_left
        ·intro w'
         go_simp
         with_reducible rfl
        rotate_left
        ·simp only [Act.put,List.setIfInBounds_toArray,List.set_cons_zero,List.set_cons_succ,qat,qau]
         rfl
        refine qaC (i:=4) (N:=some 22) (v:=?_) (a':=?_) #[true,true,true,false,true,false,false,false,false,false] rfl rfl (qav HT_.out (by kernel_rfl)) (fun _ _ _ h=>h) (Or.inl ⟨by rfl,?_⟩) ?_ ?_
        rotate_left
        ·intro w'
         go_simp
         with_reducible rfl
        rotate_left
        ·simp only [Act.put,List.setIfInBounds_toArray,List.set_cons_zero,List.set_cons_succ,qat,qau]
         rfl
        refine qaC (i:=5) (N:=some 23) (v:=?_) (a':=?_) #[true,true,true,false,true,true,false,false,false,false] rfl rfl (qav HT_.out (by kernel_rfl)) (fun _ _ _ h=>h) (Or.inl ⟨by rfl,?_⟩) ?_ ?_
        rotate_left
        ·intro w'
         go_simp
         with_reducible rfl
        rotate_left
        ·simp only [Act.put,List.setIfInBounds_toArray,List.set_cons_zero,List.set_cons_succ,qat,qau]
         rfl
        refine qaC (i:=6) (N:=some 24) (v:=?_) (a':=?_) #[true,true,true,false,true,true,true,false,false,false] rfl rfl (qav HT_.out (by kernel_rfl)) (fun _ _ _ h=>h) (Or.inl ⟨by rfl,?_⟩) ?_ ?_
        rotate_left
        ·intro w'
         go_simp
         with_reducible rfl
        rotate_left
        ·simp only [Act.put,List.setIfInBounds_toArray,List.set_cons_zero,List.set_cons_succ,qat,qau]
         rfl
        refine qba (i:=3) (N:=some 21) (v:=?_) (a':=?_) #[true,true,true,true,true,true,true,false,false,false] rfl rfl (qaE HT_.out HW_.out (by kernel_rfl)) (fun _ _ _ h=>h) (Or.inl ⟨by rfl,?_⟩) hHeld ?_ ?_
        rotate_left
        ·rintro w' ⟨s0,s1,s2,s3,s4,s5,s6,s7,s8,s9,s10,s11,s12,s13⟩
         go_simp
         with_reducible rfl
        rotate_left
        ·simp only [Act.put,List.setIfInBounds_toArray,List.set_cons_zero,List.set_cons_succ,qat,qau]
         rfl
        refine qba (i:=7) (N:=some 25) (v:=?_) (a':=?_) #[true,true,true,true,true,true,true,true,false,false] rfl rfl (qaE HT_.out HW_.out (by kernel_rfl)) (fun _ _ _ h=>h) (Or.inl ⟨by rfl,?_⟩) hHeld ?_ ?_
        rotate_left
        ·rintro w' ⟨s0,s1,s2,s3,s4,s5,s6,s7,s8,s9,s10,s11,s12,s13⟩
         go_simp
         with_reducible rfl
        rotate_left
        ·simp only [Act.put,List.setIfInBounds_toArray,List.set_cons_zero,List.set_cons_succ,qat,qau]
         rfl
        refine one_ (i:=8) (N:=some 26) #[true,true,true,true,true,true,true,true,true,false] rfl rfl (one_of HT_.out (by kernel_rfl)) (by decide) (fun K hK=>?_)
        refine goes_ Tryd.func56 (by kernel_rfl) rfl #[.agg #[.int .i64 ((qal l0 x5_1).f0),.int .i64 ((qal l0 x5_1).f1),.int .i64 ((qal l0 x5_1).f2),.int .i64 ((qal l0 x5_1).f3),.int .i64 ((qal l0 x5_1).f4),.slice A181_5 ((qal l0 x5_1).f5).length c181_5,.slice A181_6 ((qal l0 x5_1).f6).length c181_6],.agg #[.int .i64 ((qal l1 x5_1).f0),.int .i64 ((qal l1 x5_1).f1),.int .i64 ((qal l1 x5_1).f2),.int .i64 ((qal l1 x5_1).f3),.int .i64 ((qal l1 x5_1).f4),.slice A182_5 ((qal l1 x5_1).f5).length c182_5,.slice A182_6 ((qal l1 x5_1).f6).length c182_6]] (by rfl) rfl rfl (by (try simp only [List.map_toArray,List.map_cons,List.map_nil]);first|done|rfl|(simp only [List.length_drop,List.length_take];rfl)) ?_
        with_reducible refine (ostinatoref05_SameTask.calls k1 ((qal l0 x5_1).f0) ((qal l0 x5_1).f1) ((qal l0 x5_1).f2) ((qal l0 x5_1).f3) ((qal l0 x5_1).f4) _ _ ((qal l0 x5_1).f5) _ _ ((qal l0 x5_1).f6) ((qal l1 x5_1).f0) ((qal l1 x5_1).f1) ((qal l1 x5_1).f2) ((qal l1 x5_1).f3) ((qal l1 x5_1).f4) _ _ ((qal l1 x5_1).f5) _ _ ((qal l1 x5_1).f6) true _ ?side1 ?side2 ?side3 ?side4 ?side5 ?side6 ?side7 ?side8 A7.out).mono ?_
        (case side1=>repeat (first|exact (Kd.C_below HR181_5.out HB.out)|(with_reducible refine Kd.C_alloc ?_ _)|(with_reducible refine Kd.C_drewN ?_ _)|(with_reducible refine Kd.C_drew ?_)))
        (case side2=>exact HC181_5.out)
        (case side3=>repeat (first|exact (Kd.C_below HR181_6.out HB.out)|(with_reducible refine Kd.C_alloc ?_ _)|(with_reducible refine Kd.C_drewN ?_ _)|(with_reducible refine Kd.C_drew ?_)))
        (case side4=>exact HC181_6.out)
        (case side5=>repeat (first|exact (Kd.C_below HR182_5.out HB.out)|(with_reducible refine Kd.C_alloc ?_ _)|(with_reducible refine Kd.C_drewN ?_ _)|(with_reducible refine Kd.C_drew ?_)))
        (case side6=>exact HC182_5.out)
        (case side7=>repeat (first|exact (Kd.C_below HR182_6.out HB.out)|(with_reducible refine Kd.C_alloc ?_ _)|(with_reducible refine Kd.C_drewN ?_ _)|(with_reducible refine Kd.C_drew ?_)))
        (case side8=>exact HC182_6.out)
        rintro e w10 ⟨rfl,hb⟩
        refine⟨_,rfl,?_⟩
        have n0_:=qah.mk (qaw (by repeat (first|(with_reducible first|exact HB.out|apply qaj|apply qad|apply qai)|exact HB.out)) hb)
        clear HB
        have HB:=n0_
        clear n0_
        (try clear hb)
        (try clear hb2)
        (try clear hk)
        (try clear hi)
        refine hK.out _ _ ⟨((HB.out.cell (bLt w _ hw181_0)).trans hw181_0),((HB.out.cell (bLt w _ hw181_1)).trans hw181_1),((HB.out.cell (bLt w _ hw181_2)).trans hw181_2),((HB.out.cell (bLt w _ hw181_3)).trans hw181_3),((HB.out.cell (bLt w _ hw181_4)).trans hw181_4),((HB.out.cell (bLt w _ hw181_5)).trans hw181_5),((HB.out.cell (bLt w _ hw181_6)).trans hw181_6),((HB.out.cell (bLt w _ hw182_0)).trans hw182_0),((HB.out.cell (bLt w _ hw182_1)).trans hw182_1),((HB.out.cell (bLt w _ hw182_2)).trans hw182_2),((HB.out.cell (bLt w _ hw182_3)).trans hw182_3),((HB.out.cell (bLt w _ hw182_4)).trans hw182_4),((HB.out.cell (bLt w _ hw182_5)).trans hw182_5),((HB.out.cell (bLt w _ hw182_6)).trans hw182_6)⟩ (fun hHeld=>?_)
        clear hK K
        refine norm_ (a':=?_) ?_ ?_
        rotate_left
        ·show Act.put _ (some 26) _=_
         simp only [Act.put,List.setIfInBounds_toArray,List.set_cons_zero,List.set_cons_succ,qat,qau]
         rfl
        refine qaC (i:=9) (N:=some 6) (v:=?_) (a':=?_) #[true,true,true,true,true,true,true,true,true,true] rfl rfl (qav HT_.out (by kernel_rfl)) (fun _ _ _ h=>h) (Or.inl ⟨by rfl,?_⟩) ?_ ?_
        rotate_left
        ·intro w'
         go_simp
         with_reducible rfl
        rotate_left
        ·simp only [Act.put,List.setIfInBounds_toArray,List.set_cons_zero,List.set_cons_succ,qat,qau]
         rfl
        refine done_ (done_of HT_.out (by kernel_rfl)) ?_
        try go_wp2
        go_roundg k1
        case measure=>have:=HK1.out;omega
        case rel=>exact⟨(wrap64 (x5_1+1)),(by first|rfl|(simp;done)|(simp [*];done)),H',⟨by have:=HK1.out;omega⟩,⟨by repeat (first|(with_reducible first|exact HB.out|apply qaj|apply qad|apply qai)|exact HB.out)⟩⟩
       ·replace c8:=Bool.eq_false_iff.mpr c8
        subst c8
        have H1:(some false)=some r:=by rw [if_neg (show ¬ (false=true) by decide)] at H;exact H
        clear H
        have H:=H1
        clear H1
        obtain rfl:=Option.some.inj H
        try go_wp2
        have n0_:=qah.mk (qai HB.out)
        clear HB
        have HB:=n0_
        clear n0_
        have p181:0≤(x5_1:Int):=of_decide_eq_true (by first|(with_reducible assumption)|assumption)
        have q181:x5_1<(l0.length:Int):=of_decide_eq_true (by first|(with_reducible assumption)|assumption)
        obtain⟨ad181,A181_5,c181_5,A181_6,c181_6,e181,hx181_0,hx181_1,hx181_2,hx181_3,hx181_4,hx181_5,hx181_6,hl181_5,hi181_5,hl181_6,hi181_6⟩:=at_T52 HR0.out x5_1 p181 q181
        have hw181_6:=hx181_6
        have hw181_5:=hx181_5
        have hw181_4:=hx181_4
        have hw181_3:=hx181_3
        have hw181_2:=hx181_2
        have hw181_1:=hx181_1
        have hw181_0:=hx181_0
        cases e181
        replace hx181_0:=(HB.out.cell (bLt w _ hx181_0)).trans hx181_0
        replace hx181_1:=(HB.out.cell (bLt w _ hx181_1)).trans hx181_1
        replace hx181_2:=(HB.out.cell (bLt w _ hx181_2)).trans hx181_2
        replace hx181_3:=(HB.out.cell (bLt w _ hx181_3)).trans hx181_3
        replace hx181_4:=(HB.out.cell (bLt w _ hx181_4)).trans hx181_4
        replace hx181_5:=(HB.out.cell (bLt w _ hx181_5)).trans hx181_5
        replace hx181_6:=(HB.out.cell (bLt w _ hx181_6)).trans hx181_6
        have HR181_5:=qah.mk hi181_5
        have HC181_5:=qah.mk hl181_5
        clear hi181_5 hl181_5
        have HR181_6:=qah.mk hi181_6
        have HC181_6:=qah.mk hl181_6
        clear hi181_6 hl181_6
        replace p181:=eq_true p181
        replace q181:=eq_true q181
        have p182:0≤(x5_1:Int):=of_decide_eq_true (by first|(with_reducible assumption)|assumption)
        have q182:x5_1<(l1.length:Int):=of_decide_eq_true (by first|(with_reducible assumption)|assumption)
        obtain⟨ad182,A182_5,c182_5,A182_6,c182_6,e182,hx182_0,hx182_1,hx182_2,hx182_3,hx182_4,hx182_5,hx182_6,hl182_5,hi182_5,hl182_6,hi182_6⟩:=at_T52 HR1.out x5_1 p182 q182
        have hw182_6:=hx182_6
        have hw182_5:=hx182_5
        have hw182_4:=hx182_4
        have hw182_3:=hx182_3
        have hw182_2:=hx182_2
        have hw182_1:=hx182_1
        have hw182_0:=hx182_0
        cases e182
        replace hx182_0:=(HB.out.cell (bLt w _ hx182_0)).trans hx182_0
        replace hx182_1:=(HB.out.cell (bLt w _ hx182_1)).trans hx182_1
        replace hx182_2:=(HB.out.cell (bLt w _ hx182_2)).trans hx182_2
        replace hx182_3:=(HB.out.cell (bLt w _ hx182_3)).trans hx182_3
        replace hx182_4:=(HB.out.cell (bLt w _ hx182_4)).trans hx182_4
        replace hx182_5:=(HB.out.cell (bLt w _ hx182_5)).trans hx182_5
        replace hx182_6:=(HB.out.cell (bLt w _ hx182_6)).trans hx182_6
        have HR182_5:=qah.mk hi182_5
        have HC182_5:=qah.mk hl182_5
        clear hi182_5 hl182_5
        have HR182_6:=qah.mk hi182_6
        have HC182_6:=qah.mk hl182_6
        clear hi182_6 hl182_6
        replace p182:=eq_true p182
        replace q182:=eq_true q182
        refine start_ (n:=10) (S:=fun w'=>w'.cell? (ad181.add ((x5_1).toNat * 7))=some (.int .i64 ((qal l0 x5_1).f0))∧w'.cell? ⟨(ad181.add ((x5_1).toNat * 7)).block,(ad181.add ((x5_1).toNat * 7)).off+1,none⟩=some (.int .i64 ((qal l0 x5_1).f1))∧w'.cell? ⟨(ad181.add ((x5_1).toNat * 7)).block,(ad181.add ((x5_1).toNat * 7)).off+2,none⟩=some (.int .i64 ((qal l0 x5_1).f2))∧w'.cell? ⟨(ad181.add ((x5_1).toNat * 7)).block,(ad181.add ((x5_1).toNat * 7)).off+3,none⟩=some (.int .i64 ((qal l0 x5_1).f3))∧w'.cell? ⟨(ad181.add ((x5_1).toNat * 7)).block,(ad181.add ((x5_1).toNat * 7)).off+4,none⟩=some (.int .i64 ((qal l0 x5_1).f4))∧w'.cell? ⟨(ad181.add ((x5_1).toNat * 7)).block,(ad181.add ((x5_1).toNat * 7)).off+5,none⟩=some (.slice A181_5 ((qal l0 x5_1).f5).length c181_5)∧w'.cell? ⟨(ad181.add ((x5_1).toNat * 7)).block,(ad181.add ((x5_1).toNat * 7)).off+6,none⟩=some (.slice A181_6 ((qal l0 x5_1).f6).length c181_6)∧w'.cell? (ad182.add ((x5_1).toNat * 7))=some (.int .i64 ((qal l1 x5_1).f0))∧w'.cell? ⟨(ad182.add ((x5_1).toNat * 7)).block,(ad182.add ((x5_1).toNat * 7)).off+1,none⟩=some (.int .i64 ((qal l1 x5_1).f1))∧w'.cell? ⟨(ad182.add ((x5_1).toNat * 7)).block,(ad182.add ((x5_1).toNat * 7)).off+2,none⟩=some (.int .i64 ((qal l1 x5_1).f2))∧w'.cell? ⟨(ad182.add ((x5_1).toNat * 7)).block,(ad182.add ((x5_1).toNat * 7)).off+3,none⟩=some (.int .i64 ((qal l1 x5_1).f3))∧w'.cell? ⟨(ad182.add ((x5_1).toNat * 7)).block,(ad182.add ((x5_1).toNat * 7)).off+4,none⟩=some (.int .i64 ((qal l1 x5_1).f4))∧w'.cell? ⟨(ad182.add ((x5_1).toNat * 7)).block,(ad182.add ((x5_1).toNat * 7)).off+5,none⟩=some (.slice A182_5 ((qal l1 x5_1).f5).length c182_5)∧w'.cell? ⟨(ad182.add ((x5_1).toNat * 7)).block,(ad182.add ((x5_1).toNat * 7)).off+6,none⟩=some (.slice A182_6 ((qal l1 x5_1).f6).length c182_6)) (ds:=[]) #[false,false,false,false,false,false,false,false,false,false] (by kernel_rfl) rfl rfl ⟨((HB.out.cell (bLt w _ hw181_0)).trans hw181_0),((HB.out.cell (bLt w _ hw181_1)).trans hw181_1),((HB.out.cell (bLt w _ hw181_2)).trans hw181_2),((HB.out.cell (bLt w _ hw181_3)).trans hw181_3),((HB.out.cell (bLt w _ hw181_4)).trans hw181_4),((HB.out.cell (bLt w _ hw181_5)).trans hw181_5),((HB.out.cell (bLt w _ hw181_6)).trans hw181_6),((HB.out.cell (bLt w _ hw182_0)).trans hw182_0),((HB.out.cell (bLt w _ hw182_1)).trans hw182_1),((HB.out.cell (bLt w _ hw182_2)).trans hw182_2),((HB.out.cell (bLt w _ hw182_3)).trans hw182_3),((HB.out.cell (bLt w _ hw182_4)).trans hw182_4),((HB.out.cell (bLt w _ hw182_5)).trans hw182_5),((HB.out.cell (bLt w _ hw182_6)).trans hw182_6)⟩ (fun hHeld=>?_);refine qa2 ostinatoref05_SameTasks.tab6 ostinatoref05_SameTasks.bits6 (fun HT_ HW_=>?_)
        generalize wr.drew=w11 at HB HR181_5 HR181_6 HR182_5 HR182_6 hx181_0 hx181_1 hx181_2 hx181_3 hx181_4 hx181_5 hx181_6 hx182_0 hx182_1 hx182_2 hx182_3 hx182_4 hx182_5 hx182_6 hHeld ⊢
        refine qaC (i:=0) (N:=some 18) (v:=?_) (a':=?_) #[true,false,false,false,false,false,false,false,false,false] rfl rfl (qav HT_.out (by kernel_rfl)) (fun _ _ _ h=>h) (Or.inl ⟨by rfl,?_⟩) ?_ ?_
        rotate_left
        ·intro w'
         go_simp
         with_reducible rfl
        rotate_left
        ·simp only [Act.put,List.setIfInBounds_toArray,List.set_cons_zero,List.set_cons_succ,qat,qau]
         rfl
        refine qaC (i:=1) (N:=some 19) (v:=?_) (a':=?_) #[true,true,false,false,false,false,false,false,false,false] rfl rfl (qav HT_.out (by kernel_rfl)) (fun _ _ _ h=>h) (Or.inl ⟨by rfl,?_⟩) ?_ ?_
        rotate_left
        ·intro w'
         go_simp
         with_reducible rfl
        rotate_left
        ·simp only [Act.put,List.setIfInBounds_toArray,List.set_cons_zero,List.set_cons_succ,qat,qau]
         rfl
        refine qaC (i:=2) (N:=some 20) (v:=?_) (a':=?_) #[true,true,true,false,false,false,false,false,false,false] rfl rfl (qav HT_.out (by kernel_rfl)) (fun _ _ _ h=>h) (Or.inl ⟨by rfl,?_⟩) ?_ ?_
        rotate_left
        ·intro w'
         go_simp
         with_reducible rfl
        rotate_left
        ·simp only [Act.put,List.setIfInBounds_toArray,List.set_cons_zero,List.set_cons_succ,qat,qau]
         rfl
        refine qaC (i:=4) (N:=some 22) (v:=?_) (a':=?_) #[true,true,true,false,true,false,false,false,false,false] rfl rfl (qav HT_.out (by kernel_rfl)) (fun _ _ _ h=>h) (Or.inl ⟨by rfl,?_⟩) ?_ ?_
        rotate_left
        ·intro w'
         go_simp
         with_reducible rfl
        rotate_left
        ·simp only [Act.put,List.setIfInBounds_toArray,List.set_cons_zero,List.set_cons_succ,qat,qau]
         rfl
        refine qaC (i:=5) (N:=some 23) (v:=?_) (a':=?_) #[true,true,true,false,true,true,false,false,false,false] rfl rfl (qav HT_.out (by kernel_rfl)) (fun _ _ _ h=>h) (Or.inl ⟨by rfl,?_⟩) ?_ ?_
        rotate_left
        ·intro w'
         go_simp
         with_reducible rfl
        rotate_left
        ·simp only [Act.put,List.setIfInBounds_toArray,List.set_cons_zero,List.set_cons_succ,qat,qau]
         rfl
        refine qaC (i:=6) (N:=some 24) (v:=?_) (a':=?_) #[true,true,true,false,true,true,true,false,false,false] rfl rfl (qav HT_.out (by kernel_rfl)) (fun _ _ _ h=>h) (Or.inl ⟨by rfl,?_⟩) ?_ ?_
        rotate_left
        ·intro w'
         go_simp
         with_reducible rfl
        rotate_left
        ·simp only [Act.put,List.setIfInBounds_toArray,List.set_cons_zero,List.set_cons_succ,qat,qau]
         rfl
        refine qba (i:=3) (N:=some 21) (v:=?_) (a':=?_) #[true,true,true,true,true,true,true,false,false,false] rfl rfl (qaE HT_.out HW_.out (by kernel_rfl)) (fun _ _ _ h=>h) (Or.inl ⟨by rfl,?_⟩) hHeld ?_ ?_
        rotate_left
        ·rintro w' ⟨s0,s1,s2,s3,s4,s5,s6,s7,s8,s9,s10,s11,s12,s13⟩
         go_simp
         with_reducible rfl
        rotate_left
        ·simp only [Act.put,List.setIfInBounds_toArray,List.set_cons_zero,List.set_cons_succ,qat,qau]
         rfl
        refine qba (i:=7) (N:=some 25) (v:=?_) (a':=?_) #[true,true,true,true,true,true,true,true,false,false] rfl rfl (qaE HT_.out HW_.out (by kernel_rfl)) (fun _ _ _ h=>h) (Or.inl ⟨by rfl,?_⟩) hHeld ?_ ?_
        rotate_left
        ·rintro w' ⟨s0,s1,s2,s3,s4,s5,s6,s7,s8,s9,s10,s11,s12,s13⟩
         go_simp
         with_reducible rfl
        rotate_left
        ·simp only [Act.put,List.setIfInBounds_toArray,List.set_cons_zero,List.set_cons_succ,qat,qau]
         rfl
        refine one_ (i:=8) (N:=some 26) #[true,true,true,true,true,true,true,true,true,false] rfl rfl (one_of HT_.out (by kernel_rfl)) (by decide) (fun K hK=>?_)
        refine goes_ Tryd.func56 (by kernel_rfl) rfl #[.agg #[.int .i64 ((qal l0 x5_1).f0),.int .i64 ((qal l0 x5_1).f1),.int .i64 ((qal l0 x5_1).f2),.int .i64 ((qal l0 x5_1).f3),.int .i64 ((qal l0 x5_1).f4),.slice A181_5 ((qal l0 x5_1).f5).length c181_5,.slice A181_6 ((qal l0 x5_1).f6).length c181_6],.agg #[.int .i64 ((qal l1 x5_1).f0),.int .i64 ((qal l1 x5_1).f1),.int .i64 ((qal l1 x5_1).f2),.int .i64 ((qal l1 x5_1).f3),.int .i64 ((qal l1 x5_1).f4),.slice A182_5 ((qal l1 x5_1).f5).length c182_5,.slice A182_6 ((qal l1 x5_1).f6).length c182_6]] (by rfl) rfl rfl (by (try simp only [List.map_toArray,List.map_cons,List.map_nil]);first|done|rfl|(simp only [List.length_drop,List.length_take];rfl)) ?_
        with_reducible refine (ostinatoref05_SameTask.calls k1 ((qal l0 x5_1).f0) ((qal l0 x5_1).f1) ((qal l0 x5_1).f2) ((qal l0 x5_1).f3) ((qal l0 x5_1).f4) _ _ ((qal l0 x5_1).f5) _ _ ((qal l0 x5_1).f6) ((qal l1 x5_1).f0) ((qal l1 x5_1).f1) ((qal l1 x5_1).f2) ((qal l1 x5_1).f3) ((qal l1 x5_1).f4) _ _ ((qal l1 x5_1).f5) _ _ ((qal l1 x5_1).f6) false _ ?side1 ?side2 ?side3 ?side4 ?side5 ?side6 ?side7 ?side8 A7.out).mono ?_
        (case side1=>repeat (first|exact (Kd.C_below HR181_5.out HB.out)|(with_reducible refine Kd.C_alloc ?_ _)|(with_reducible refine Kd.C_drewN ?_ _)|(with_reducible refine Kd.C_drew ?_)))
        (case side2=>exact HC181_5.out)
        (case side3=>repeat (first|exact (Kd.C_below HR181_6.out HB.out)|(with_reducible refine Kd.C_alloc ?_ _)|(with_reducible refine Kd.C_drewN ?_ _)|(with_reducible refine Kd.C_drew ?_)))
        (case side4=>exact HC181_6.out)
        (case side5=>repeat (first|exact (Kd.C_below HR182_5.out HB.out)|(with_reducible refine Kd.C_alloc ?_ _)|(with_reducible refine Kd.C_drewN ?_ _)|(with_reducible refine Kd.C_drew ?_)))
        (case side6=>exact HC182_5.out)
        (case side7=>repeat (first|exact (Kd.C_below HR182_6.out HB.out)|(with_reducible refine Kd.C_alloc ?_ _)|(with_reducible refine Kd.C_drewN ?_ _)|(with_reducible refine Kd.C_drew ?_)))
        (case side8=>exact HC182_6.out)
        rintro e w12 ⟨rfl,hb⟩
        refine⟨_,rfl,?_⟩
        have n0_:=qah.mk (qaw (by repeat (first|(with_reducible first|exact HB.out|apply qaj|apply qad|apply qai)|exact HB.out)) hb)
        clear HB
        have HB:=n0_
        clear n0_
        (try clear hb)
        (try clear hb2)
        (try clear hk)
        (try clear hi)
        refine hK.out _ _ ⟨((HB.out.cell (bLt w _ hw181_0)).trans hw181_0),((HB.out.cell (bLt w _ hw181_1)).trans hw181_1),((HB.out.cell (bLt w _ hw181_2)).trans hw181_2),((HB.out.cell (bLt w _ hw181_3)).trans hw181_3),((HB.out.cell (bLt w _ hw181_4)).trans hw181_4),((HB.out.cell (bLt w _ hw181_5)).trans hw181_5),((HB.out.cell (bLt w _ hw181_6)).trans hw181_6),((HB.out.cell (bLt w _ hw182_0)).trans hw182_0),((HB.out.cell (bLt w _ hw182_1)).trans hw182_1),((HB.out.cell (bLt w _ hw182_2)).trans hw182_2),((HB.out.cell (bLt w _ hw182_3)).trans hw182_3),((HB.out.cell (bLt w _ hw182_4)).trans hw182_4),((HB.out.cell (bLt w _ hw182_5)).trans hw182_5),((HB.out.cell (bLt w _ hw182_6)).trans hw182_6)⟩ (fun hHeld=>?_)
        clear hK K
        refine norm_ (a':=?_) ?_ ?_
        rotate_left
        ·show Act.put _ (some 26) _=_
         simp only [Act.put,List.setIfInBounds_toArray,List.set_cons_zero,List.set_cons_succ,qat,qau]
         rfl
        refine qaC (i:=9) (N:=some 6) (v:=?_) (a':=?_) #[true,true,true,true,true,true,true,true,true,true] rfl rfl (qav HT_.out (by kernel_rfl)) (fun _ _ _ h=>h) (Or.inl ⟨by rfl,?_⟩) ?_ ?_
        rotate_left
        ·intro w'
         go_simp
         with_reducible rfl
        rotate_left
        ·simp only [Act.put,List.setIfInBounds_toArray,List.set_cons_zero,List.set_cons_succ,qat,qau]
         rfl
        refine done_ (done_of HT_.out (by kernel_rfl)) ?_
        try go_wp2
        go_ret
        exact⟨by first|rfl|(simp [qaq,qap]<;>rfl)|(simp [bneNil,bneNilU]<;>rfl)|(simp [*,qaq,qap]<;>rfl),by repeat (first|(with_reducible first|exact HB.out|apply qaj|apply qad|apply qai)|exact HB.out)⟩
      ·rw [if_neg c6] at H
       exact absurd H (by simp)
     ·rw [if_neg c5] at H
      exact absurd H (by simp)
    ·rw [if_neg c4] at H
     have c4b0:decide (x5_1<(l0.length:Int))=false:=decide_eq_false c4
     clear c4
     obtain rfl:=Option.some.inj H
     go_wp2
     go_ret
     exact⟨by first|rfl|(simp [qaq,qap]<;>rfl)|(simp [bneNil,bneNilU]<;>rfl)|(simp [*,qaq,qap]<;>rfl),by repeat (first|(with_reducible first|exact HB.out|apply qaj|apply qad|apply qai)|exact HB.out)⟩
 ·rw [if_neg c3] at H
  have c3b0:((l0.length:Int) == (l1.length:Int))=false:=beq_eq_false_iff_ne.mpr c3
  have c3b1:((l0.length:Int) != (l1.length:Int))=true:=bne_iff_ne.mpr c3
  have c3b2:(l0.length == l1.length)=false:=by first|simpa using c3|(simp at c3 ⊢;omega)
  obtain rfl:=Option.some.inj H
  go_enter Tryd.func30,Tryd.ntmps30
  go_wp2
  go_ret
  exact⟨by first|rfl|(simp [qaq,qap]<;>rfl)|(simp [bneNil,bneNilU]<;>rfl)|(simp [*,qaq,qap]<;>rfl),by repeat (first|(with_reducible first|exact HB.out|apply qaj|apply qad|apply qai)|exact HB.out)⟩
def ostinatoref05_Same.f (k:Nat) (a0_0:Int) (a0_1:Int) (l0_2:List (S52)) (a1_0:Int) (a1_1:Int) (l1_2:List (S52)):Option (Bool):=(ostinatoref05_SameTasks.f k l0_2 l1_2).bind fun t186=>(if t186=true then (if a0_0=a1_0 then (some (a0_1 == a1_1)) else (some false)) else (some false))
theorem ostinatoref05_Same.calls (k:Nat) (a0_0:Int) (a0_1:Int) (A0_2:Option Addr) (c0_2:Nat) (l0_2:List (S52)) (a1_0:Int) (a1_1:Int) (A1_2:Option Addr) (c1_2:Nat) (l1_2:List (S52)) (r:Bool) (w:World) (hr0_2:Kd.C k52 w A0_2 l0_2.length l0_2) (hc0_2:l0_2.length≤c0_2) (hr1_2:Kd.C k52 w A1_2 l1_2.length l1_2) (hc1_2:l1_2.length≤c1_2) (h:ostinatoref05_Same.f k a0_0 a0_1 l0_2 a1_0 a1_1 l1_2=some r) :
  Calls Tryd.prog 14 #[.agg #[.int .i64 a0_0,.int .i64 a0_1,.slice A0_2 l0_2.length c0_2],.agg #[.int .i64 a1_0,.int .i64 a1_1,.slice A1_2 l1_2.length c1_2]] w fun e w'=>e=.returned (.bool r)∧Below w.heap.size w w':=by
 have hu32:=Tryd.underlying32
 have HR0_2:=qah.mk hr0_2
 have HC0_2:=qah.mk hc0_2
 clear hr0_2 hc0_2
 have HR1_2:=qah.mk hr1_2
 have HC1_2:=qah.mk hc1_2
 clear hr1_2 hc1_2
 have HB:=qah.mk (Below.refl w.heap.size w)
 have H:((ostinatoref05_SameTasks.f k l0_2 l1_2).bind fun t186=>(if t186=true then (if a0_0=a1_0 then (some (a0_1 == a1_1)) else (some false)) else (some false)))=some r:=h
 clear h
 replace H:=Option.bind_eq_some_iff.mp H
 obtain⟨t186,A30,H⟩:=H
 replace H:(if t186=true then (if a0_0=a1_0 then (some (a0_1 == a1_1)) else (some false)) else (some false))=some r:=H
 have A3:=qah.mk A30
 clear A30
 by_cases c4:t186=true
 ·subst c4
  have H1:(if a0_0=a1_0 then (some (a0_1 == a1_1)) else (some false))=some r:=by rw [if_pos rfl] at H;exact H
  clear H
  have H:=H1
  clear H1
  by_cases c5:a0_0=a1_0
  ·rw [if_pos c5] at H
   have c5b0:(a0_0 == a1_0)=true:=beq_iff_eq.mpr c5
   have c5b1:(a0_0 != a1_0)=false:=bne_eq_false_iff_eq.mpr c5
   clear c5
   obtain rfl:=Option.some.inj H
   go_enter Tryd.func14,Tryd.ntmps14
   go_wp2_with (first|((with_reducible refine qaJ (N:=2) rfl ?_);refine qaG ?hg (N:=2) ?hd (cs:=#[.int .i64 a0_0,.int .i64 a0_1,.slice A0_2 l0_2.length c0_2]) (t:=32) ?hr ?_;(case hd=>rfl);(case hg=>rfl);(case hr=>first|(go_simp;done)|(go_simp;rfl));intro gb184 hg w6 hbox hb;have n0_:=qah.mk (qaw (by repeat (first|(with_reducible first|exact HB.out|apply qaj|apply qad|apply qai)|exact HB.out)) hb);have n1_:=qah.mk (hbox);have n2_:=qah.mk ((by rw [hg];exact (qao (by repeat (first|(with_reducible first|exact HB.out|apply qaj|apply qad|apply qai)|exact HB.out))):w.heap.size≤gb184));have n3_:=qah.mk ((by rw [hg];exact (qao (by repeat (first|(with_reducible first|exact HB.out|apply qaj|apply qad|apply qai)|exact HB.out))):w.heap.size≤gb184));clear HB;have HB:=n0_;have BK184:=n1_;have GW184:=n2_;have GE184:=n3_;clear n0_ n1_ n2_ n3_;clear hb hbox hg)|((with_reducible refine qaJ (N:=3) rfl ?_);refine qaG ?hg (N:=3) ?hd (cs:=#[.int .i64 a1_0,.int .i64 a1_1,.slice A1_2 l1_2.length c1_2]) (t:=32) ?hr ?_;(case hd=>rfl);(case hg=>rfl);(case hr=>first|(go_simp;done)|(go_simp;rfl));intro gb185 hg w7 hbox hb;have n0_:=qah.mk (qax (g:=gb184) (o:=.cells #[.int .i64 a0_0,.int .i64 a0_1,.slice A0_2 l0_2.length c0_2] 32 (0,0)) (by (with_reducible repeat (first|refine qae ?_ _|refine qag ?_|refine qac ?_ _));exact BK184.out) hb);have n1_:=qah.mk (qaw (by repeat (first|(with_reducible first|exact HB.out|apply qaj|apply qad|apply qai|refine qaf ?_ GE184.out)|exact HB.out)) hb);have n2_:=qah.mk (hbox);have n3_:=qah.mk ((by rw [hg];exact (qao (by repeat (first|(with_reducible first|exact HB.out|apply qaj|apply qad|apply qai|refine qaf ?_ GE184.out)|exact HB.out))):w.heap.size≤gb185));have n4_:=qah.mk ((by rw [hg];exact (qao (by repeat (first|(with_reducible first|exact HB.out|apply qaj|apply qad|apply qai|refine qaf ?_ GE184.out)|exact HB.out))):w.heap.size≤gb185));have n5_:=qah.mk ((by rw [hg];exact Nat.ne_of_lt (qaH (g:=gb184) (o:=.cells #[.int .i64 a0_0,.int .i64 a0_1,.slice A0_2 l0_2.length c0_2] 32 (0,0)) (by (with_reducible repeat (first|refine qae ?_ _|refine qag ?_|refine qac ?_ _));exact BK184.out)):gb184≠gb185));have n6_:=qah.mk ((by rw [hg];exact Nat.ne_of_gt (qaH (g:=gb184) (o:=.cells #[.int .i64 a0_0,.int .i64 a0_1,.slice A0_2 l0_2.length c0_2] 32 (0,0)) (by (with_reducible repeat (first|refine qae ?_ _|refine qag ?_|refine qac ?_ _));exact BK184.out)):gb185≠gb184));clear BK184;clear HB;have BK184:=n0_;have HB:=n1_;have BK185:=n2_;have GW185:=n3_;have GE185:=n4_;have NB184_185:=n5_;have NB185_184:=n6_;clear n0_ n1_ n2_ n3_ n4_ n5_ n6_;clear hb hbox hg;have hnb8:=NB184_185.out;have hnc8:=NB185_184.out;have hcz9_0:w7.cell? ⟨gb184,0,none⟩=some (.int .i64 a0_0):=(qab BK184.out 0).trans rfl;have hcz9_1:w7.cell? ⟨gb184,1,none⟩=some (.int .i64 a0_1):=(qab BK184.out 1).trans rfl;have hcz9_2:w7.cell? ⟨gb184,2,none⟩=some (.slice A0_2 l0_2.length c0_2):=(qab BK184.out 2).trans rfl;have hfz9_0:=qaa BK184.out 0;have hfz9_1:=qaa BK184.out 1;have hfz9_2:=qaa BK184.out 2;have hcz10_0:w7.cell? ⟨gb185,0,none⟩=some (.int .i64 a1_0):=(qab BK185.out 0).trans rfl;have hcz10_1:w7.cell? ⟨gb185,1,none⟩=some (.int .i64 a1_1):=(qab BK185.out 1).trans rfl;have hcz10_2:w7.cell? ⟨gb185,2,none⟩=some (.slice A1_2 l1_2.length c1_2):=(qab BK185.out 2).trans rfl;have hfz10_0:=qaa BK185.out 0;have hfz10_1:=qaa BK185.out 1;have hfz10_2:=qaa BK185.out 2)|((with_reducible refine qa8 (f:=30) rfl ?_);refine goesL_ (some 10) rfl rfl Tryd.func30 (by kernel_rfl) rfl #[.slice A0_2 l0_2.length c0_2,.slice A1_2 l1_2.length c1_2] rfl (by (try simp only [List.map_toArray,List.map_cons,List.map_nil]);first|done|rfl|(simp only [List.length_drop,List.length_take];rfl)) ?_;(with_reducible refine (ostinatoref05_SameTasks.calls k _ _ l0_2 _ _ l1_2 true _ ?side1 ?side2 ?side3 ?side4 A3.out).mono ?_);(case side1=>repeat (first|exact (Kd.C_below HR0_2.out HB.out)|(with_reducible refine Kd.C_alloc ?_ _)|(with_reducible refine Kd.C_drewN ?_ _)|(with_reducible refine Kd.C_drew ?_)));(case side2=>exact HC0_2.out);(case side3=>repeat (first|exact (Kd.C_below HR1_2.out HB.out)|(with_reducible refine Kd.C_alloc ?_ _)|(with_reducible refine Kd.C_drewN ?_ _)|(with_reducible refine Kd.C_drew ?_)));(case side4=>exact HC1_2.out);rintro e w11 ⟨rfl,hb⟩;refine⟨_,rfl,?_⟩;have n0_:=qah.mk (qax (g:=gb184) (o:=.cells #[.int .i64 a0_0,.int .i64 a0_1,.slice A0_2 l0_2.length c0_2] 32 (0,0)) (by (with_reducible repeat (first|refine qae ?_ _|refine qag ?_|refine qac ?_ _));exact BK184.out) hb);have n1_:=qah.mk (qax (g:=gb185) (o:=.cells #[.int .i64 a1_0,.int .i64 a1_1,.slice A1_2 l1_2.length c1_2] 32 (0,0)) (by (with_reducible repeat (first|refine qae ?_ _|refine qag ?_|refine qac ?_ _));exact BK185.out) hb);have n2_:=qah.mk (qaw (by repeat (first|(with_reducible first|exact HB.out|apply qaj|apply qad|apply qai|refine qaf ?_ GE184.out|refine qaf ?_ GE185.out)|exact HB.out)) hb);clear BK184;clear BK185;clear HB;have BK184:=n0_;have BK185:=n1_;have HB:=n2_;clear n0_ n1_ n2_;(try clear hb);(try clear hb2);(try clear hk);(try clear hi);have hcz12_0:w11.cell? ⟨gb184,0,none⟩=some (.int .i64 a0_0):=(qab BK184.out 0).trans rfl;have hcz12_1:w11.cell? ⟨gb184,1,none⟩=some (.int .i64 a0_1):=(qab BK184.out 1).trans rfl;have hcz12_2:w11.cell? ⟨gb184,2,none⟩=some (.slice A0_2 l0_2.length c0_2):=(qab BK184.out 2).trans rfl;have hfz12_0:=qaa BK184.out 0;have hfz12_1:=qaa BK184.out 1;have hfz12_2:=qaa BK184.out 2;have hcz13_0:w11.cell? ⟨gb185,0,none⟩=some (.int .i64 a1_0):=(qab BK185.out 0).trans rfl;have hcz13_1:w11.cell? ⟨gb185,1,none⟩=some (.int .i64 a1_1):=(qab BK185.out 1).trans rfl;have hcz13_2:w11.cell? ⟨gb185,2,none⟩=some (.slice A1_2 l1_2.length c1_2):=(qab BK185.out 2).trans rfl;have hfz13_0:=qaa BK185.out 0;have hfz13_1:=qaa BK185.out 1;have hfz13_2:=qaa BK185.out 2))
   go_ret
   exact⟨by first|rfl|(simp [qaq,qap]<;>rfl)|(simp [bneNil,bneNilU]<;>rfl)|(simp [*,qaq,qap]<;>rfl),by repeat (first|(with_reducible first|exact HB.out|apply qaj|apply qad|apply qai|refine qaf ?_ GE184.out|refine qaf ?_ GE185.out)|exact HB.out)⟩
  ·rw [if_neg c5] at H
   have c5b0:(a0_0 == a1_0)=false:=beq_eq_false_iff_ne.mpr c5
   have c5b1:(a0_0 != a1_0)=true:=bne_iff_ne.mpr c5
   obtain rfl:=Option.some.inj H
   go_enter Tryd.func14,Tryd.ntmps14
   go_wp2_with (first|((with_reducible refine qaJ (N:=2) rfl ?_);refine qaG ?hg (N:=2) ?hd (cs:=#[.int .i64 a0_0,.int .i64 a0_1,.slice A0_2 l0_2.length c0_2]) (t:=32) ?hr ?_;(case hd=>rfl);(case hg=>rfl);(case hr=>first|(go_simp;done)|(go_simp;rfl));intro gb184 hg w14 hbox hb;have n0_:=qah.mk (qaw (by repeat (first|(with_reducible first|exact HB.out|apply qaj|apply qad|apply qai)|exact HB.out)) hb);have n1_:=qah.mk (hbox);have n2_:=qah.mk ((by rw [hg];exact (qao (by repeat (first|(with_reducible first|exact HB.out|apply qaj|apply qad|apply qai)|exact HB.out))):w.heap.size≤gb184));have n3_:=qah.mk ((by rw [hg];exact (qao (by repeat (first|(with_reducible first|exact HB.out|apply qaj|apply qad|apply qai)|exact HB.out))):w.heap.size≤gb184));clear HB;have HB:=n0_;have BK184:=n1_;have GW184:=n2_;have GE184:=n3_;clear n0_ n1_ n2_ n3_;clear hb hbox hg)|((with_reducible refine qaJ (N:=3) rfl ?_);refine qaG ?hg (N:=3) ?hd (cs:=#[.int .i64 a1_0,.int .i64 a1_1,.slice A1_2 l1_2.length c1_2]) (t:=32) ?hr ?_;(case hd=>rfl);(case hg=>rfl);(case hr=>first|(go_simp;done)|(go_simp;rfl));intro gb185 hg w15 hbox hb;have n0_:=qah.mk (qax (g:=gb184) (o:=.cells #[.int .i64 a0_0,.int .i64 a0_1,.slice A0_2 l0_2.length c0_2] 32 (0,0)) (by (with_reducible repeat (first|refine qae ?_ _|refine qag ?_|refine qac ?_ _));exact BK184.out) hb);have n1_:=qah.mk (qaw (by repeat (first|(with_reducible first|exact HB.out|apply qaj|apply qad|apply qai|refine qaf ?_ GE184.out)|exact HB.out)) hb);have n2_:=qah.mk (hbox);have n3_:=qah.mk ((by rw [hg];exact (qao (by repeat (first|(with_reducible first|exact HB.out|apply qaj|apply qad|apply qai|refine qaf ?_ GE184.out)|exact HB.out))):w.heap.size≤gb185));have n4_:=qah.mk ((by rw [hg];exact (qao (by repeat (first|(with_reducible first|exact HB.out|apply qaj|apply qad|apply qai|refine qaf ?_ GE184.out)|exact HB.out))):w.heap.size≤gb185));have n5_:=qah.mk ((by rw [hg];exact Nat.ne_of_lt (qaH (g:=gb184) (o:=.cells #[.int .i64 a0_0,.int .i64 a0_1,.slice A0_2 l0_2.length c0_2] 32 (0,0)) (by (with_reducible repeat (first|refine qae ?_ _|refine qag ?_|refine qac ?_ _));exact BK184.out)):gb184≠gb185));have n6_:=qah.mk ((by rw [hg];exact Nat.ne_of_gt (qaH (g:=gb184) (o:=.cells #[.int .i64 a0_0,.int .i64 a0_1,.slice A0_2 l0_2.length c0_2] 32 (0,0)) (by (with_reducible repeat (first|refine qae ?_ _|refine qag ?_|refine qac ?_ _));exact BK184.out)):gb185≠gb184));clear BK184;clear HB;have BK184:=n0_;have HB:=n1_;have BK185:=n2_;have GW185:=n3_;have GE185:=n4_;have NB184_185:=n5_;have NB185_184:=n6_;clear n0_ n1_ n2_ n3_ n4_ n5_ n6_;clear hb hbox hg;have hnb16:=NB184_185.out;have hnc16:=NB185_184.out;have hcz17_0:w15.cell? ⟨gb184,0,none⟩=some (.int .i64 a0_0):=(qab BK184.out 0).trans rfl;have hcz17_1:w15.cell? ⟨gb184,1,none⟩=some (.int .i64 a0_1):=(qab BK184.out 1).trans rfl;have hcz17_2:w15.cell? ⟨gb184,2,none⟩=some (.slice A0_2 l0_2.length c0_2):=(qab BK184.out 2).trans rfl;have hfz17_0:=qaa BK184.out 0;have hfz17_1:=qaa BK184.out 1;have hfz17_2:=qaa BK184.out 2;have hcz18_0:w15.cell? ⟨gb185,0,none⟩=some (.int .i64 a1_0):=(qab BK185.out 0).trans rfl;have hcz18_1:w15.cell? ⟨gb185,1,none⟩=some (.int .i64 a1_1):=(qab BK185.out 1).trans rfl;have hcz18_2:w15.cell? ⟨gb185,2,none⟩=some (.slice A1_2 l1_2.length c1_2):=(qab BK185.out 2).trans rfl;have hfz18_0:=qaa BK185.out 0;have hfz18_1:=qaa BK185.out 1;have hfz18_2:=qaa BK185.out 2)|((with_reducible refine qa8 (f:=30) rfl ?_);refine goesL_ (some 10) rfl rfl Tryd.func30 (by kernel_rfl) rfl #[.slice A0_2 l0_2.length c0_2,.slice A1_2 l1_2.length c1_2] rfl (by (try simp only [List.map_toArray,List.map_cons,List.map_nil]);first|done|rfl|(simp only [List.length_drop,List.length_take];rfl)) ?_;(with_reducible refine (ostinatoref05_SameTasks.calls k _ _ l0_2 _ _ l1_2 true _ ?side1 ?side2 ?side3 ?side4 A3.out).mono ?_);(case side1=>repeat (first|exact (Kd.C_below HR0_2.out HB.out)|(with_reducible refine Kd.C_alloc ?_ _)|(with_reducible refine Kd.C_drewN ?_ _)|(with_reducible refine Kd.C_drew ?_)));(case side2=>exact HC0_2.out);(case side3=>repeat (first|exact (Kd.C_below HR1_2.out HB.out)|(with_reducible refine Kd.C_alloc ?_ _)|(with_reducible refine Kd.C_drewN ?_ _)|(with_reducible refine Kd.C_drew ?_)));(case side4=>exact HC1_2.out);rintro e w19 ⟨rfl,hb⟩;refine⟨_,rfl,?_⟩;have n0_:=qah.mk (qax (g:=gb184) (o:=.cells #[.int .i64 a0_0,.int .i64 a0_1,.slice A0_2 l0_2.length c0_2] 32 (0,0)) (by (with_reducible repeat (first|refine qae ?_ _|refine qag ?_|refine qac ?_ _));exact BK184.out) hb);have n1_:=qah.mk (qax (g:=gb185) (o:=.cells #[.int .i64 a1_0,.int .i64 a1_1,.slice A1_2 l1_2.length c1_2] 32 (0,0)) (by (with_reducible repeat (first|refine qae ?_ _|refine qag ?_|refine qac ?_ _));exact BK185.out) hb);have n2_:=qah.mk (qaw (by repeat (first|(with_reducible first|exact HB.out|apply qaj|apply qad|apply qai|refine qaf ?_ GE184.out|refine qaf ?_ GE185.out)|exact HB.out)) hb);clear BK184;clear BK185;clear HB;have BK184:=n0_;have BK185:=n1_;have HB:=n2_;clear n0_ n1_ n2_;(try clear hb);(try clear hb2);(try clear hk);(try clear hi);have hcz20_0:w19.cell? ⟨gb184,0,none⟩=some (.int .i64 a0_0):=(qab BK184.out 0).trans rfl;have hcz20_1:w19.cell? ⟨gb184,1,none⟩=some (.int .i64 a0_1):=(qab BK184.out 1).trans rfl;have hcz20_2:w19.cell? ⟨gb184,2,none⟩=some (.slice A0_2 l0_2.length c0_2):=(qab BK184.out 2).trans rfl;have hfz20_0:=qaa BK184.out 0;have hfz20_1:=qaa BK184.out 1;have hfz20_2:=qaa BK184.out 2;have hcz21_0:w19.cell? ⟨gb185,0,none⟩=some (.int .i64 a1_0):=(qab BK185.out 0).trans rfl;have hcz21_1:w19.cell? ⟨gb185,1,none⟩=some (.int .i64 a1_1):=(qab BK185.out 1).trans rfl;have hcz21_2:w19.cell? ⟨gb185,2,none⟩=some (.slice A1_2 l1_2.length c1_2):=(qab BK185.out 2).trans rfl;have hfz21_0:=qaa BK185.out 0;have hfz21_1:=qaa BK185.out 1;have hfz21_2:=qaa BK185.out 2))
   go_ret
   exact⟨by first|rfl|(simp [qaq,qap]<;>rfl)|(simp [bneNil,bneNilU]<;>rfl)|(simp [*,qaq,qap]<;>rfl),by repeat (first|(with_reducible first|exact HB.out|apply qaj|apply qad|apply qai|refine qaf ?_ GE184.out|refine qaf ?_ GE185.out)|exact HB.out)⟩
 ·replace c4:=Bool.eq_false_iff.mpr c4
  subst c4
  have H1:(some false)=some r:=by rw [if_neg (show ¬ (false=true) by decide)] at H;exact H
  clear H
  have H:=H1
  clear H1
  obtain rfl:=Option.some.inj H
  go_enter Tryd.func14,Tryd.ntmps14
  go_wp2_with (first|((with_reducible refine qaJ (N:=2) rfl ?_);refine qaG ?hg (N:=2) ?hd (cs:=#[.int .i64 a0_0,.int .i64 a0_1,.slice A0_2 l0_2.length c0_2]) (t:=32) ?hr ?_;(case hd=>rfl);(case hg=>rfl);(case hr=>first|(go_simp;done)|(go_simp;rfl));intro gb184 hg w22 hbox hb;have n0_:=qah.mk (qaw (by repeat (first|(with_reducible first|exact HB.out|apply qaj|apply qad|apply qai)|exact HB.out)) hb);have n1_:=qah.mk (hbox);have n2_:=qah.mk ((by rw [hg];exact (qao (by repeat (first|(with_reducible first|exact HB.out|apply qaj|apply qad|apply qai)|exact HB.out))):w.heap.size≤gb184));have n3_:=qah.mk ((by rw [hg];exact (qao (by repeat (first|(with_reducible first|exact HB.out|apply qaj|apply qad|apply qai)|exact HB.out))):w.heap.size≤gb184));clear HB;have HB:=n0_;have BK184:=n1_;have GW184:=n2_;have GE184:=n3_;clear n0_ n1_ n2_ n3_;clear hb hbox hg)|((with_reducible refine qaJ (N:=3) rfl ?_);refine qaG ?hg (N:=3) ?hd (cs:=#[.int .i64 a1_0,.int .i64 a1_1,.slice A1_2 l1_2.length c1_2]) (t:=32) ?hr ?_;(case hd=>rfl);(case hg=>rfl);(case hr=>first|(go_simp;done)|(go_simp;rfl));intro gb185 hg w23 hbox hb;have n0_:=qah.mk (qax (g:=gb184) (o:=.cells #[.int .i64 a0_0,.int .i64 a0_1,.slice A0_2 l0_2.length c0_2] 32 (0,0)) (by (with_reducible repeat (first|refine qae ?_ _|refine qag ?_|refine qac ?_ _));exact BK184.out) hb);have n1_:=qah.mk (qaw (by repeat (first|(with_reducible first|exact HB.out|apply qaj|apply qad|apply qai|refine qaf ?_ GE184.out)|exact HB.out)) hb);have n2_:=qah.mk (hbox);have n3_:=qah.mk ((by rw [hg];exact (qao (by repeat (first|(with_reducible first|exact HB.out|apply qaj|apply qad|apply qai|refine qaf ?_ GE184.out)|exact HB.out))):w.heap.size≤gb185));have n4_:=qah.mk ((by rw [hg];exact (qao (by repeat (first|(with_reducible first|exact HB.out|apply qaj|apply qad|apply qai|refine qaf ?_ GE184.out)|exact HB.out))):w.heap.size≤gb185));have n5_:=qah.mk ((by rw [hg];exact Nat.ne_of_lt (qaH (g:=gb184) (o:=.cells #[.int .i64 a0_0,.int .i64 a0_1,.slice A0_2 l0_2.length c0_2] 32 (0,0)) (by (with_reducible repeat (first|refine qae ?_ _|refine qag ?_|refine qac ?_ _));exact BK184.out)):gb184≠gb185));have n6_:=qah.mk ((by rw [hg];exact Nat.ne_of_gt (qaH (g:=gb184) (o:=.cells #[.int .i64 a0_0,.int .i64 a0_1,.slice A0_2 l0_2.length c0_2] 32 (0,0)) (by (with_reducible repeat (first|refine qae ?_ _|refine qag ?_|refine qac ?_ _));exact BK184.out)):gb185≠gb184));clear BK184;clear HB;have BK184:=n0_;have HB:=n1_;have BK185:=n2_;have GW185:=n3_;have GE185:=n4_;have NB184_185:=n5_;have NB185_184:=n6_;clear n0_ n1_ n2_ n3_ n4_ n5_ n6_;clear hb hbox hg;have hnb24:=NB184_185.out;have hnc24:=NB185_184.out;have hcz25_0:w23.cell? ⟨gb184,0,none⟩=some (.int .i64 a0_0):=(qab BK184.out 0).trans rfl;have hcz25_1:w23.cell? ⟨gb184,1,none⟩=some (.int .i64 a0_1):=(qab BK184.out 1).trans rfl;have hcz25_2:w23.cell? ⟨gb184,2,none⟩=some (.slice A0_2 l0_2.length c0_2):=(qab BK184.out 2).trans rfl;have hfz25_0:=qaa BK184.out 0;have hfz25_1:=qaa BK184.out 1;have hfz25_2:=qaa BK184.out 2;have hcz26_0:w23.cell? ⟨gb185,0,none⟩=some (.int .i64 a1_0):=(qab BK185.out 0).trans rfl;have hcz26_1:w23.cell? ⟨gb185,1,none⟩=some (.int .i64 a1_1):=(qab BK185.out 1).trans rfl;have hcz26_2:w23.cell? ⟨gb185,2,none⟩=some (.slice A1_2 l1_2.length c1_2):=(qab BK185.out 2).trans rfl;have hfz26_0:=qaa BK185.out 0;have hfz26_1:=qaa BK185.out 1;have hfz26_2:=qaa BK185.out 2)|((with_reducible refine qa8 (f:=30) rfl ?_);refine goesL_ (some 10) rfl rfl Tryd.func30 (by kernel_rfl) rfl #[.slice A0_2 l0_2.length c0_2,.slice A1_2 l1_2.length c1_2] rfl (by (try simp only [List.map_toArray,List.map_cons,List.map_nil]);first|done|rfl|(simp only [List.length_drop,List.length_take];rfl)) ?_;(with_reducible refine (ostinatoref05_SameTasks.calls k _ _ l0_2 _ _ l1_2 false _ ?side1 ?side2 ?side3 ?side4 A3.out).mono ?_);(case side1=>repeat (first|exact (Kd.C_below HR0_2.out HB.out)|(with_reducible refine Kd.C_alloc ?_ _)|(with_reducible refine Kd.C_drewN ?_ _)|(with_reducible refine Kd.C_drew ?_)));(case side2=>exact HC0_2.out);(case side3=>repeat (first|exact (Kd.C_below HR1_2.out HB.out)|(with_reducible refine Kd.C_alloc ?_ _)|(with_reducible refine Kd.C_drewN ?_ _)|(with_reducible refine Kd.C_drew ?_)));(case side4=>exact HC1_2.out);rintro e w27 ⟨rfl,hb⟩;refine⟨_,rfl,?_⟩;have n0_:=qah.mk (qax (g:=gb184) (o:=.cells #[.int .i64 a0_0,.int .i64 a0_1,.slice A0_2 l0_2.length c0_2] 32 (0,0)) (by (with_reducible repeat (first|refine qae ?_ _|refine qag ?_|refine qac ?_ _));exact BK184.out) hb);have n1_:=qah.mk (qax (g:=gb185) (o:=.cells #[.int .i64 a1_0,.int .i64 a1_1,.slice A1_2 l1_2.length c1_2] 32 (0,0)) (by (with_reducible repeat (first|refine qae ?_ _|refine qag ?_|refine qac ?_ _));exact BK185.out) hb);have n2_:=qah.mk (qaw (by repeat (first|(with_reducible first|exact HB.out|apply qaj|apply qad|apply qai|refine qaf ?_ GE184.out|refine qaf ?_ GE185.out)|exact HB.out)) hb);clear BK184;clear BK185;clear HB;have BK184:=n0_;have BK185:=n1_;have HB:=n2_;clear n0_ n1_ n2_;(try clear hb);(try clear hb2);(try clear hk);(try clear hi)))
  go_ret
  exact⟨by first|rfl|(simp [qaq,qap]<;>rfl)|(simp [bneNil,bneNilU]<;>rfl)|(simp [*,qaq,qap]<;>rfl),by repeat (first|(with_reducible first|exact HB.out|apply qaj|apply qad|apply qai|refine qaf ?_ GE184.out|refine qaf ?_ GE185.out)|exact HB.out)⟩
end
end Go.Proofs.YtcfknijdhmildaaDoor.PParseReads
end
section
namespace Go.Proofs.YtcfknijdhmildaaDoor
open Go.RowKit
theorem countP_lt {p q:Nat→Bool}:∀ {l:List Nat} {i:Nat},i ∈ l→p i=true→q i=false→(∀ j,q j=true→p j=true)→l.countP q<l.countP p:=by
 intro l
 induction l with
 |nil=>intro i h;cases h
 |cons a l ih=>
  intro i hi hp hq hqp
  rw [List.countP_cons,List.countP_cons]
  have hle:∀ m:List Nat,m.countP q≤m.countP p:=fun m=>List.countP_mono_left (fun x _ h=>hqp x h)
  rcases List.mem_cons.1 hi with rfl|hi
  ·have:=hle l
   simp [hp,hq]
   omega
  ·have:=ih hi hp hq hqp
   by_cases ha:q a=true
   ·simp [ha,hqp a ha];omega
   ·simp [ha];omega
def unl (n:Nat) (listed:Array Bool):Nat:=(List.range n).countP fun j=>!listed.getD j true
theorem unl_set {n i:Nat} {listed:Array Bool} (hi:i<n) (h:listed.getD i true=false):unl n (listed.setIfInBounds i true)<unl n listed:=by
 have hsz:i<listed.size:=by
  rcases Nat.lt_or_ge i listed.size with h1|h1
  ·exact h1
  ·rw [gDe,Array.getElem?_eq_none h1] at h;cases h
 unfold unl
 refine countP_lt (i:=i) (List.mem_range.2 hi) (by simp [h]) ?_ ?_
 ·simp [gDe,hsz]
 ·intro j hj
  by_cases e:i=j
  ·subst e
   simp [gDe,hsz] at hj
  ·simpa [gDe,Array.getElem?_setIfInBounds,e] using hj
section
variable {P:Program} {md:Region.Mode} {ops:Array Oper} {Q:Exit→Act→World→Prop}
theorem ready_mem {listed:Array Bool} {i:Nat} (h:i ∈ Region.ready md ops listed):∃ o,ops[i]? = some o∧listed.getD i true=false∧∀ e ∈ o.after,Region.binds md e=true→listed.getD e.on false=true:=by
 unfold Region.ready at h
 rw [List.mem_filter,List.mem_range] at h
 obtain⟨hi,h⟩:=h
 rw [Array.getElem?_eq_getElem hi] at h
 simp only [Option.map_some,Option.getD_some,Bool.and_eq_true] at h
 refine⟨ops[i],Array.getElem?_eq_getElem hi,by simpa using h.1,fun e he hb=>?_⟩
 have:=(Array.all_eq_true_iff_forall_mem.1 h.2) e he
 simpa [hb] using this
theorem none_ready (hac:∀ (i:Nat) o,ops[i]? = some o→∀ e ∈ o.after,e.on<i) {listed:Array Bool} (hs:listed.size=ops.size) (h:Region.ready md ops listed=[]):∀ i,i<ops.size→listed.getD i false=true:=by
 intro i
 induction i using Nat.strongRecOn with
 |ind i ih=>
  intro hi
  by_cases hl:listed.getD i false=true
  ·exact hl
  ·exfalso
   have hm:i ∈ Region.ready md ops listed:=by
    unfold Region.ready
    rw [List.mem_filter,List.mem_range]
    refine⟨hi,?_⟩
    have hli:i<listed.size:=by omega
    have hf:listed[i]=false:=by
     rw [gDe,Array.getElem?_eq_getElem hli] at hl
     simpa using hl
    rw [Array.getElem?_eq_getElem hi]
    simp only [Option.map_some,Option.getD_some,Bool.and_eq_true]
    refine⟨by rw [gDe,Array.getElem?_eq_getElem hli];simp [hf],?_⟩
    rw [Array.all_eq_true_iff_forall_mem]
    intro e he
    have h1:=hac i ops[i] (Array.getElem?_eq_getElem hi) e he
    rw [ih e.on h1 (by omega)]
    simp
   rw [h] at hm
   cases hm
theorem any_inv (hac:∀ (i:Nat) o,ops[i]? = some o→∀ e ∈ o.after,e.on<i) (I:Array Bool→Act→World→Prop)
  (hstep:∀ i o listed a w,ops[i]? = some o→listed.size=ops.size→listed.getD i true=false→(∀ e ∈ o.after,Region.binds md e=true→listed.getD e.on false=true)→I listed a w→wpOp P ops Q i (I (listed.setIfInBounds i true)) a w)
  (hend:∀ listed a w,(∀ i,i<ops.size→listed.getD i false=true)→I listed a w→Q .normal a w) :
  ∀ (fuel:Nat) (listed:Array Bool) (a:Act) (w:World),listed.size=ops.size→unl ops.size listed≤fuel→I listed a w→wpAny P md ops Q fuel listed a w:=by
 intro fuel
 induction fuel with
 |zero=>
  intro listed a w hs hf hI
  have hr:Region.ready md ops listed=[]:=by
   cases hr:Region.ready md ops listed with
   |nil=>rfl
   |cons i r=>
    exfalso
    obtain⟨o,ho,hl,_⟩:=ready_mem (i:=i) (md:=md) (ops:=ops) (listed:=listed) (by rw [hr];exact List.mem_cons_self)
    have:=unl_set (n:=ops.size) (Array.getElem?_eq_some_iff.1 ho).1 hl
    omega
  exact⟨hr,hend listed a w (none_ready hac hs hr) hI⟩
 |succ fuel ih=>
  intro listed a w hs hf hI
  refine⟨fun hr=>hend listed a w (none_ready hac hs hr) hI,fun i hi=>?_⟩
  obtain⟨o,ho,hl,hd⟩:=ready_mem hi
  refine wpOp_mono (fun a' w' h'=>?_) (hstep i o listed a w ho hs hl hd hI)
  have:=unl_set (n:=ops.size) (Array.getElem?_eq_some_iff.1 ho).1 hl
  exact ih _ a' w' (by simp [hs]) (by omega) h'
end
def tidyB (N:Nat) (ops:Array Oper):Bool:=
 (List.range ops.size).all fun i=>match ops[i]? with
  |none=>true
  |some o=>o.guard.isNone && o.after.all (fun e=>decide (e.on<i)) && (match o.dst with
   |none=>true
   |some d=>decide (d<N) && (List.range i).all fun j=>match ops[j]? with
    |none=>true
    |some oj=>oj.dst != some d)
theorem tidy_at {N:Nat} {ops:Array Oper} (h:tidyB N ops=true) {i:Nat} {o:Oper} (ho:ops[i]? = some o) :
  o.guard=none∧(∀ e ∈ o.after,e.on<i)∧∀ d,o.dst=some d→d<N∧∀ (j:Nat) oj,j<i→ops[j]? = some oj→oj.dst≠some d:=by
 have hi:=(Array.getElem?_eq_some_iff.1 ho).1
 have h1:=List.all_eq_true.1 h i (List.mem_range.2 hi)
 rw [ho] at h1
 simp only [Bool.and_eq_true] at h1
 obtain⟨⟨h2,h3⟩,h4⟩:=h1
 refine⟨by simpa using h2,fun e he=>by simpa using (Array.all_eq_true_iff_forall_mem.1 h3) e he,fun d hd=>?_⟩
 rw [hd] at h4
 simp only [Bool.and_eq_true] at h4
 refine⟨by simpa using h4.1,fun j oj hj hoj e=>?_⟩
 have h5:=List.all_eq_true.1 h4.2 j (List.mem_range.2 hj)
 rw [hoj] at h5
 simp [e] at h5
theorem tidy_one {N:Nat} {ops:Array Oper} (h:tidyB N ops=true) {i j d:Nat} {o oj:Oper} (ho:ops[i]? = some o) (hoj:ops[j]? = some oj) (hd:o.dst=some d) (hdj:oj.dst=some d):i=j:=by
 rcases Nat.lt_trichotomy i j with h1|h1|h1
 ·exact absurd hd (((tidy_at h hoj).2.2 d hdj).2 i o h1 ho)
 ·exact h1
 ·exact absurd hdj (((tidy_at h ho).2.2 d hd).2 j oj h1 hoj)
theorem qak {ops:Array Oper} {d:Nat} (h:(ops.all fun o=>o.dst != some d)=true):∀ (j:Nat) oj,ops[j]? = some oj→oj.dst≠some d:=by
 intro j oj hj e
 obtain⟨hi,rfl⟩:=Array.getElem?_eq_some_iff.1 hj
 have:=(Array.all_eq_true.1 h) j hi
 rw [e] at this
 simp at this
theorem wp_region_facts {P:Program} {ops:Array Oper} {Q:Exit→Act→World→Prop} {id:Nat} {a0:Act} {w0:World} (hm:P.follows .mixedOrders=true) (ht:tidyB a0.tmps.size ops=true)
  (F:Nat→Value→World→Prop) (Kp:World→World→Prop) (hF:∀ i v w w',F i v w→Kp w w'→F i v w') (G:World→Prop) (hG:G w0.drew)
  (hstep:∀ (i:Nat) (o:Oper) (a:Act) (w:World),ops[i]? = some o→a.tmps.size=a0.tmps.size→(∀ d,(∀ (j:Nat) oj,ops[j]? = some oj→oj.dst≠some d)→a.tmps[d]? = a0.tmps[d]?) →
   (∀ e ∈ o.after,Region.binds .any e=true→∀ oe d,ops[e.on]? = some oe→oe.dst=some d→∃ v,a.tmps[d]? = some v∧F e.on v w)→G w →
   o.wp P a w (fun a' w'=>∃ v,a' = a.put o.dst v∧F i v w'∧Kp w w'∧G w') Q)
  (hend:∀ (a:Act) (w:World),a.defers=a0.defers→a.tmps.size=a0.tmps.size→(∀ d,(∀ (j:Nat) oj,ops[j]? = some oj→oj.dst≠some d)→a.tmps[d]? = a0.tmps[d]?) →
   (∀ (i:Nat) o d,ops[i]? = some o→o.dst=some d→∃ v,a.tmps[d]? = some v∧F i v w)→G w→Q .normal a w) :
  (Code.region id ops true).wp P Q a0 w0:=by
 refine wp_region_any hm ?_
 refine any_inv (fun i o ho=>(tidy_at ht ho).2.1) (fun listed a w=>a.defers=a0.defers∧a.tmps.size=a0.tmps.size∧(∀ d,(∀ (j:Nat) oj,ops[j]? = some oj→oj.dst≠some d)→a.tmps[d]? = a0.tmps[d]?) ∧
  (∀ (i:Nat) o d,ops[i]? = some o→o.dst=some d→listed.getD i false=true→∃ v,a.tmps[d]? = some v∧F i v w)∧G w) ?_ ?_ _ _ _ _ (by simp) ?_ ⟨rfl,rfl,fun _ _=>rfl,?_,hG⟩
 ·rintro i o listed a w ho hsz hl hd ⟨i1,i2,i3,i4,i5⟩
  obtain⟨g1,g2,g3⟩:=tidy_at ht ho
  have hil:i<listed.size:=by rw [hsz];exact (Array.getElem?_eq_some_iff.1 ho).1
  have hw:Region.wanted o (yielded ops a.tmps)=true:=by simp [Region.wanted,g1]
  unfold wpOp
  rw [ho]
  simp only [hw,if_true]
  refine .inl (Oper.wp_mono ?_ (hstep i o a w ho i2 i3 (fun e he hb oe d hoe hde=>i4 e.on oe d hoe hde (hd e he hb)) i5))
  rintro a' w' ⟨v,rfl,k1,k2,k3⟩
  cases hdst:o.dst with
  |none=>
   refine⟨i1,i2,i3,fun j oj d hoj hdj hlj=>?_,k3⟩
   have hji:j≠i:=fun e=>by subst e;rw [ho] at hoj;cases hoj;rw [hdst] at hdj;cases hdj
   obtain⟨u,u1,u2⟩:=i4 j oj d hoj hdj (by simpa [gDe,Array.getElem?_setIfInBounds,Ne.symm hji] using hlj)
   exact⟨u,u1,hF _ _ _ _ u2 k2⟩
  |some d0=>
   have hd0:=(g3 d0 hdst).1
   have hput:(a.put (some d0) v).tmps=a.tmps.setIfInBounds d0 v:=rfl
   refine⟨i1,by rw [hput];simp [i2],fun d hn=>?_,fun j oj d hoj hdj hlj=>?_,k3⟩
   ·rw [hput,Array.getElem?_setIfInBounds]
    have:d0≠d:=fun e=>hn i o ho (by rw [hdst,e])
    rw [if_neg this]
    exact i3 d hn
   ·rw [hput,Array.getElem?_setIfInBounds]
    by_cases hji:j=i
    ·subst hji
     rw [ho] at hoj
     cases hoj
     rw [hdst] at hdj
     cases hdj
     rw [if_pos rfl,if_pos (by rw [i2];exact hd0)]
     exact⟨v,rfl,k1⟩
    ·have hdd:d0≠d:=fun e=>hji (tidy_one ht hoj ho hdj (by rw [hdst,e]))
     rw [if_neg hdd]
     obtain⟨u,u1,u2⟩:=i4 j oj d hoj hdj (by simpa [gDe,Array.getElem?_setIfInBounds,Ne.symm hji] using hlj)
     exact⟨u,u1,hF _ _ _ _ u2 k2⟩
 ·rintro listed a w hall ⟨i1,i2,i3,i4,i5⟩
  exact hend a w i1 i2 i3 (fun i o d ho hd=>i4 i o d ho hd (hall i (Array.getElem?_eq_some_iff.1 ho).1)) i5
 ·exact Nat.le_trans List.countP_le_length (by simp)
 ·intro i o d _ _ h
  exfalso
  rw [gDe,Array.getElem?_replicate] at h
  split at h<;>simp at h
end Go.Proofs.YtcfknijdhmildaaDoor
end
