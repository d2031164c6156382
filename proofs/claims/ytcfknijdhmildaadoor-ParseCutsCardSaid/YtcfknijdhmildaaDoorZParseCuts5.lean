/- Texts of this claim, one behind the other: PParseCuts6. -/
import Derived.Test.YtcfknijdhmildaaDoorZParseCuts3
import Derived.Test.YtcfknijdhmildaaDoorZParseCuts4

set_option maxHeartbeats 8000000
set_option maxRecDepth 100000
set_option linter.unusedVariables false
set_option linter.unusedSimpArgs false
section
namespace Go.Proofs.YtcfknijdhmildaaDoor.PParseCuts
open Go.RowKit Go.Proofs.YtcfknijdhmildaaDoorW.PrintWords Go.Proofs.YtcfknijdhmildaaDoorW.PrintLast Go.Proofs.YtcfknijdhmildaaDoorW.PrintMore
attribute [local go_sem] max2_int min2_int max_two min_two max_three min_three max_four min_four
set_option linter.unusedVariables false
set_option linter.unusedSimpArgs false
noncomputable section
mutual
def ostinatoref05_Check.j0:Nat→Bool→Int→Int→List (S52)→Option (Int)
 |0,_,_,_,_=>none
 |k+1,x29,x169000,x169001,x169002=>if x29=true then (some 1) else (if (x169002.length:Int) > 64 then (some 15) else (ostinatoref05_Check.l0 k 0 x169000 x169001 x169002))
def ostinatoref05_Check.l0:Nat→Int→Int→Int→List (S52)→Option (Int)
 |0,_,_,_,_=>none
 |k+1,x3,x169000,x169001,x169002=>if x3<(x169002.length:Int) then (if 0≤x3 then ((ostinatoref05_Right.f k ((qar x169002 x3).f0) ((qar x169002 x3).f1) ((qar x169002 x3).f2) ((qar x169002 x3).f3) ((qar x169002 x3).f4) ((qar x169002 x3).f5) ((qar x169002 x3).f6) x169000).bind fun t170=>(if t170=0 then (if x3 > 0 then (if 0≤(wrap64 (x3 - 1)) then (if (wrap64 (x3 - 1))<(x169002.length:Int) then (ostinatoref05_Check.j2 k x3 (decide (((qar x169002 x3).f0)≤((qar x169002 (wrap64 (x3 - 1))).f0))) x169000 x169001 x169002) else (none)) else (none)) else (ostinatoref05_Check.j2 k x3 false x169000 x169001 x169002)) else (some t170))) else (none)) else (some 0)
def ostinatoref05_Check.j2:Nat→Int→Bool→Int→Int→List (S52)→Option (Int)
 |0,_,_,_,_,_=>none
 |k+1,x3,x69,x169000,x169001,x169002=>if x69=true then (some 10) else (ostinatoref05_Check.l1 k x3 0 x169000 x169001 x169002)
def ostinatoref05_Check.l1:Nat→Int→Int→Int→Int→List (S52)→Option (Int)
 |0,_,_,_,_,_=>none
 |k+1,x3,x5,x169000,x169001,x169002=>if x5<x3 then (if 0≤x5 then (if x5<(x169002.length:Int) then (if 0≤x3 then (if x3<(x169002.length:Int) then (if ((qar x169002 x5).f4)=((qar x169002 x3).f4) then (some 14) else (ostinatoref05_Check.l1 k x3 (wrap64 (x5+1)) x169000 x169001 x169002)) else (none)) else (none)) else (none)) else (none)) else (ostinatoref05_Check.l0 k (wrap64 (x3+1)) x169000 x169001 x169002)
end
def ostinatoref05_Check.f (k:Nat) (a0_0:Int) (a0_1:Int) (l0_2:List (S52)):Option (Int):=if a0_0<0 then (ostinatoref05_Check.j0 k true a0_0 a0_1 l0_2) else (if a0_0 > 256 then (ostinatoref05_Check.j0 k true a0_0 a0_1 l0_2) else (if a0_1<0 then (ostinatoref05_Check.j0 k true a0_0 a0_1 l0_2) else (if a0_1 > 1000 then (ostinatoref05_Check.j0 k true a0_0 a0_1 l0_2) else (ostinatoref05_Check.j0 k ((l0_2.length:Int) == 0) a0_0 a0_1 l0_2))))
def ostinatoref05_Check.T8:Bool × List (List Nat × List Nat):=(true,[([],[]),([0],[0]),([],[]),([1,2],[1,2]),([3],[3]),([],[]),([5],[5]),([4,6],[4,6]),([7,7,0,1,2,3,4,5,6,7],[7])])
def ostinatoref05_Check.B8:List Nat:=[0,1,0,7,15,0,32,127,255]
theorem ostinatoref05_Check.tab8:rtab .any (opsOf Tryd.f16 8)=ostinatoref05_Check.T8:=by kernel_rfl
theorem ostinatoref05_Check.bits8:waitsOk ostinatoref05_Check.T8.2 ostinatoref05_Check.B8=true:=by kernel_rfl
def ostinatoref05_Check.T11:Bool × List (List Nat × List Nat):=(true,[([],[]),([0],[0]),([1],[1]),([2],[2]),([3,2],[2,3]),([2],[2]),([4,5,2],[2,4,5]),([6,2],[2,6]),([7,2],[2,7]),([2],[2]),([9,2],[2,9]),([2],[2]),([11,2],[2,11]),([10,12,2],[2,10,12]),([13,2],[2,13]),([14,2],[2,14]),([8,15,2],[2,8,15]),([2,16],[2,16])])
def ostinatoref05_Check.B11:List Nat:=[0,1,3,7,15,7,63,127,255,7,519,7,2055,7687,15879,32263,65535,131071]
theorem ostinatoref05_Check.tab11:rtab .any (opsOf Tryd.f16 11)=ostinatoref05_Check.T11:=by kernel_rfl
theorem ostinatoref05_Check.bits11:waitsOk ostinatoref05_Check.T11.2 ostinatoref05_Check.B11=true:=by kernel_rfl
def ostinatoref05_Check.T16:Bool × List (List Nat × List Nat):=(true,[([],[]),([0],[0]),([],[]),([1,2],[1,2]),([3],[3]),([4],[4]),([],[]),([6],[6]),([],[]),([7,8],[7,8]),([9],[9]),([10],[10]),([5,11],[5,11])])
def ostinatoref05_Check.B16:List Nat:=[0,1,0,7,15,31,0,64,0,448,960,1984,4095]
theorem ostinatoref05_Check.tab16:rtab .any (opsOf Tryd.f16 16)=ostinatoref05_Check.T16:=by kernel_rfl
theorem ostinatoref05_Check.bits16:waitsOk ostinatoref05_Check.T16.2 ostinatoref05_Check.B16=true:=by kernel_rfl
theorem ostinatoref05_Check.calls (k:Nat) (a0_0:Int) (a0_1:Int) (A0_2:Option Addr) (c0_2:Nat) (l0_2:List (S52)) (r:Int) (w:World) (hr0_2:Kd.C k52 w A0_2 l0_2.length l0_2) (hc0_2:l0_2.length≤c0_2) (h:ostinatoref05_Check.f k a0_0 a0_1 l0_2=some r) :
  Calls Tryd.prog 16 #[.agg #[.int .i64 a0_0,.int .i64 a0_1,.slice A0_2 l0_2.length c0_2]] w fun e w'=>e=.returned (.int .i64 r)∧Below w.heap.size w w':=by
 have hu32:=Tryd.underlying32
 have hu52:=Tryd.underlying52
 have HR0_2:=qaj.mk hr0_2
 have HC0_2:=qaj.mk hc0_2
 clear hr0_2 hc0_2
 have HB:=qaj.mk (Below.refl w.heap.size w)
 have H:(if a0_0<0 then (ostinatoref05_Check.j0 k true a0_0 a0_1 l0_2) else (if a0_0 > 256 then (ostinatoref05_Check.j0 k true a0_0 a0_1 l0_2) else (if a0_1<0 then (ostinatoref05_Check.j0 k true a0_0 a0_1 l0_2) else (if a0_1 > 1000 then (ostinatoref05_Check.j0 k true a0_0 a0_1 l0_2) else (ostinatoref05_Check.j0 k ((l0_2.length:Int) == 0) a0_0 a0_1 l0_2)))))=some r:=h
 clear h
 have HC2:=qaj.mk H
 clear H
 go_enter Tryd.func16,Tryd.ntmps16
 go_upto_region 1 with (first|((with_reducible refine qaE (N:=1) rfl ?_);(try (refine qaD (by rfl) ?_;dsimp only));refine qaA ?hg (N:=1) ?hd (cs:=#[.int .i64 a0_0,.int .i64 a0_1,.slice A0_2 l0_2.length c0_2]) (t:=32) ?hr ?_;(case hd=>rfl);(case hg=>rfl);(case hr=>first|(go_simp;done)|(go_simp;rfl));intro gb168 hg w3 hbox hb;have n0_:=qaj.mk (qam (by repeat (first|(with_reducible first|exact HB.out|apply qai|apply qaa|apply qah)|exact HB.out)) hb);have n1_:=qaj.mk (hbox);have n2_:=qaj.mk ((by rw [hg];exact (qak (by repeat (first|(with_reducible first|exact HB.out|apply qai|apply qaa|apply qah)|exact HB.out))):w.heap.size≤gb168));have n3_:=qaj.mk ((by rw [hg];exact (qak (by repeat (first|(with_reducible first|exact HB.out|apply qai|apply qaa|apply qah)|exact HB.out))):w.heap.size≤gb168));clear HB;have HB:=n0_;have BK168:=n1_;have GW168:=n2_;have GE168:=n3_;clear n0_ n1_ n2_ n3_;clear hb hbox hg))
 (try simp only [Act.put,List.setIfInBounds_toArray,List.set_cons_zero,List.set_cons_succ])
 go_cut [29] (fun v29 wc=>∃ (kq:Nat) (x29_1:Bool),v29=.bool x29_1∧qaj (ostinatoref05_Check.j0 kq x29_1 a0_0 a0_1 l0_2=some r)∧qaj (kq≤k)∧qaj (wc.heap[gb168]? = some (.cells #[.int .i64 a0_0,.int .i64 a0_1,(.slice A0_2 l0_2.length c0_2)] 32 (0,0)))∧qaj (Below w.heap.size w wc))
 case first=>
  have H:=HC2.out
  clear HC2
  by_cases c4:a0_0<0
  ·rw [if_pos c4] at H
   have c4b0:decide (a0_0<0)=true:=decide_eq_true c4
   clear c4
   (first|rw [c4b0]|(simp only [qav,qaw];rw [c4b0])|skip)
   have H':=qaj.mk H
   clear H
   have hcz5_0:w3.cell? ⟨gb168,0,none⟩=some (.int .i64 a0_0):=(qaf BK168.out 0).trans rfl
   have hcz5_1:w3.cell? ⟨gb168,1,none⟩=some (.int .i64 a0_1):=(qaf BK168.out 1).trans rfl
   have hcz5_2:w3.cell? ⟨gb168,2,none⟩=some (.slice A0_2 l0_2.length c0_2):=(qaf BK168.out 2).trans rfl
   have hfz5_0:=qac BK168.out 0
   have hfz5_1:=qac BK168.out 1
   have hfz5_2:=qac BK168.out 2
   go_wp2
   go_meet
   case rel=>exact⟨_,(true),(by first|rfl|(simp;done)|(simp [*];done)),H',⟨by first|omega|exact Nat.le_refl _⟩,⟨by (with_reducible repeat (first|refine qad ?_ _|refine qag ?_|refine qab ?_ _));exact BK168.out⟩,⟨by repeat (first|(with_reducible first|exact HB.out|apply qai|apply qaa|apply qah|refine qae ?_ GE168.out)|exact HB.out)⟩⟩
  ·rw [if_neg c4] at H
   have c4b0:decide (a0_0<0)=false:=decide_eq_false c4
   clear c4
   (first|rw [c4b0]|(simp only [qav,qaw];rw [c4b0])|skip)
   by_cases c6:a0_0 > 256
   ·rw [if_pos c6] at H
    have c6b0:decide (256<a0_0)=true:=decide_eq_true c6
    clear c6
    have H':=qaj.mk H
    clear H
    have hcz7_0:w3.cell? ⟨gb168,0,none⟩=some (.int .i64 a0_0):=(qaf BK168.out 0).trans rfl
    have hcz7_1:w3.cell? ⟨gb168,1,none⟩=some (.int .i64 a0_1):=(qaf BK168.out 1).trans rfl
    have hcz7_2:w3.cell? ⟨gb168,2,none⟩=some (.slice A0_2 l0_2.length c0_2):=(qaf BK168.out 2).trans rfl
    have hfz7_0:=qac BK168.out 0
    have hfz7_1:=qac BK168.out 1
    have hfz7_2:=qac BK168.out 2
    go_wp2
    go_meet
    case rel=>exact⟨_,(true),(by first|rfl|(simp;done)|(simp [*];done)),H',⟨by first|omega|exact Nat.le_refl _⟩,⟨by (with_reducible repeat (first|refine qad ?_ _|refine qag ?_|refine qab ?_ _));exact BK168.out⟩,⟨by repeat (first|(with_reducible first|exact HB.out|apply qai|apply qaa|apply qah|refine qae ?_ GE168.out)|exact HB.out)⟩⟩
   ·rw [if_neg c6] at H
    have c6b0:decide (256<a0_0)=false:=decide_eq_false c6
    clear c6
    by_cases c8:a0_1<0
    ·rw [if_pos c8] at H
     have c8b0:decide (a0_1<0)=true:=decide_eq_true c8
     clear c8
     have H':=qaj.mk H
     clear H
     have hcz9_0:w3.cell? ⟨gb168,0,none⟩=some (.int .i64 a0_0):=(qaf BK168.out 0).trans rfl
     have hcz9_1:w3.cell? ⟨gb168,1,none⟩=some (.int .i64 a0_1):=(qaf BK168.out 1).trans rfl
     have hcz9_2:w3.cell? ⟨gb168,2,none⟩=some (.slice A0_2 l0_2.length c0_2):=(qaf BK168.out 2).trans rfl
     have hfz9_0:=qac BK168.out 0
     have hfz9_1:=qac BK168.out 1
     have hfz9_2:=qac BK168.out 2
     go_wp2
     go_meet
     case rel=>exact⟨_,(true),(by first|rfl|(simp;done)|(simp [*];done)),H',⟨by first|omega|exact Nat.le_refl _⟩,⟨by (with_reducible repeat (first|refine qad ?_ _|refine qag ?_|refine qab ?_ _));exact BK168.out⟩,⟨by repeat (first|(with_reducible first|exact HB.out|apply qai|apply qaa|apply qah|refine qae ?_ GE168.out)|exact HB.out)⟩⟩
    ·rw [if_neg c8] at H
     have c8b0:decide (a0_1<0)=false:=decide_eq_false c8
     clear c8
     by_cases c10:a0_1 > 1000
     ·rw [if_pos c10] at H
      have c10b0:decide (1000<a0_1)=true:=decide_eq_true c10
      clear c10
      have H':=qaj.mk H
      clear H
      have hcz11_0:w3.cell? ⟨gb168,0,none⟩=some (.int .i64 a0_0):=(qaf BK168.out 0).trans rfl
      have hcz11_1:w3.cell? ⟨gb168,1,none⟩=some (.int .i64 a0_1):=(qaf BK168.out 1).trans rfl
      have hcz11_2:w3.cell? ⟨gb168,2,none⟩=some (.slice A0_2 l0_2.length c0_2):=(qaf BK168.out 2).trans rfl
      have hfz11_0:=qac BK168.out 0
      have hfz11_1:=qac BK168.out 1
      have hfz11_2:=qac BK168.out 2
      go_wp2
      go_meet
      case rel=>exact⟨_,(true),(by first|rfl|(simp;done)|(simp [*];done)),H',⟨by first|omega|exact Nat.le_refl _⟩,⟨by (with_reducible repeat (first|refine qad ?_ _|refine qag ?_|refine qab ?_ _));exact BK168.out⟩,⟨by repeat (first|(with_reducible first|exact HB.out|apply qai|apply qaa|apply qah|refine qae ?_ GE168.out)|exact HB.out)⟩⟩
     ·rw [if_neg c10] at H
      have c10b0:decide (1000<a0_1)=false:=decide_eq_false c10
      clear c10
      have H':=qaj.mk H
      clear H
      have hcz12_0:w3.cell? ⟨gb168,0,none⟩=some (.int .i64 a0_0):=(qaf BK168.out 0).trans rfl
      have hcz12_1:w3.cell? ⟨gb168,1,none⟩=some (.int .i64 a0_1):=(qaf BK168.out 1).trans rfl
      have hcz12_2:w3.cell? ⟨gb168,2,none⟩=some (.slice A0_2 l0_2.length c0_2):=(qaf BK168.out 2).trans rfl
      have hfz12_0:=qac BK168.out 0
      have hfz12_1:=qac BK168.out 1
      have hfz12_2:=qac BK168.out 2
      go_wp2
      go_meet
      case rel=>exact⟨_,(((l0_2.length:Int) == 0)),(by first|rfl|(simp;done)|(simp [*];done)),H',⟨by first|omega|exact Nat.le_refl _⟩,⟨by (with_reducible repeat (first|refine qad ?_ _|refine qag ?_|refine qab ?_ _));exact BK168.out⟩,⟨by repeat (first|(with_reducible first|exact HB.out|apply qai|apply qaa|apply qah|refine qae ?_ GE168.out)|exact HB.out)⟩⟩
 case rest=>
  clear HC2
  try clear c1
  try clear p2
  try clear c4
  try clear c4b0
  try clear c6
  try clear c6b0
  try clear c8
  try clear c8b0
  try clear c10
  try clear c10b0
  try clear hcz11_0
  try clear hcz11_1
  try clear hcz11_2
  try clear hcz12_0
  try clear hcz12_1
  try clear hcz12_2
  try clear hcz5_0
  try clear hcz5_1
  try clear hcz5_2
  try clear hcz7_0
  try clear hcz7_1
  try clear hcz7_2
  try clear hcz9_0
  try clear hcz9_1
  try clear hcz9_2
  try clear hfz11_0
  try clear hfz11_1
  try clear hfz11_2
  try clear hfz12_0
  try clear hfz12_1
  try clear hfz12_2
  try clear hfz5_0
  try clear hfz5_1
  try clear hfz5_2
  try clear hfz7_0
  try clear hfz7_1
  try clear hfz7_2
  try clear hfz9_0
  try clear hfz9_1
  try clear hfz9_2
  obtain⟨kq,x29_1,rfl,HA,HJ1,BK168,HB⟩:=hcut
  cases kq with
  |zero=>exact absurd HA.out (by simp [ostinatoref05_Check.j0])
  |succ kj1=>
   have H:=HA.out
   clear HA
   simp only [ostinatoref05_Check.j0] at H
   by_cases c13:x29_1=true
   ·subst c13
    have H1:(some 1)=some r:=by rw [if_pos rfl] at H;exact H
    clear H
    have H:=H1
    clear H1
    obtain rfl:=Option.some.inj H
    go_wp2
    go_ret
    exact⟨by first|rfl|(simp [qao,qan]<;>rfl)|(simp [bneNil,bneNilU]<;>rfl)|(simp [*,qao,qan]<;>rfl),by repeat (first|(with_reducible first|exact HB.out|apply qai|apply qaa|apply qah|refine qae ?_ GE168.out)|exact HB.out)⟩
   ·replace c13:=Bool.eq_false_iff.mpr c13
    subst c13
    have H1:(if (l0_2.length:Int) > 64 then (some 15) else (ostinatoref05_Check.l0 kj1 0 a0_0 a0_1 l0_2))=some r:=by rw [if_neg (show ¬ (false=true) by decide)] at H;exact H
    clear H
    have H:=H1
    clear H1
    by_cases c14:(l0_2.length:Int) > 64
    ·rw [if_pos c14] at H
     have c14b0:decide (64<(l0_2.length:Int))=true:=decide_eq_true c14
     have c14b1:decide (64<l0_2.length)=true:=decide_eq_true (by omega)
     clear c14
     obtain rfl:=Option.some.inj H
     have hcz15_0:wc.cell? ⟨gb168,0,none⟩=some (.int .i64 a0_0):=(qaf BK168.out 0).trans rfl
     have hcz15_1:wc.cell? ⟨gb168,1,none⟩=some (.int .i64 a0_1):=(qaf BK168.out 1).trans rfl
     have hcz15_2:wc.cell? ⟨gb168,2,none⟩=some (.slice A0_2 l0_2.length c0_2):=(qaf BK168.out 2).trans rfl
     have hfz15_0:=qac BK168.out 0
     have hfz15_1:=qac BK168.out 1
     have hfz15_2:=qac BK168.out 2
     go_wp2
     go_ret
     exact⟨by first|rfl|(simp [qao,qan]<;>rfl)|(simp [bneNil,bneNilU]<;>rfl)|(simp [*,qao,qan]<;>rfl),by repeat (first|(with_reducible first|exact HB.out|apply qai|apply qaa|apply qah|refine qae ?_ GE168.out)|exact HB.out)⟩
    ·rw [if_neg c14] at H
     have c14b0:decide (64<(l0_2.length:Int))=false:=decide_eq_false c14
     have c14b1:decide (64<l0_2.length)=false:=decide_eq_false (by omega)
     clear c14
     have H':=qaj.mk H
     clear H
     have hcz16_0:wc.cell? ⟨gb168,0,none⟩=some (.int .i64 a0_0):=(qaf BK168.out 0).trans rfl
     have hcz16_1:wc.cell? ⟨gb168,1,none⟩=some (.int .i64 a0_1):=(qaf BK168.out 1).trans rfl
     have hcz16_2:wc.cell? ⟨gb168,2,none⟩=some (.slice A0_2 l0_2.length c0_2):=(qaf BK168.out 2).trans rfl
     have hfz16_0:=qac BK168.out 0
     have hfz16_1:=qac BK168.out 1
     have hfz16_2:=qac BK168.out 2
     go_wp2
     go_loopg [3] kj1 (fun kq v3 w'=>∃ (x3_2:Int),v3=.int .i64 x3_2∧qaj (ostinatoref05_Check.l0 kq x3_2 a0_0 a0_1 l0_2=some r)∧qaj (kq≤kj1)∧qaj (w'.heap[gb168]? = some (.cells #[.int .i64 a0_0,.int .i64 a0_1,(.slice A0_2 l0_2.length c0_2)] 32 (0,0)))∧qaj (Below w.heap.size w w'))
     case atStart=>exact⟨(0),(by first|rfl|(simp;done)|(simp [*];done)),H',⟨Nat.le_refl _⟩,⟨by (with_reducible repeat (first|refine qad ?_ _|refine qag ?_|refine qab ?_ _));exact BK168.out⟩,⟨by repeat (first|(with_reducible first|exact HB.out|apply qai|apply qaa|apply qah|refine qae ?_ GE168.out)|exact HB.out)⟩⟩
     case round=>
      clear H'
      try clear c1
      try clear p2
      try clear c4
      try clear c4b0
      try clear c6
      try clear c6b0
      try clear c8
      try clear c8b0
      try clear c10
      try clear c10b0
      try clear c13
      try clear c14
      try clear c14b0
      try clear c14b1
      try clear c16
      try clear hcz11_0
      try clear hcz11_1
      try clear hcz11_2
      try clear hcz12_0
      try clear hcz12_1
      try clear hcz12_2
      try clear hcz15_0
      try clear hcz15_1
      try clear hcz15_2
      try clear hcz16_0
      try clear hcz16_1
      try clear hcz16_2
      try clear hcz5_0
      try clear hcz5_1
      try clear hcz5_2
      try clear hcz7_0
      try clear hcz7_1
      try clear hcz7_2
      try clear hcz9_0
      try clear hcz9_1
      try clear hcz9_2
      try clear hfz11_0
      try clear hfz11_1
      try clear hfz11_2
      try clear hfz12_0
      try clear hfz12_1
      try clear hfz12_2
      try clear hfz15_0
      try clear hfz15_1
      try clear hfz15_2
      try clear hfz16_0
      try clear hfz16_1
      try clear hfz16_2
      try clear hfz5_0
      try clear hfz5_1
      try clear hfz5_2
      try clear hfz7_0
      try clear hfz7_1
      try clear hfz7_2
      try clear hfz9_0
      try clear hfz9_1
      try clear hfz9_2
      try clear p2
      obtain⟨x3_2,rfl,HA,HK2,BK168,HB⟩:=hrel
      cases gk with
      |zero=>exact absurd HA.out (by simp [ostinatoref05_Check.l0])
      |succ k2=>
       have H:=HA.out
       clear HA
       simp only [ostinatoref05_Check.l0] at H
       by_cases c17:x3_2<(l0_2.length:Int)
       ·rw [if_pos c17] at H
        have c17b0:decide (x3_2<(l0_2.length:Int))=true:=decide_eq_true c17
        clear c17
        by_cases c18:0≤x3_2
        ·rw [if_pos c18] at H
         have c18b0:decide (0≤x3_2)=true:=decide_eq_true c18
         clear c18
         replace H:=Option.bind_eq_some_iff.mp H
         obtain⟨t170,A190,H⟩:=H
         replace H:(if t170=0 then (if x3_2 > 0 then (if 0≤(wrap64 (x3_2 - 1)) then (if (wrap64 (x3_2 - 1))<(l0_2.length:Int) then (ostinatoref05_Check.j2 k2 x3_2 (decide (((qar l0_2 x3_2).f0)≤((qar l0_2 (wrap64 (x3_2 - 1))).f0))) a0_0 a0_1 l0_2) else (none)) else (none)) else (ostinatoref05_Check.j2 k2 x3_2 false a0_0 a0_1 l0_2)) else (some t170))=some r:=H
         have A19:=qaj.mk A190
         clear A190
         by_cases c20:t170=0
         ·rw [if_pos c20] at H
          have c20b0:(t170 == 0)=true:=beq_iff_eq.mpr c20
          have c20b1:(t170 != 0)=false:=bne_eq_false_iff_eq.mpr c20
          clear c20
          have HC21:=qaj.mk H
          clear H
          have hcz22_0:wr.cell? ⟨gb168,0,none⟩=some (.int .i64 a0_0):=(qaf BK168.out 0).trans rfl
          have hcz22_1:wr.cell? ⟨gb168,1,none⟩=some (.int .i64 a0_1):=(qaf BK168.out 1).trans rfl
          have hcz22_2:wr.cell? ⟨gb168,2,none⟩=some (.slice A0_2 l0_2.length c0_2):=(qaf BK168.out 2).trans rfl
          have hfz22_0:=qac BK168.out 0
          have hfz22_1:=qac BK168.out 1
          have hfz22_2:=qac BK168.out 2
          try go_wp2
          have n0_:=qaj.mk (qag BK168.out)
          have n1_:=qaj.mk (qah HB.out)
          clear BK168
          clear HB
          have BK168:=n0_
          have HB:=n1_
          clear n0_ n1_
          have p169:0≤(x3_2:Int):=of_decide_eq_true (by first|(with_reducible assumption)|assumption)
          have q169:x3_2<(l0_2.length:Int):=of_decide_eq_true (by first|(with_reducible assumption)|assumption)
          obtain⟨ad169,A169_5,c169_5,A169_6,c169_6,e169,hx169_0,hx169_1,hx169_2,hx169_3,hx169_4,hx169_5,hx169_6,hl169_5,hi169_5,hl169_6,hi169_6⟩:=at_T52 HR0_2.out x3_2 p169 q169
          have hw169_6:=hx169_6
          have hw169_5:=hx169_5
          have hw169_4:=hx169_4
          have hw169_3:=hx169_3
          have hw169_2:=hx169_2
          have hw169_1:=hx169_1
          have hw169_0:=hx169_0
          cases e169
          replace hx169_0:=(HB.out.cell (bLt w _ hx169_0)).trans hx169_0
          replace hx169_1:=(HB.out.cell (bLt w _ hx169_1)).trans hx169_1
          replace hx169_2:=(HB.out.cell (bLt w _ hx169_2)).trans hx169_2
          replace hx169_3:=(HB.out.cell (bLt w _ hx169_3)).trans hx169_3
          replace hx169_4:=(HB.out.cell (bLt w _ hx169_4)).trans hx169_4
          replace hx169_5:=(HB.out.cell (bLt w _ hx169_5)).trans hx169_5
          replace hx169_6:=(HB.out.cell (bLt w _ hx169_6)).trans hx169_6
          have HR169_5:=qaj.mk hi169_5
          have HC169_5:=qaj.mk hl169_5
          clear hi169_5 hl169_5
          have HR169_6:=qaj.mk hi169_6
          have HC169_6:=qaj.mk hl169_6
          clear hi169_6 hl169_6
          replace p169:=eq_true p169
          replace q169:=eq_true q169
          refine start_ (n:=9) (S:=fun w'=>w'.cell? ⟨gb168,0,none⟩=some (.int .i64 a0_0)∧w'.cell? ⟨gb168,1,none⟩=some (.int .i64 a0_1)∧w'.cell? ⟨gb168,2,none⟩=some (.slice (some ad169) l0_2.length c0_2)∧w'.cell? (ad169.add ((x3_2).toNat * 7))=some (.int .i64 ((qar l0_2 x3_2).f0))∧w'.cell? ⟨(ad169.add ((x3_2).toNat * 7)).block,(ad169.add ((x3_2).toNat * 7)).off+1,none⟩=some (.int .i64 ((qar l0_2 x3_2).f1))∧w'.cell? ⟨(ad169.add ((x3_2).toNat * 7)).block,(ad169.add ((x3_2).toNat * 7)).off+2,none⟩=some (.int .i64 ((qar l0_2 x3_2).f2))∧w'.cell? ⟨(ad169.add ((x3_2).toNat * 7)).block,(ad169.add ((x3_2).toNat * 7)).off+3,none⟩=some (.int .i64 ((qar l0_2 x3_2).f3))∧w'.cell? ⟨(ad169.add ((x3_2).toNat * 7)).block,(ad169.add ((x3_2).toNat * 7)).off+4,none⟩=some (.int .i64 ((qar l0_2 x3_2).f4))∧w'.cell? ⟨(ad169.add ((x3_2).toNat * 7)).block,(ad169.add ((x3_2).toNat * 7)).off+5,none⟩=some (.slice A169_5 ((qar l0_2 x3_2).f5).length c169_5)∧w'.cell? ⟨(ad169.add ((x3_2).toNat * 7)).block,(ad169.add ((x3_2).toNat * 7)).off+6,none⟩=some (.slice A169_6 ((qar l0_2 x3_2).f6).length c169_6)) (ds:=[]) #[false,false,false,false,false,false,false,false,false] (by kernel_rfl) rfl rfl ⟨(qaf BK168.out 0).trans rfl,(qaf BK168.out 1).trans rfl,(qaf BK168.out 2).trans rfl,((HB.out.cell (bLt w _ hw169_0)).trans hw169_0),((HB.out.cell (bLt w _ hw169_1)).trans hw169_1),((HB.out.cell (bLt w _ hw169_2)).trans hw169_2),((HB.out.cell (bLt w _ hw169_3)).trans hw169_3),((HB.out.cell (bLt w _ hw169_4)).trans hw169_4),((HB.out.cell (bLt w _ hw169_5)).trans hw169_5),((HB.out.cell (bLt w _ hw169_6)).trans hw169_6)⟩ (fun hHeld=>?_);refine qa1 ostinatoref05_Check.tab8 ostinatoref05_Check.bits8 (fun HT_ HW_=>?_)
          generalize wr.drew=w23 at BK168 HB HR169_5 HR169_6 hx169_0 hx169_1 hx169_2 hx169_3 hx169_4 hx169_5 hx169_6 hHeld ⊢
          refine qaF (i:=0) (N:=some 41) (v:=?_) (a':=?_) #[true,false,false,false,false,false,false,false,false] rfl rfl (qay HT_.out (by kernel_rfl)) (fun _ _ _ h=>h) (Or.inl ⟨by rfl,?_⟩) ?_ ?_
          rotate_left
          ·intro w'
           go_simp
           with_reducible rfl
          rotate_left
          ·simp only [Act.put,List.setIfInBounds_toArray,List.set_cons_zero,List.set_cons_succ,qav,qaw]
           rfl
          refine qaF (i:=2) (N:=some 43) (v:=?_) (a':=?_) #[true,false,true,false,false,false,false,false,false] rfl rfl (qay HT_.out (by kernel_rfl)) (fun _ _ _ h=>h) (Or.inl ⟨by rfl,?_⟩) ?_ ?_
          rotate_left
          ·intro w'
           go_simp
           with_reducible rfl
          rotate_left
          ·simp only [Act.put,List.setIfInBounds_toArray,List.set_cons_zero,List.set_cons_succ,qav,qaw]
           rfl
          refine qaF (i:=5) (N:=some 46) (v:=?_) (a':=?_) #[true,false,true,false,false,true,false,false,false] rfl rfl (qay HT_.out (by kernel_rfl)) (fun _ _ _ h=>h) (Or.inl ⟨by rfl,?_⟩) ?_ ?_
          rotate_left
          ·intro w'
           go_simp
           with_reducible rfl
          rotate_left
          ·simp only [Act.put,List.setIfInBounds_toArray,List.set_cons_zero,List.set_cons_succ,qav,qaw]
           rfl
          refine qa5 (i:=1) (N:=some 42) (v:=?_) (a':=?_) #[true,true,true,false,false,true,false,false,false] rfl rfl (qaI HT_.out HW_.out (by kernel_rfl)) (fun _ _ _ h=>h) (Or.inl ⟨by rfl,?_⟩) hHeld ?_ ?_
          rotate_left
          ·rintro w' ⟨s0,s1,s2,s3,s4,s5,s6,s7,s8,s9⟩
           go_simp
           with_reducible rfl
          rotate_left
          ·simp only [Act.put,List.setIfInBounds_toArray,List.set_cons_zero,List.set_cons_succ,qav,qaw]
           rfl
          refine qaF (i:=3) (N:=some 44) (v:=?_) (a':=?_) #[true,true,true,true,false,true,false,false,false] rfl rfl (qay HT_.out (by kernel_rfl)) (fun _ _ _ h=>h) (Or.inl ⟨by rfl,?_⟩) ?_ ?_
          rotate_left
          ·intro w'
           go_simp
           with_reducible rfl
          rotate_left
          ·simp only [Act.put,List.setIfInBounds_toArray,List.set_cons_zero,List.set_cons_succ,qav,qaw]
           rfl
          refine qa5 (i:=4) (N:=some 45) (v:=?_) (a':=?_) #[true,true,true,true,true,true,false,false,false] rfl rfl (qaI HT_.out HW_.out (by kernel_rfl)) (fun _ _ _ h=>h) (Or.inl ⟨by rfl,?_⟩) hHeld ?_ ?_
          rotate_left
          ·rintro w' ⟨s0,s1,s2,s3,s4,s5,s6,s7,s8,s9⟩
           go_simp
           with_reducible rfl
          rotate_left
          ·simp only [Act.put,List.setIfInBounds_toArray,List.set_cons_zero,List.set_cons_succ,qav,qaw]
           rfl
          refine qa5 (i:=6) (N:=some 47) (v:=?_) (a':=?_) #[true,true,true,true,true,true,true,false,false] rfl rfl (qaI HT_.out HW_.out (by kernel_rfl)) (fun _ _ _ h=>h) (Or.inl ⟨by rfl,?_⟩) hHeld ?_ ?_
          rotate_left
          ·rintro w' ⟨s0,s1,s2,s3,s4,s5,s6,s7,s8,s9⟩
           go_simp
           with_reducible rfl
          rotate_left
          ·simp only [Act.put,List.setIfInBounds_toArray,List.set_cons_zero,List.set_cons_succ,qav,qaw]
           rfl
          refine one_ (i:=7) (N:=some 48) #[true,true,true,true,true,true,true,true,false] rfl rfl (one_of HT_.out (by kernel_rfl)) (by decide) (fun K hK=>?_)
          refine goes_ Tryd.func35 (by kernel_rfl) rfl #[.agg #[.int .i64 ((qar l0_2 x3_2).f0),.int .i64 ((qar l0_2 x3_2).f1),.int .i64 ((qar l0_2 x3_2).f2),.int .i64 ((qar l0_2 x3_2).f3),.int .i64 ((qar l0_2 x3_2).f4),.slice A169_5 ((qar l0_2 x3_2).f5).length c169_5,.slice A169_6 ((qar l0_2 x3_2).f6).length c169_6],.int .i64 a0_0] (by rfl) rfl rfl (by (try simp only [List.map_toArray,List.map_cons,List.map_nil]);first|done|rfl|(simp only [List.length_drop,List.length_take];rfl)) ?_
          with_reducible refine (ostinatoref05_Right.calls k2 ((qar l0_2 x3_2).f0) ((qar l0_2 x3_2).f1) ((qar l0_2 x3_2).f2) ((qar l0_2 x3_2).f3) ((qar l0_2 x3_2).f4) _ _ ((qar l0_2 x3_2).f5) _ _ ((qar l0_2 x3_2).f6) a0_0 t170 _ ?side1 ?side2 ?side3 ?side4 A19.out).mono ?_
          (case side1=>repeat (first|exact (Kd.C_below HR169_5.out HB.out)|(with_reducible refine Kd.C_alloc ?_ _)|(with_reducible refine Kd.C_drewN ?_ _)|(with_reducible refine Kd.C_drew ?_)))
          (case side2=>exact HC169_5.out)
          (case side3=>repeat (first|exact (Kd.C_below HR169_6.out HB.out)|(with_reducible refine Kd.C_alloc ?_ _)|(with_reducible refine Kd.C_drewN ?_ _)|(with_reducible refine Kd.C_drew ?_)))
          (case side4=>exact HC169_6.out)
          rintro e w24 ⟨rfl,hb⟩
          refine⟨_,rfl,?_⟩
          have n0_:=qaj.mk (qal (g:=gb168) (o:=.cells #[.int .i64 a0_0,.int .i64 a0_1,.slice (some ad169) l0_2.length c0_2] 32 (0,0)) (by (with_reducible repeat (first|refine qad ?_ _|refine qag ?_|refine qab ?_ _));exact BK168.out) hb)
          have n1_:=qaj.mk (qam (by repeat (first|(with_reducible first|exact HB.out|apply qai|apply qaa|apply qah|refine qae ?_ GE168.out)|exact HB.out)) hb)
          clear BK168
          clear HB
          have BK168:=n0_
          have HB:=n1_
          clear n0_ n1_
          (try clear hb)
          (try clear hb2)
          (try clear hk)
          (try clear hi)
          refine hK.out _ _ ⟨(qaf BK168.out 0).trans rfl,(qaf BK168.out 1).trans rfl,(qaf BK168.out 2).trans rfl,((HB.out.cell (bLt w _ hw169_0)).trans hw169_0),((HB.out.cell (bLt w _ hw169_1)).trans hw169_1),((HB.out.cell (bLt w _ hw169_2)).trans hw169_2),((HB.out.cell (bLt w _ hw169_3)).trans hw169_3),((HB.out.cell (bLt w _ hw169_4)).trans hw169_4),((HB.out.cell (bLt w _ hw169_5)).trans hw169_5),((HB.out.cell (bLt w _ hw169_6)).trans hw169_6)⟩ (fun hHeld=>?_)
          clear hK K
          refine norm_ (a':=?_) ?_ ?_
          rotate_left
          ·show Act.put _ (some 48) _=_
           simp only [Act.put,List.setIfInBounds_toArray,List.set_cons_zero,List.set_cons_succ,qav,qaw]
           rfl
          refine qaF (i:=8) (N:=some 4) (v:=?_) (a':=?_) #[true,true,true,true,true,true,true,true,true] rfl rfl (qay HT_.out (by kernel_rfl)) (fun _ _ _ h=>h) (Or.inl ⟨by rfl,?_⟩) ?_ ?_
          rotate_left
          ·intro w'
           go_simp
           with_reducible rfl
          rotate_left
          ·simp only [Act.put,List.setIfInBounds_toArray,List.set_cons_zero,List.set_cons_succ,qav,qaw]
           rfl
          refine done_ (done_of HT_.out (by kernel_rfl)) ?_
          go_upto_region 11 with (fail)
          go_cut [69] (fun v69 wc=>∃ (kq:Nat) (x69_20:Bool),v69=.bool x69_20∧qaj (ostinatoref05_Check.j2 kq x3_2 x69_20 a0_0 a0_1 l0_2=some r)∧qaj (kq≤k2)∧qaj (wc.heap[gb168]? = some (.cells #[.int .i64 a0_0,.int .i64 a0_1,(.slice (some ad169) l0_2.length c0_2)] 32 (0,0)))∧qaj (Below w.heap.size w wc))
          case first=>
           have H:=HC21.out
           clear HC21
           by_cases c25:x3_2 > 0
           ·rw [if_pos c25] at H
            have c25b0:decide (0<x3_2)=true:=decide_eq_true c25
            clear c25
            (first|rw [c25b0]|(simp only [qav,qaw];rw [c25b0])|skip)
            obtain⟨ji26,hji26⟩:∃ j_:Int,(wrap64 (x3_2 - 1))=j_:=⟨_,rfl⟩
            replace H:(if 0≤(ji26) then (if (ji26)<(l0_2.length:Int) then (ostinatoref05_Check.j2 k2 x3_2 (decide (((qar l0_2 x3_2).f0)≤((qar l0_2 (ji26)).f0))) a0_0 a0_1 l0_2) else (none)) else (none))=some r:=by first|(rw [hji26] at H;exact H)|(simp only [hji26] at H ⊢;exact H)
            have hji26w:(IntKind.i64.wrap (x3_2 - 1))=ji26:=(qav _).trans hji26
            by_cases c27:0≤(ji26)
            ·rw [if_pos c27] at H
             have c27b0:decide (0≤(ji26))=true:=decide_eq_true c27
             clear c27
             by_cases c28:(ji26)<(l0_2.length:Int)
             ·rw [if_pos c28] at H
              have c28b0:decide ((ji26)<(l0_2.length:Int))=true:=decide_eq_true c28
              clear c28
              have H':=qaj.mk H
              clear H
              try go_wp2
              have n0_:=qaj.mk (qag BK168.out)
              have n1_:=qaj.mk (qah HB.out)
              clear BK168
              clear HB
              have BK168:=n0_
              have HB:=n1_
              clear n0_ n1_
              have p171:0≤(x3_2:Int):=of_decide_eq_true (by first|(with_reducible assumption)|assumption)
              have q171:x3_2<(l0_2.length:Int):=of_decide_eq_true (by first|(with_reducible assumption)|assumption)
              obtain⟨ad171,A171_5,c171_5,A171_6,c171_6,e171,hx171_0,hx171_1,hx171_2,hx171_3,hx171_4,hx171_5,hx171_6,hl171_5,hi171_5,hl171_6,hi171_6⟩:=at_T52 HR0_2.out x3_2 p171 q171
              have hw171_6:=hx171_6
              have hw171_5:=hx171_5
              have hw171_4:=hx171_4
              have hw171_3:=hx171_3
              have hw171_2:=hx171_2
              have hw171_1:=hx171_1
              have hw171_0:=hx171_0
              obtain rfl:ad169=ad171:=(by injection e171)
              replace hx171_0:=(HB.out.cell (bLt w _ hx171_0)).trans hx171_0
              replace hx171_1:=(HB.out.cell (bLt w _ hx171_1)).trans hx171_1
              replace hx171_2:=(HB.out.cell (bLt w _ hx171_2)).trans hx171_2
              replace hx171_3:=(HB.out.cell (bLt w _ hx171_3)).trans hx171_3
              replace hx171_4:=(HB.out.cell (bLt w _ hx171_4)).trans hx171_4
              replace hx171_5:=(HB.out.cell (bLt w _ hx171_5)).trans hx171_5
              replace hx171_6:=(HB.out.cell (bLt w _ hx171_6)).trans hx171_6
              have HR171_5:=qaj.mk hi171_5
              have HC171_5:=qaj.mk hl171_5
              clear hi171_5 hl171_5
              have HR171_6:=qaj.mk hi171_6
              have HC171_6:=qaj.mk hl171_6
              clear hi171_6 hl171_6
              replace p171:=eq_true p171
              replace q171:=eq_true q171
              have p172:0≤((ji26):Int):=of_decide_eq_true (by first|(with_reducible assumption)|assumption)
              have q172:(ji26)<(l0_2.length:Int):=of_decide_eq_true (by first|(with_reducible assumption)|assumption)
              obtain⟨ad172,A172_5,c172_5,A172_6,c172_6,e172,hx172_0,hx172_1,hx172_2,hx172_3,hx172_4,hx172_5,hx172_6,hl172_5,hi172_5,hl172_6,hi172_6⟩:=at_T52 HR0_2.out (ji26) p172 q172
              have hw172_6:=hx172_6
              have hw172_5:=hx172_5
              have hw172_4:=hx172_4
              have hw172_3:=hx172_3
              have hw172_2:=hx172_2
              have hw172_1:=hx172_1
              have hw172_0:=hx172_0
              obtain rfl:ad169=ad172:=(by injection e172)
              replace hx172_0:=(HB.out.cell (bLt w _ hx172_0)).trans hx172_0
              replace hx172_1:=(HB.out.cell (bLt w _ hx172_1)).trans hx172_1
              replace hx172_2:=(HB.out.cell (bLt w _ hx172_2)).trans hx172_2
              replace hx172_3:=(HB.out.cell (bLt w _ hx172_3)).trans hx172_3
              replace hx172_4:=(HB.out.cell (bLt w _ hx172_4)).trans hx172_4
              replace hx172_5:=(HB.out.cell (bLt w _ hx172_5)).trans hx172_5
              replace hx172_6:=(HB.out.cell (bLt w _ hx172_6)).trans hx172_6
              have HR172_5:=qaj.mk hi172_5
              have HC172_5:=qaj.mk hl172_5
              clear hi172_5 hl172_5
              have HR172_6:=qaj.mk hi172_6
              have HC172_6:=qaj.mk hl172_6
              clear hi172_6 hl172_6
              replace p172:=eq_true p172
              replace q172:=eq_true q172
              refine start_ (n:=18) (S:=fun w'=>w'.cell? ⟨gb168,0,none⟩=some (.int .i64 a0_0)∧w'.cell? ⟨gb168,1,none⟩=some (.int .i64 a0_1)∧w'.cell? ⟨gb168,2,none⟩=some (.slice (some ad169) l0_2.length c0_2)∧w'.cell? (ad169.add ((x3_2).toNat * 7))=some (.int .i64 ((qar l0_2 x3_2).f0))∧w'.cell? ⟨(ad169.add ((x3_2).toNat * 7)).block,(ad169.add ((x3_2).toNat * 7)).off+1,none⟩=some (.int .i64 ((qar l0_2 x3_2).f1))∧w'.cell? ⟨(ad169.add ((x3_2).toNat * 7)).block,(ad169.add ((x3_2).toNat * 7)).off+2,none⟩=some (.int .i64 ((qar l0_2 x3_2).f2))∧w'.cell? ⟨(ad169.add ((x3_2).toNat * 7)).block,(ad169.add ((x3_2).toNat * 7)).off+3,none⟩=some (.int .i64 ((qar l0_2 x3_2).f3))∧w'.cell? ⟨(ad169.add ((x3_2).toNat * 7)).block,(ad169.add ((x3_2).toNat * 7)).off+4,none⟩=some (.int .i64 ((qar l0_2 x3_2).f4))∧w'.cell? ⟨(ad169.add ((x3_2).toNat * 7)).block,(ad169.add ((x3_2).toNat * 7)).off+5,none⟩=some (.slice A171_5 ((qar l0_2 x3_2).f5).length c171_5)∧w'.cell? ⟨(ad169.add ((x3_2).toNat * 7)).block,(ad169.add ((x3_2).toNat * 7)).off+6,none⟩=some (.slice A171_6 ((qar l0_2 x3_2).f6).length c171_6)∧w'.cell? (ad169.add (((ji26)).toNat * 7))=some (.int .i64 ((qar l0_2 (ji26)).f0))∧w'.cell? ⟨(ad169.add (((ji26)).toNat * 7)).block,(ad169.add (((ji26)).toNat * 7)).off+1,none⟩=some (.int .i64 ((qar l0_2 (ji26)).f1))∧w'.cell? ⟨(ad169.add (((ji26)).toNat * 7)).block,(ad169.add (((ji26)).toNat * 7)).off+2,none⟩=some (.int .i64 ((qar l0_2 (ji26)).f2))∧w'.cell? ⟨(ad169.add (((ji26)).toNat * 7)).block,(ad169.add (((ji26)).toNat * 7)).off+3,none⟩=some (.int .i64 ((qar l0_2 (ji26)).f3))∧w'.cell? ⟨(ad169.add (((ji26)).toNat * 7)).block,(ad169.add (((ji26)).toNat * 7)).off+4,none⟩=some (.int .i64 ((qar l0_2 (ji26)).f4))∧w'.cell? ⟨(ad169.add (((ji26)).toNat * 7)).block,(ad169.add (((ji26)).toNat * 7)).off+5,none⟩=some (.slice A172_5 ((qar l0_2 (ji26)).f5).length c172_5)∧w'.cell? ⟨(ad169.add (((ji26)).toNat * 7)).block,(ad169.add (((ji26)).toNat * 7)).off+6,none⟩=some (.slice A172_6 ((qar l0_2 (ji26)).f6).length c172_6)) (ds:=[]) #[false,false,false,false,false,false,false,false,false,false,false,false,false,false,false,false,false,false] (by kernel_rfl) rfl rfl ⟨(qaf BK168.out 0).trans rfl,(qaf BK168.out 1).trans rfl,(qaf BK168.out 2).trans rfl,((HB.out.cell (bLt w _ hw171_0)).trans hw171_0),((HB.out.cell (bLt w _ hw171_1)).trans hw171_1),((HB.out.cell (bLt w _ hw171_2)).trans hw171_2),((HB.out.cell (bLt w _ hw171_3)).trans hw171_3),((HB.out.cell (bLt w _ hw171_4)).trans hw171_4),((HB.out.cell (bLt w _ hw171_5)).trans hw171_5),((HB.out.cell (bLt w _ hw171_6)).trans hw171_6),((HB.out.cell (bLt w _ hw172_0)).trans hw172_0),((HB.out.cell (bLt w _ hw172_1)).trans hw172_1),((HB.out.cell (bLt w _ hw172_2)).trans hw172_2),((HB.out.cell (bLt w _ hw172_3)).trans hw172_3),((HB.out.cell (bLt w _ hw172_4)).trans hw172_4),((HB.out.cell (bLt w _ hw172_5)).trans hw172_5),((HB.out.cell (bLt w _ hw172_6)).trans hw172_6)⟩ (fun hHeld=>?_);refine qa1 ostinatoref05_Check.tab11 ostinatoref05_Check.bits11 (fun HT_ HW_=>?_)
              generalize w24.drew=w29 at BK168 HB HR171_5 HR171_6 HR172_5 HR172_6 hx171_0 hx171_1 hx171_2 hx171_3 hx171_4 hx171_5 hx171_6 hx172_0 hx172_1 hx172_2 hx172_3 hx172_4 hx172_5 hx172_6 hHeld ⊢
              refine qaF (i:=0) (N:=some 52) (v:=?_) (a':=?_) #[true,false,false,false,false,false,false,false,false,false,false,false,false,false,false,false,false,false] rfl rfl (qay HT_.out (by kernel_rfl)) (fun _ _ _ h=>h) (Or.inl ⟨by rfl,?_⟩) ?_ ?_
              rotate_left
              ·intro w'
               go_simp
               with_reducible rfl
              rotate_left
              ·simp only [Act.put,List.setIfInBounds_toArray,List.set_cons_zero,List.set_cons_succ,qav,qaw]
               rfl
              refine qaF (i:=1) (N:=some 53) (v:=?_) (a':=?_) #[true,true,false,false,false,false,false,false,false,false,false,false,false,false,false,false,false,false] rfl rfl (qay HT_.out (by kernel_rfl)) (fun _ _ _ h=>h) (Or.inl ⟨by rfl,?_⟩) ?_ ?_
              rotate_left
              ·intro w'
               go_simp
               with_reducible rfl
              rotate_left
              ·simp only [Act.put,List.setIfInBounds_toArray,List.set_cons_zero,List.set_cons_succ,qav,qaw]
               rfl
              refine qaF (i:=2) (N:=some 54) (v:=?_) (a':=?_) #[true,true,true,false,false,false,false,false,false,false,false,false,false,false,false,false,false,false] rfl rfl (qay HT_.out (by kernel_rfl)) (fun _ _ _ h=>h) (Or.inl ⟨by rfl,?_⟩) ?_ ?_
              rotate_left
              ·intro w'
               go_simp
               with_reducible rfl
              rotate_left
              ·simp only [Act.put,List.setIfInBounds_toArray,List.set_cons_zero,List.set_cons_succ,qav,qaw]
               rfl
              refine qaF (i:=3) (N:=some 55) (v:=?_) (a':=?_) #[true,true,true,true,false,false,false,false,false,false,false,false,false,false,false,false,false,false] rfl rfl (qay HT_.out (by kernel_rfl)) (fun _ _ _ h=>h) (Or.inl ⟨by rfl,?_⟩) ?_ ?_
              rotate_left
              ·intro w'
               go_simp
               with_reducible rfl
              rotate_left
              ·simp only [Act.put,List.setIfInBounds_toArray,List.set_cons_zero,List.set_cons_succ,qav,qaw]
               rfl
              refine qaF (i:=5) (N:=some 57) (v:=?_) (a':=?_) #[true,true,true,true,false,true,false,false,false,false,false,false,false,false,false,false,false,false] rfl rfl (qay HT_.out (by kernel_rfl)) (fun _ _ _ h=>h) (Or.inl ⟨by rfl,?_⟩) ?_ ?_
              rotate_left
              ·intro w'
               go_simp
               with_reducible rfl
              rotate_left
              ·simp only [Act.put,List.setIfInBounds_toArray,List.set_cons_zero,List.set_cons_succ,qav,qaw]
               rfl
              refine qaF (i:=9) (N:=some 61) (v:=?_) (a':=?_) #[true,true,true,true,false,true,false,false,false,true,false,false,false,false,false,false,false,false] rfl rfl (qay HT_.out (by kernel_rfl)) (fun _ _ _ h=>h) (Or.inl ⟨by rfl,?_⟩) ?_ ?_
              rotate_left
              ·intro w'
               go_simp
               with_reducible rfl
              rotate_left
              ·simp only [Act.put,List.setIfInBounds_toArray,List.set_cons_zero,List.set_cons_succ,qav,qaw]
               rfl
              refine qaF (i:=11) (N:=some 63) (v:=?_) (a':=?_) #[true,true,true,true,false,true,false,false,false,true,false,true,false,false,false,false,false,false] rfl rfl (qay HT_.out (by kernel_rfl)) (fun _ _ _ h=>h) (Or.inl ⟨by rfl,?_⟩) ?_ ?_
              rotate_left
              ·intro w'
               go_simp
               with_reducible rfl
              rotate_left
              ·simp only [Act.put,List.setIfInBounds_toArray,List.set_cons_zero,List.set_cons_succ,qav,qaw]
               rfl
              refine qaF (i:=12) (N:=some 64) (v:=?_) (a':=?_) #[true,true,true,true,false,true,false,false,false,true,false,true,true,false,false,false,false,false] rfl rfl (qay HT_.out (by kernel_rfl)) (fun _ _ _ h=>h) (Or.inl ⟨by rfl,?_⟩) ?_ ?_
              rotate_left
              ·intro w'
               go_simp
               with_reducible rfl
              rotate_left
              ·simp only [Act.put,List.setIfInBounds_toArray,List.set_cons_zero,List.set_cons_succ,qav,qaw]
               rfl
              refine qa5 (i:=4) (N:=some 56) (v:=?_) (a':=?_) #[true,true,true,true,true,true,false,false,false,true,false,true,true,false,false,false,false,false] rfl rfl (qaI HT_.out HW_.out (by kernel_rfl)) (fun _ _ _ h=>h) (Or.inl ⟨by rfl,?_⟩) hHeld ?_ ?_
              rotate_left
              ·rintro w' ⟨s0,s1,s2,s3,s4,s5,s6,s7,s8,s9,s10,s11,s12,s13,s14,s15,s16⟩
               go_simp
               with_reducible rfl
              rotate_left
              ·simp only [Act.put,List.setIfInBounds_toArray,List.set_cons_zero,List.set_cons_succ,qav,qaw]
               rfl
              refine qaF (i:=6) (N:=some 58) (v:=?_) (a':=?_) #[true,true,true,true,true,true,true,false,false,true,false,true,true,false,false,false,false,false] rfl rfl (qay HT_.out (by kernel_rfl)) (fun _ _ _ h=>h) (Or.inl ⟨by rfl,?_⟩) ?_ ?_
              rotate_left
              ·intro w'
               go_simp
               with_reducible rfl
              rotate_left
              ·simp only [Act.put,List.setIfInBounds_toArray,List.set_cons_zero,List.set_cons_succ,qav,qaw]
               rfl
              refine qaF (i:=7) (N:=some 59) (v:=?_) (a':=?_) #[true,true,true,true,true,true,true,true,false,true,false,true,true,false,false,false,false,false] rfl rfl (qay HT_.out (by kernel_rfl)) (fun _ _ _ h=>h) (Or.inl ⟨by rfl,?_⟩) ?_ ?_
              rotate_left
              ·intro w'
               go_simp
               with_reducible rfl
              rotate_left
              ·simp only [Act.put,List.setIfInBounds_toArray,List.set_cons_zero,List.set_cons_succ,qav,qaw]
               rfl
              refine qa5 (i:=8) (N:=some 60) (v:=?_) (a':=?_) #[true,true,true,true,true,true,true,true,true,true,false,true,true,false,false,false,false,false] rfl rfl (qaI HT_.out HW_.out (by kernel_rfl)) (fun _ _ _ h=>h) (Or.inl ⟨by rfl,?_⟩) hHeld ?_ ?_
              rotate_left
              ·rintro w' ⟨s0,s1,s2,s3,s4,s5,s6,s7,s8,s9,s10,s11,s12,s13,s14,s15,s16⟩
               go_simp
               with_reducible rfl
              rotate_left
              ·simp only [Act.put,List.setIfInBounds_toArray,List.set_cons_zero,List.set_cons_succ,qav,qaw]
               rfl
              refine qa5 (i:=10) (N:=some 62) (v:=?_) (a':=?_) #[true,true,true,true,true,true,true,true,true,true,true,true,true,false,false,false,false,false] rfl rfl (qaI HT_.out HW_.out (by kernel_rfl)) (fun _ _ _ h=>h) (Or.inl ⟨by rfl,?_⟩) hHeld ?_ ?_
              rotate_left
              ·rintro w' ⟨s0,s1,s2,s3,s4,s5,s6,s7,s8,s9,s10,s11,s12,s13,s14,s15,s16⟩
               go_simp
               with_reducible rfl
              rotate_left
              ·simp only [Act.put,List.setIfInBounds_toArray,List.set_cons_zero,List.set_cons_succ,qav,qaw]
               rfl
              refine qaF (i:=13) (N:=some 65) (v:=?_) (a':=?_) #[true,true,true,true,true,true,true,true,true,true,true,true,true,true,false,false,false,false] rfl rfl (qay HT_.out (by kernel_rfl)) (fun _ _ _ h=>h) (Or.inl ⟨by rfl,?_⟩) ?_ ?_
              rotate_left
              ·intro w'
               go_simp
               with_reducible rfl
              rotate_left
              ·simp only [Act.put,List.setIfInBounds_toArray,List.set_cons_zero,List.set_cons_succ,qav,qaw]
               rfl
              refine qaF (i:=14) (N:=some 66) (v:=?_) (a':=?_) #[true,true,true,true,true,true,true,true,true,true,true,true,true,true,true,false,false,false] rfl rfl (qay HT_.out (by kernel_rfl)) (fun _ _ _ h=>h) (Or.inl ⟨by rfl,?_⟩) ?_ ?_
              rotate_left
              ·intro w'
               go_simp
               with_reducible rfl
              rotate_left
              ·simp only [Act.put,List.setIfInBounds_toArray,List.set_cons_zero,List.set_cons_succ,qav,qaw]
               rfl
              refine qa5 (i:=15) (N:=some 67) (v:=?_) (a':=?_) #[true,true,true,true,true,true,true,true,true,true,true,true,true,true,true,true,false,false] rfl rfl (qaI HT_.out HW_.out (by kernel_rfl)) (fun _ _ _ h=>h) (Or.inl ⟨by rfl,?_⟩) hHeld ?_ ?_
              rotate_left
              ·rintro w' ⟨s0,s1,s2,s3,s4,s5,s6,s7,s8,s9,s10,s11,s12,s13,s14,s15,s16⟩
               go_simp
               with_reducible rfl
              rotate_left
              ·simp only [Act.put,List.setIfInBounds_toArray,List.set_cons_zero,List.set_cons_succ,qav,qaw]
               rfl
              refine qaF (i:=16) (N:=some 68) (v:=?_) (a':=?_) #[true,true,true,true,true,true,true,true,true,true,true,true,true,true,true,true,true,false] rfl rfl (qay HT_.out (by kernel_rfl)) (fun _ _ _ h=>h) (Or.inl ⟨by rfl,?_⟩) ?_ ?_
              rotate_left
              ·intro w'
               go_simp
               with_reducible rfl
              rotate_left
              ·simp only [Act.put,List.setIfInBounds_toArray,List.set_cons_zero,List.set_cons_succ,qav,qaw]
               rfl
              refine qaF (i:=17) (N:=some 69) (v:=?_) (a':=?_) #[true,true,true,true,true,true,true,true,true,true,true,true,true,true,true,true,true,true] rfl rfl (qay HT_.out (by kernel_rfl)) (fun _ _ _ h=>h) (Or.inl ⟨by rfl,?_⟩) ?_ ?_
              rotate_left
              ·intro w'
               go_simp
               with_reducible rfl
              rotate_left
              ·simp only [Act.put,List.setIfInBounds_toArray,List.set_cons_zero,List.set_cons_succ,qav,qaw]
               rfl
              refine done_ (done_of HT_.out (by kernel_rfl)) ?_
              try go_wp2
              go_meet
              case rel=>exact⟨_,(decide (((qar l0_2 x3_2).f0)≤((qar l0_2 (ji26)).f0))),(by first|rfl|(simp;done)|(simp only [← hji26]<;>(first|rfl|simp))|(simp [*];done)),H',⟨by have:=HJ1.out;have:=HK2.out;first|omega|exact Nat.le_refl _⟩,⟨by (with_reducible repeat (first|refine qad ?_ _|refine qag ?_|refine qab ?_ _));exact BK168.out⟩,⟨by repeat (first|(with_reducible first|exact HB.out|apply qai|apply qaa|apply qah|refine qae ?_ GE168.out)|exact HB.out)⟩⟩
             ·rw [if_neg c28] at H
              exact absurd H (by simp)
            ·rw [if_neg c27] at H
             exact absurd H (by simp)
           ·rw [if_neg c25] at H
            have c25b0:decide (0<x3_2)=false:=decide_eq_false c25
            clear c25
            (first|rw [c25b0]|(simp only [qav,qaw];rw [c25b0])|skip)
            have H':=qaj.mk H
            clear H
            try go_wp2
            have n0_:=qaj.mk (qag BK168.out)
            have n1_:=qaj.mk (qah HB.out)
            clear BK168
            clear HB
            have BK168:=n0_
            have HB:=n1_
            clear n0_ n1_
            refine start_ (n:=18) (S:=fun w'=>True) (ds:=[]) #[false,false,false,false,false,false,false,false,false,false,false,false,false,false,false,false,false,false] (by kernel_rfl) rfl rfl trivial (fun hHeld=>?_);refine qa1 ostinatoref05_Check.tab11 ostinatoref05_Check.bits11 (fun HT_ HW_=>?_)
            generalize w24.drew=w30 at BK168 HB hHeld ⊢
            refine qaF (i:=0) (N:=some 52) (v:=?_) (a':=?_) #[true,false,false,false,false,false,false,false,false,false,false,false,false,false,false,false,false,false] rfl rfl (qay HT_.out (by kernel_rfl)) (fun _ _ _ h=>h) (Or.inl ⟨by rfl,?_⟩) ?_ ?_
            rotate_left
            ·intro w'
             go_simp
             with_reducible rfl
            rotate_left
            ·simp only [Act.put,List.setIfInBounds_toArray,List.set_cons_zero,List.set_cons_succ,qav,qaw]
             rfl
            refine qaF (i:=1) (N:=some 53) (v:=?_) (a':=?_) #[true,true,false,false,false,false,false,false,false,false,false,false,false,false,false,false,false,false] rfl rfl (qay HT_.out (by kernel_rfl)) (fun _ _ _ h=>h) (Or.inl ⟨by rfl,?_⟩) ?_ ?_
            rotate_left
            ·intro w'
             go_simp
             with_reducible rfl
            rotate_left
            ·simp only [Act.put,List.setIfInBounds_toArray,List.set_cons_zero,List.set_cons_succ,qav,qaw]
             rfl
            refine qaF (i:=2) (N:=some 54) (v:=?_) (a':=?_) #[true,true,true,false,false,false,false,false,false,false,false,false,false,false,false,false,false,false] rfl rfl (qay HT_.out (by kernel_rfl)) (fun _ _ _ h=>h) (Or.inl ⟨by rfl,?_⟩) ?_ ?_
            rotate_left
            ·intro w'
             go_simp
             with_reducible rfl
            rotate_left
            ·simp only [Act.put,List.setIfInBounds_toArray,List.set_cons_zero,List.set_cons_succ,qav,qaw]
             rfl
            refine qaF (i:=3) (N:=some 55) (v:=undef) (a':=?_) #[true,true,true,true,false,false,false,false,false,false,false,false,false,false,false,false,false,false] rfl rfl (qay HT_.out (by kernel_rfl)) (fun _ _ _ h=>h) (Or.inr ⟨by rfl,rfl⟩) ?_ ?_
            rotate_left
            ·simp only [Act.put,List.setIfInBounds_toArray,List.set_cons_zero,List.set_cons_succ,qav,qaw]
             rfl
            refine qaF (i:=4) (N:=some 56) (v:=undef) (a':=?_) #[true,true,true,true,true,false,false,false,false,false,false,false,false,false,false,false,false,false] rfl rfl (qay HT_.out (by kernel_rfl)) (fun _ _ _ h=>h) (Or.inr ⟨by rfl,rfl⟩) ?_ ?_
            rotate_left
            ·simp only [Act.put,List.setIfInBounds_toArray,List.set_cons_zero,List.set_cons_succ,qav,qaw]
             rfl
            refine qaF (i:=5) (N:=some 57) (v:=undef) (a':=?_) #[true,true,true,true,true,true,false,false,false,false,false,false,false,false,false,false,false,false] rfl rfl (qay HT_.out (by kernel_rfl)) (fun _ _ _ h=>h) (Or.inr ⟨by rfl,rfl⟩) ?_ ?_
            rotate_left
            ·simp only [Act.put,List.setIfInBounds_toArray,List.set_cons_zero,List.set_cons_succ,qav,qaw]
             rfl
            refine qaF (i:=6) (N:=some 58) (v:=undef) (a':=?_) #[true,true,true,true,true,true,true,false,false,false,false,false,false,false,false,false,false,false] rfl rfl (qay HT_.out (by kernel_rfl)) (fun _ _ _ h=>h) (Or.inr ⟨by rfl,rfl⟩) ?_ ?_
            rotate_left
            ·simp only [Act.put,List.setIfInBounds_toArray,List.set_cons_zero,List.set_cons_succ,qav,qaw]
             rfl
            refine qaF (i:=7) (N:=some 59) (v:=undef) (a':=?_) #[true,true,true,true,true,true,true,true,false,false,false,false,false,false,false,false,false,false] rfl rfl (qay HT_.out (by kernel_rfl)) (fun _ _ _ h=>h) (Or.inr ⟨by rfl,rfl⟩) ?_ ?_
            rotate_left
            ·simp only [Act.put,List.setIfInBounds_toArray,List.set_cons_zero,List.set_cons_succ,qav,qaw]
             rfl
            refine qaF (i:=8) (N:=some 60) (v:=undef) (a':=?_) #[true,true,true,true,true,true,true,true,true,false,false,false,false,false,false,false,false,false] rfl rfl (qay HT_.out (by kernel_rfl)) (fun _ _ _ h=>h) (Or.inr ⟨by rfl,rfl⟩) ?_ ?_
            rotate_left
            ·simp only [Act.put,List.setIfInBounds_toArray,List.set_cons_zero,List.set_cons_succ,qav,qaw]
             rfl
            refine qaF (i:=9) (N:=some 61) (v:=undef) (a':=?_) #[true,true,true,true,true,true,true,true,true,true,false,false,false,false,false,false,false,false] rfl rfl (qay HT_.out (by kernel_rfl)) (fun _ _ _ h=>h) (Or.inr ⟨by rfl,rfl⟩) ?_ ?_
            rotate_left
            ·simp only [Act.put,List.setIfInBounds_toArray,List.set_cons_zero,List.set_cons_succ,qav,qaw]
             rfl
            refine qaF (i:=10) (N:=some 62) (v:=undef) (a':=?_) #[true,true,true,true,true,true,true,true,true,true,true,false,false,false,false,false,false,false] rfl rfl (qay HT_.out (by kernel_rfl)) (fun _ _ _ h=>h) (Or.inr ⟨by rfl,rfl⟩) ?_ ?_
            rotate_left
            ·simp only [Act.put,List.setIfInBounds_toArray,List.set_cons_zero,List.set_cons_succ,qav,qaw]
             rfl
            refine qaF (i:=11) (N:=some 63) (v:=undef) (a':=?_) #[true,true,true,true,true,true,true,true,true,true,true,true,false,false,false,false,false,false] rfl rfl (qay HT_.out (by kernel_rfl)) (fun _ _ _ h=>h) (Or.inr ⟨by rfl,rfl⟩) ?_ ?_
            rotate_left
            ·simp only [Act.put,List.setIfInBounds_toArray,List.set_cons_zero,List.set_cons_succ,qav,qaw]
             rfl
            refine qaF (i:=12) (N:=some 64) (v:=undef) (a':=?_) #[true,true,true,true,true,true,true,true,true,true,true,true,true,false,false,false,false,false] rfl rfl (qay HT_.out (by kernel_rfl)) (fun _ _ _ h=>h) (Or.inr ⟨by rfl,rfl⟩) ?_ ?_
            rotate_left
            ·simp only [Act.put,List.setIfInBounds_toArray,List.set_cons_zero,List.set_cons_succ,qav,qaw]
             rfl
            refine qaF (i:=13) (N:=some 65) (v:=undef) (a':=?_) #[true,true,true,true,true,true,true,true,true,true,true,true,true,true,false,false,false,false] rfl rfl (qay HT_.out (by kernel_rfl)) (fun _ _ _ h=>h) (Or.inr ⟨by rfl,rfl⟩) ?_ ?_
            rotate_left
            ·simp only [Act.put,List.setIfInBounds_toArray,List.set_cons_zero,List.set_cons_succ,qav,qaw]
             rfl
            refine qaF (i:=14) (N:=some 66) (v:=undef) (a':=?_) #[true,true,true,true,true,true,true,true,true,true,true,true,true,true,true,false,false,false] rfl rfl (qay HT_.out (by kernel_rfl)) (fun _ _ _ h=>h) (Or.inr ⟨by rfl,rfl⟩) ?_ ?_
            rotate_left
            ·simp only [Act.put,List.setIfInBounds_toArray,List.set_cons_zero,List.set_cons_succ,qav,qaw]
             rfl
            refine qaF (i:=15) (N:=some 67) (v:=undef) (a':=?_) #[true,true,true,true,true,true,true,true,true,true,true,true,true,true,true,true,false,false] rfl rfl (qay HT_.out (by kernel_rfl)) (fun _ _ _ h=>h) (Or.inr ⟨by rfl,rfl⟩) ?_ ?_
            rotate_left
            ·simp only [Act.put,List.setIfInBounds_toArray,List.set_cons_zero,List.set_cons_succ,qav,qaw]
             rfl
            refine qaF (i:=16) (N:=some 68) (v:=undef) (a':=?_) #[true,true,true,true,true,true,true,true,true,true,true,true,true,true,true,true,true,false] rfl rfl (qay HT_.out (by kernel_rfl)) (fun _ _ _ h=>h) (Or.inr ⟨by rfl,rfl⟩) ?_ ?_
            rotate_left
            ·simp only [Act.put,List.setIfInBounds_toArray,List.set_cons_zero,List.set_cons_succ,qav,qaw]
             rfl
            refine qaF (i:=17) (N:=some 69) (v:=?_) (a':=?_) #[true,true,true,true,true,true,true,true,true,true,true,true,true,true,true,true,true,true] rfl rfl (qay HT_.out (by kernel_rfl)) (fun _ _ _ h=>h) (Or.inl ⟨by rfl,?_⟩) ?_ ?_
            rotate_left
            ·intro w'
             go_simp
             with_reducible rfl
            rotate_left
            ·simp only [Act.put,List.setIfInBounds_toArray,List.set_cons_zero,List.set_cons_succ,qav,qaw]
             rfl
            refine done_ (done_of HT_.out (by kernel_rfl)) ?_
            try go_wp2
            go_meet
            case rel=>exact⟨_,(false),(by first|rfl|(simp;done)|(simp [*];done)),H',⟨by have:=HJ1.out;have:=HK2.out;first|omega|exact Nat.le_refl _⟩,⟨by (with_reducible repeat (first|refine qad ?_ _|refine qag ?_|refine qab ?_ _));exact BK168.out⟩,⟨by repeat (first|(with_reducible first|exact HB.out|apply qai|apply qaa|apply qah|refine qae ?_ GE168.out)|exact HB.out)⟩⟩
          case rest=>
           clear HC21
           try clear c1
           try clear p1
           try clear q1
           try clear hx1
           try clear c2
           try clear p2
           try clear c3
           try clear c4
           try clear c4b0
           try clear c6
           try clear c6b0
           try clear p6
           try clear c8
           try clear c8b0
           try clear c10
           try clear c10b0
           try clear c13
           try clear c14
           try clear c14b0
           try clear c14b1
           try clear c16
           try clear p16
           try clear q16
           try clear hx16
           try clear c17
           try clear c17b0
           try clear p17
           try clear q17
           try clear hx17
           try clear c18
           try clear c18b0
           try clear c20
           try clear c20b0
           try clear c20b1
           try clear c25
           try clear c25b0
           try clear c27
           try clear c27b0
           try clear c28
           try clear c28b0
           try clear hcz11_0
           try clear hcz11_1
           try clear hcz11_2
           try clear hcz12_0
           try clear hcz12_1
           try clear hcz12_2
           try clear hcz15_0
           try clear hcz15_1
           try clear hcz15_2
           try clear hcz16_0
           try clear hcz16_1
           try clear hcz16_2
           try clear hcz22_0
           try clear hcz22_1
           try clear hcz22_2
           try clear hcz5_0
           try clear hcz5_1
           try clear hcz5_2
           try clear hcz7_0
           try clear hcz7_1
           try clear hcz7_2
           try clear hcz9_0
           try clear hcz9_1
           try clear hcz9_2
           try clear hfz11_0
           try clear hfz11_1
           try clear hfz11_2
           try clear hfz12_0
           try clear hfz12_1
           try clear hfz12_2
           try clear hfz15_0
           try clear hfz15_1
           try clear hfz15_2
           try clear hfz16_0
           try clear hfz16_1
           try clear hfz16_2
           try clear hfz22_0
           try clear hfz22_1
           try clear hfz22_2
           try clear hfz5_0
           try clear hfz5_1
           try clear hfz5_2
           try clear hfz7_0
           try clear hfz7_1
           try clear hfz7_2
           try clear hfz9_0
           try clear hfz9_1
           try clear hfz9_2
           try clear hx169_0
           try clear hx169_1
           try clear hx169_2
           try clear hx169_3
           try clear hx169_4
           try clear hx169_5
           try clear hx169_6
           try clear hx171_0
           try clear hx171_1
           try clear hx171_2
           try clear hx171_3
           try clear hx171_4
           try clear hx171_5
           try clear hx171_6
           try clear hx172_0
           try clear hx172_1
           try clear hx172_2
           try clear hx172_3
           try clear hx172_4
           try clear hx172_5
           try clear hx172_6
           try clear p169
           try clear p171
           try clear p172
           try clear p2
           try clear q169
           try clear q171
           try clear q172
           obtain⟨kq,x69_20,rfl,HA,HJ20,BK168,HB⟩:=hcut
           cases kq with
           |zero=>exact absurd HA.out (by simp [ostinatoref05_Check.j2])
           |succ kj20=>
            have H:=HA.out
            clear HA
            simp only [ostinatoref05_Check.j2] at H
            by_cases c31:x69_20=true
            ·subst c31
             have H1:(some 10)=some r:=by rw [if_pos rfl] at H;exact H
             clear H
             have H:=H1
             clear H1
             obtain rfl:=Option.some.inj H
             go_wp2
             go_ret
             exact⟨by first|rfl|(simp [qao,qan]<;>rfl)|(simp [bneNil,bneNilU]<;>rfl)|(simp [*,qao,qan]<;>rfl),by repeat (first|(with_reducible first|exact HB.out|apply qai|apply qaa|apply qah|refine qae ?_ GE168.out)|exact HB.out)⟩
            ·replace c31:=Bool.eq_false_iff.mpr c31
             subst c31
             have H1:(ostinatoref05_Check.l1 kj20 x3_2 0 a0_0 a0_1 l0_2)=some r:=by rw [if_neg (show ¬ (false=true) by decide)] at H;exact H
             clear H
             have H:=H1
             clear H1
             have H':=qaj.mk H
             clear H
             go_wp2
             go_loopg [5] kj20 (fun kq v5 w'=>∃ (x5_4:Int),v5=.int .i64 x5_4∧qaj (ostinatoref05_Check.l1 kq x3_2 x5_4 a0_0 a0_1 l0_2=some r)∧qaj (kq≤kj20)∧qaj (w'.heap[gb168]? = some (.cells #[.int .i64 a0_0,.int .i64 a0_1,(.slice (some ad169) l0_2.length c0_2)] 32 (0,0)))∧qaj (Below w.heap.size w w'))
             case atStart=>exact⟨(0),(by first|rfl|(simp;done)|(simp [*];done)),H',⟨Nat.le_refl _⟩,⟨by (with_reducible repeat (first|refine qad ?_ _|refine qag ?_|refine qab ?_ _));exact BK168.out⟩,⟨by repeat (first|(with_reducible first|exact HB.out|apply qai|apply qaa|apply qah|refine qae ?_ GE168.out)|exact HB.out)⟩⟩
             case round=>
              clear H'
              try clear c1
              try clear p1
              try clear q1
              try clear hx1
              try clear c2
              try clear p2
              try clear c3
              try clear c4
              try clear c4b0
              try clear c6
              try clear c6b0
              try clear p6
              try clear c8
              try clear c8b0
              try clear c10
              try clear c10b0
              try clear c13
              try clear c14
              try clear c14b0
              try clear c14b1
              try clear c16
              try clear p16
              try clear q16
              try clear hx16
              try clear c17
              try clear c17b0
              try clear p17
              try clear q17
              try clear hx17
              try clear c18
              try clear c18b0
              try clear c20
              try clear c20b0
              try clear c20b1
              try clear c25
              try clear c25b0
              try clear c27
              try clear c27b0
              try clear c28
              try clear c28b0
              try clear c31
              try clear hcz11_0
              try clear hcz11_1
              try clear hcz11_2
              try clear hcz12_0
              try clear hcz12_1
              try clear hcz12_2
              try clear hcz15_0
              try clear hcz15_1
              try clear hcz15_2
              try clear hcz16_0
              try clear hcz16_1
              try clear hcz16_2
              try clear hcz22_0
              try clear hcz22_1
              try clear hcz22_2
              try clear hcz5_0
              try clear hcz5_1
              try clear hcz5_2
              try clear hcz7_0
              try clear hcz7_1
              try clear hcz7_2
              try clear hcz9_0
              try clear hcz9_1
              try clear hcz9_2
              try clear hfz11_0
              try clear hfz11_1
              try clear hfz11_2
              try clear hfz12_0
              try clear hfz12_1
              try clear hfz12_2
              try clear hfz15_0
              try clear hfz15_1
              try clear hfz15_2
              try clear hfz16_0
              try clear hfz16_1
              try clear hfz16_2
              try clear hfz22_0
              try clear hfz22_1
              try clear hfz22_2
              try clear hfz5_0
              try clear hfz5_1
              try clear hfz5_2
              try clear hfz7_0
              try clear hfz7_1
              try clear hfz7_2
              try clear hfz9_0
              try clear hfz9_1
              try clear hfz9_2
              try clear hx169_0
              try clear hx169_1
              try clear hx169_2
              try clear hx169_3
              try clear hx169_4
              try clear hx169_5
              try clear hx169_6
              try clear hx171_0
              try clear hx171_1
              try clear hx171_2
              try clear hx171_3
              try clear hx171_4
              try clear hx171_5
              try clear hx171_6
              try clear hx172_0
              try clear hx172_1
              try clear hx172_2
              try clear hx172_3
              try clear hx172_4
              try clear hx172_5
              try clear hx172_6
              try clear p1
              try clear p16
              try clear p169
              try clear p17
              try clear p171
              try clear p172
              try clear p2
              try clear p6
              try clear q1
              try clear q16
              try clear q169
              try clear q17
              try clear q171
              try clear q172
              obtain⟨x5_4,rfl,HA,HK4,BK168,HB⟩:=hrel
              cases gk with
              |zero=>exact absurd HA.out (by simp [ostinatoref05_Check.l1])
              |succ k4=>
               have H:=HA.out
               clear HA
               simp only [ostinatoref05_Check.l1] at H
               by_cases c32:x5_4<x3_2
               ·rw [if_pos c32] at H
                have c32b0:decide (x5_4<x3_2)=true:=decide_eq_true c32
                clear c32
                by_cases c33:0≤x5_4
                ·rw [if_pos c33] at H
                 have c33b0:decide (0≤x5_4)=true:=decide_eq_true c33
                 clear c33
                 by_cases c34:x5_4<(l0_2.length:Int)
                 ·rw [if_pos c34] at H
                  have c34b0:decide (x5_4<(l0_2.length:Int))=true:=decide_eq_true c34
                  clear c34
                  by_cases c35:0≤x3_2
                  ·rw [if_pos c35] at H
                   have c35b0:decide (0≤x3_2)=true:=decide_eq_true c35
                   clear c35
                   by_cases c36:x3_2<(l0_2.length:Int)
                   ·rw [if_pos c36] at H
                    have c36b0:decide (x3_2<(l0_2.length:Int))=true:=decide_eq_true c36
                    clear c36
                    by_cases c37:((qar l0_2 x5_4).f4)=((qar l0_2 x3_2).f4)
                    ·rw [if_pos c37] at H
                     have c37b0:(((qar l0_2 x5_4).f4) == ((qar l0_2 x3_2).f4))=true:=beq_iff_eq.mpr c37
                     have c37b1:(((qar l0_2 x5_4).f4) != ((qar l0_2 x3_2).f4))=false:=bne_eq_false_iff_eq.mpr c37
                     clear c37
                     obtain rfl:=Option.some.inj H
                     try go_wp2
                     have n0_:=qaj.mk (qag BK168.out)
                     have n1_:=qaj.mk (qah HB.out)
                     clear BK168
                     clear HB
                     have BK168:=n0_
                     have HB:=n1_
                     clear n0_ n1_
                     have p173:0≤(x5_4:Int):=of_decide_eq_true (by first|(with_reducible assumption)|assumption)
                     have q173:x5_4<(l0_2.length:Int):=of_decide_eq_true (by first|(with_reducible assumption)|assumption)
                     obtain⟨ad173,A173_5,c173_5,A173_6,c173_6,e173,hx173_0,hx173_1,hx173_2,hx173_3,hx173_4,hx173_5,hx173_6,hl173_5,hi173_5,hl173_6,hi173_6⟩:=at_T52 HR0_2.out x5_4 p173 q173
                     have hw173_6:=hx173_6
                     have hw173_5:=hx173_5
                     have hw173_4:=hx173_4
                     have hw173_3:=hx173_3
                     have hw173_2:=hx173_2
                     have hw173_1:=hx173_1
                     have hw173_0:=hx173_0
                     obtain rfl:ad169=ad173:=(by injection e173)
                     replace hx173_0:=(HB.out.cell (bLt w _ hx173_0)).trans hx173_0
                     replace hx173_1:=(HB.out.cell (bLt w _ hx173_1)).trans hx173_1
                     replace hx173_2:=(HB.out.cell (bLt w _ hx173_2)).trans hx173_2
                     replace hx173_3:=(HB.out.cell (bLt w _ hx173_3)).trans hx173_3
                     replace hx173_4:=(HB.out.cell (bLt w _ hx173_4)).trans hx173_4
                     replace hx173_5:=(HB.out.cell (bLt w _ hx173_5)).trans hx173_5
                     replace hx173_6:=(HB.out.cell (bLt w _ hx173_6)).trans hx173_6
                     have HR173_5:=qaj.mk hi173_5
                     have HC173_5:=qaj.mk hl173_5
                     clear hi173_5 hl173_5
                     have HR173_6:=qaj.mk hi173_6
                     have HC173_6:=qaj.mk hl173_6
                     clear hi173_6 hl173_6
                     replace p173:=eq_true p173
                     replace q173:=eq_true q173
                     have p174:0≤(x3_2:Int):=of_decide_eq_true (by first|(with_reducible assumption)|assumption)
                     have q174:x3_2<(l0_2.length:Int):=of_decide_eq_true (by first|(with_reducible assumption)|assumption)
                     obtain⟨ad174,A174_5,c174_5,A174_6,c174_6,e174,hx174_0,hx174_1,hx174_2,hx174_3,hx174_4,hx174_5,hx174_6,hl174_5,hi174_5,hl174_6,hi174_6⟩:=at_T52 HR0_2.out x3_2 p174 q174
                     have hw174_6:=hx174_6
                     have hw174_5:=hx174_5
                     have hw174_4:=hx174_4
                     have hw174_3:=hx174_3
                     have hw174_2:=hx174_2
                     have hw174_1:=hx174_1
                     have hw174_0:=hx174_0
                     obtain rfl:ad169=ad174:=(by injection e174)
                     replace hx174_0:=(HB.out.cell (bLt w _ hx174_0)).trans hx174_0
                     replace hx174_1:=(HB.out.cell (bLt w _ hx174_1)).trans hx174_1
                     replace hx174_2:=(HB.out.cell (bLt w _ hx174_2)).trans hx174_2
                     replace hx174_3:=(HB.out.cell (bLt w _ hx174_3)).trans hx174_3
                     replace hx174_4:=(HB.out.cell (bLt w _ hx174_4)).trans hx174_4
                     replace hx174_5:=(HB.out.cell (bLt w _ hx174_5)).trans hx174_5
                     replace hx174_6:=(HB.out.cell (bLt w _ hx174_6)).trans hx174_6
                     have HR174_5:=qaj.mk hi174_5
                     have HC174_5:=qaj.mk hl174_5
                     clear hi174_5 hl174_5
                     have HR174_6:=qaj.mk hi174_6
                     have HC174_6:=qaj.mk hl174_6
                     clear hi174_6 hl174_6
                     replace p174:=eq_true p174
                     replace q174:=eq_true q174
                     refine start_ (n:=13) (S:=fun w'=>w'.cell? ⟨gb168,0,none⟩=some (.int .i64 a0_0)∧w'.cell? ⟨gb168,1,none⟩=some (.int .i64 a0_1)∧w'.cell? ⟨gb168,2,none⟩=some (.slice (some ad169) l0_2.length c0_2)∧w'.cell? (ad169.add ((x5_4).toNat * 7))=some (.int .i64 ((qar l0_2 x5_4).f0))∧w'.cell? ⟨(ad169.add ((x5_4).toNat * 7)).block,(ad169.add ((x5_4).toNat * 7)).off+1,none⟩=some (.int .i64 ((qar l0_2 x5_4).f1))∧w'.cell? ⟨(ad169.add ((x5_4).toNat * 7)).block,(ad169.add ((x5_4).toNat * 7)).off+2,none⟩=some (.int .i64 ((qar l0_2 x5_4).f2))∧w'.cell? ⟨(ad169.add ((x5_4).toNat * 7)).block,(ad169.add ((x5_4).toNat * 7)).off+3,none⟩=some (.int .i64 ((qar l0_2 x5_4).f3))∧w'.cell? ⟨(ad169.add ((x5_4).toNat * 7)).block,(ad169.add ((x5_4).toNat * 7)).off+4,none⟩=some (.int .i64 ((qar l0_2 x5_4).f4))∧w'.cell? ⟨(ad169.add ((x5_4).toNat * 7)).block,(ad169.add ((x5_4).toNat * 7)).off+5,none⟩=some (.slice A173_5 ((qar l0_2 x5_4).f5).length c173_5)∧w'.cell? ⟨(ad169.add ((x5_4).toNat * 7)).block,(ad169.add ((x5_4).toNat * 7)).off+6,none⟩=some (.slice A173_6 ((qar l0_2 x5_4).f6).length c173_6)∧w'.cell? (ad169.add ((x3_2).toNat * 7))=some (.int .i64 ((qar l0_2 x3_2).f0))∧w'.cell? ⟨(ad169.add ((x3_2).toNat * 7)).block,(ad169.add ((x3_2).toNat * 7)).off+1,none⟩=some (.int .i64 ((qar l0_2 x3_2).f1))∧w'.cell? ⟨(ad169.add ((x3_2).toNat * 7)).block,(ad169.add ((x3_2).toNat * 7)).off+2,none⟩=some (.int .i64 ((qar l0_2 x3_2).f2))∧w'.cell? ⟨(ad169.add ((x3_2).toNat * 7)).block,(ad169.add ((x3_2).toNat * 7)).off+3,none⟩=some (.int .i64 ((qar l0_2 x3_2).f3))∧w'.cell? ⟨(ad169.add ((x3_2).toNat * 7)).block,(ad169.add ((x3_2).toNat * 7)).off+4,none⟩=some (.int .i64 ((qar l0_2 x3_2).f4))∧w'.cell? ⟨(ad169.add ((x3_2).toNat * 7)).block,(ad169.add ((x3_2).toNat * 7)).off+5,none⟩=some (.slice A174_5 ((qar l0_2 x3_2).f5).length c174_5)∧w'.cell? ⟨(ad169.add ((x3_2).toNat * 7)).block,(ad169.add ((x3_2).toNat * 7)).off+6,none⟩=some (.slice A174_6 ((qar l0_2 x3_2).f6).length c174_6)) (ds:=[]) #[false,false,false,false,false,false,false,false,false,false,false,false,false] (by kernel_rfl) rfl rfl ⟨(qaf BK168.out 0).trans rfl,(qaf BK168.out 1).trans rfl,(qaf BK168.out 2).trans rfl,((HB.out.cell (bLt w _ hw173_0)).trans hw173_0),((HB.out.cell (bLt w _ hw173_1)).trans hw173_1),((HB.out.cell (bLt w _ hw173_2)).trans hw173_2),((HB.out.cell (bLt w _ hw173_3)).trans hw173_3),((HB.out.cell (bLt w _ hw173_4)).trans hw173_4),((HB.out.cell (bLt w _ hw173_5)).trans hw173_5),((HB.out.cell (bLt w _ hw173_6)).trans hw173_6),((HB.out.cell (bLt w _ hw174_0)).trans hw174_0),((HB.out.cell (bLt w _ hw174_1)).trans hw174_1),((HB.out.cell (bLt w _ hw174_2)).trans hw174_2),((HB.out.cell (bLt w _ hw174_3)).trans hw174_3),((HB.out.cell (bLt w _ hw174_4)).trans hw174_4),((HB.out.cell (bLt w _ hw174_5)).trans hw174_5),((HB.out.cell (bLt w _ hw174_6)).trans hw174_6)⟩ (fun hHeld=>?_);refine qa1 ostinatoref05_Check.tab16 ostinatoref05_Check.bits16 (fun HT_ HW_=>?_)
                     generalize wr.drew=w38 at BK168 HB HR173_5 HR173_6 HR174_5 HR174_6 hx173_0 hx173_1 hx173_2 hx173_3 hx173_4 hx173_5 hx173_6 hx174_0 hx174_1 hx174_2 hx174_3 hx174_4 hx174_5 hx174_6 hHeld ⊢
                     refine qaF (i:=0) (N:=some 75) (v:=?_) (a':=?_) #[true,false,false,false,false,false,false,false,false,false,false,false,false] rfl rfl (qay HT_.out (by kernel_rfl)) (fun _ _ _ h=>h) (Or.inl ⟨by rfl,?_⟩) ?_ ?_
                     rotate_left
                     ·intro w'
                      go_simp
                      with_reducible rfl
                     rotate_left
                     ·simp only [Act.put,List.setIfInBounds_toArray,List.set_cons_zero,List.set_cons_succ,qav,qaw]
                      rfl
                     refine qaF (i:=2) (N:=some 77) (v:=?_) (a':=?_) #[true,false,true,false,false,false,false,false,false,false,false,false,false] rfl rfl (qay HT_.out (by kernel_rfl)) (fun _ _ _ h=>h) (Or.inl ⟨by rfl,?_⟩) ?_ ?_
                     rotate_left
                     ·intro w'
                      go_simp
                      with_reducible rfl
                     rotate_left
                     ·simp only [Act.put,List.setIfInBounds_toArray,List.set_cons_zero,List.set_cons_succ,qav,qaw]
                      rfl
                     refine qaF (i:=6) (N:=some 81) (v:=?_) (a':=?_) #[true,false,true,false,false,false,true,false,false,false,false,false,false] rfl rfl (qay HT_.out (by kernel_rfl)) (fun _ _ _ h=>h) (Or.inl ⟨by rfl,?_⟩) ?_ ?_
                     rotate_left
                     ·intro w'
                      go_simp
                      with_reducible rfl
                     rotate_left
                     ·simp only [Act.put,List.setIfInBounds_toArray,List.set_cons_zero,List.set_cons_succ,qav,qaw]
                      rfl
                     refine qaF (i:=8) (N:=some 83) (v:=?_) (a':=?_) #[true,false,true,false,false,false,true,false,true,false,false,false,false] rfl rfl (qay HT_.out (by kernel_rfl)) (fun _ _ _ h=>h) (Or.inl ⟨by rfl,?_⟩) ?_ ?_
                     rotate_left
                     ·intro w'
                      go_simp
                      with_reducible rfl
                     rotate_left
                     ·simp only [Act.put,List.setIfInBounds_toArray,List.set_cons_zero,List.set_cons_succ,qav,qaw]
                      rfl
                     refine qa5 (i:=1) (N:=some 76) (v:=?_) (a':=?_) #[true,true,true,false,false,false,true,false,true,false,false,false,false] rfl rfl (qaI HT_.out HW_.out (by kernel_rfl)) (fun _ _ _ h=>h) (Or.inl ⟨by rfl,?_⟩) hHeld ?_ ?_
                     rotate_left
                     ·rintro w' ⟨s0,s1,s2,s3,s4,s5,s6,s7,s8,s9,s10,s11,s12,s13,s14,s15,s16⟩
                      go_simp
                      with_reducible rfl
                     rotate_left
                     ·simp only [Act.put,List.setIfInBounds_toArray,List.set_cons_zero,List.set_cons_succ,qav,qaw]
                      rfl
                     refine qaF (i:=3) (N:=some 78) (v:=?_) (a':=?_) #[true,true,true,true,false,false,true,false,true,false,false,false,false] rfl rfl (qay HT_.out (by kernel_rfl)) (fun _ _ _ h=>h) (Or.inl ⟨by rfl,?_⟩) ?_ ?_
                     rotate_left
                     ·intro w'
                      go_simp
                      with_reducible rfl
                     rotate_left
                     ·simp only [Act.put,List.setIfInBounds_toArray,List.set_cons_zero,List.set_cons_succ,qav,qaw]
                      rfl
                     refine qaF (i:=4) (N:=some 79) (v:=?_) (a':=?_) #[true,true,true,true,true,false,true,false,true,false,false,false,false] rfl rfl (qay HT_.out (by kernel_rfl)) (fun _ _ _ h=>h) (Or.inl ⟨by rfl,?_⟩) ?_ ?_
                     rotate_left
                     ·intro w'
                      go_simp
                      with_reducible rfl
                     rotate_left
                     ·simp only [Act.put,List.setIfInBounds_toArray,List.set_cons_zero,List.set_cons_succ,qav,qaw]
                      rfl
                     refine qa5 (i:=5) (N:=some 80) (v:=?_) (a':=?_) #[true,true,true,true,true,true,true,false,true,false,false,false,false] rfl rfl (qaI HT_.out HW_.out (by kernel_rfl)) (fun _ _ _ h=>h) (Or.inl ⟨by rfl,?_⟩) hHeld ?_ ?_
                     rotate_left
                     ·rintro w' ⟨s0,s1,s2,s3,s4,s5,s6,s7,s8,s9,s10,s11,s12,s13,s14,s15,s16⟩
                      go_simp
                      with_reducible rfl
                     rotate_left
                     ·simp only [Act.put,List.setIfInBounds_toArray,List.set_cons_zero,List.set_cons_succ,qav,qaw]
                      rfl
                     refine qa5 (i:=7) (N:=some 82) (v:=?_) (a':=?_) #[true,true,true,true,true,true,true,true,true,false,false,false,false] rfl rfl (qaI HT_.out HW_.out (by kernel_rfl)) (fun _ _ _ h=>h) (Or.inl ⟨by rfl,?_⟩) hHeld ?_ ?_
                     rotate_left
                     ·rintro w' ⟨s0,s1,s2,s3,s4,s5,s6,s7,s8,s9,s10,s11,s12,s13,s14,s15,s16⟩
                      go_simp
                      with_reducible rfl
                     rotate_left
                     ·simp only [Act.put,List.setIfInBounds_toArray,List.set_cons_zero,List.set_cons_succ,qav,qaw]
                      rfl
                     refine qaF (i:=9) (N:=some 84) (v:=?_) (a':=?_) #[true,true,true,true,true,true,true,true,true,true,false,false,false] rfl rfl (qay HT_.out (by kernel_rfl)) (fun _ _ _ h=>h) (Or.inl ⟨by rfl,?_⟩) ?_ ?_
                     rotate_left
                     ·intro w'
                      go_simp
                      with_reducible rfl
                     rotate_left
                     ·simp only [Act.put,List.setIfInBounds_toArray,List.set_cons_zero,List.set_cons_succ,qav,qaw]
                      rfl
                     refine qaF (i:=10) (N:=some 85) (v:=?_) (a':=?_) #[true,true,true,true,true,true,true,true,true,true,true,false,false] rfl rfl (qay HT_.out (by kernel_rfl)) (fun _ _ _ h=>h) (Or.inl ⟨by rfl,?_⟩) ?_ ?_
                     rotate_left
                     ·intro w'
                      go_simp
                      with_reducible rfl
                     rotate_left
                     ·simp only [Act.put,List.setIfInBounds_toArray,List.set_cons_zero,List.set_cons_succ,qav,qaw]
                      rfl
                     refine qa5 (i:=11) (N:=some 86) (v:=?_) (a':=?_) #[true,true,true,true,true,true,true,true,true,true,true,true,false] rfl rfl (qaI HT_.out HW_.out (by kernel_rfl)) (fun _ _ _ h=>h) (Or.inl ⟨by rfl,?_⟩) hHeld ?_ ?_
                     rotate_left
                     ·rintro w' ⟨s0,s1,s2,s3,s4,s5,s6,s7,s8,s9,s10,s11,s12,s13,s14,s15,s16⟩
                      go_simp
                      with_reducible rfl
                     rotate_left
                     ·simp only [Act.put,List.setIfInBounds_toArray,List.set_cons_zero,List.set_cons_succ,qav,qaw]
                      rfl
                     refine qaF (i:=12) (N:=some 87) (v:=?_) (a':=?_) #[true,true,true,true,true,true,true,true,true,true,true,true,true] rfl rfl (qay HT_.out (by kernel_rfl)) (fun _ _ _ h=>h) (Or.inl ⟨by rfl,?_⟩) ?_ ?_
                     rotate_left
                     ·intro w'
                      go_simp
                      with_reducible rfl
                     rotate_left
                     ·simp only [Act.put,List.setIfInBounds_toArray,List.set_cons_zero,List.set_cons_succ,qav,qaw]
                      rfl
                     refine done_ (done_of HT_.out (by kernel_rfl)) ?_
                     try go_wp2
                     go_ret
                     exact⟨by first|rfl|(simp [qao,qan]<;>rfl)|(simp [bneNil,bneNilU]<;>rfl)|(simp [*,qao,qan]<;>rfl),by repeat (first|(with_reducible first|exact HB.out|apply qai|apply qaa|apply qah|refine qae ?_ GE168.out)|exact HB.out)⟩
                    ·rw [if_neg c37] at H
                     have c37b0:(((qar l0_2 x5_4).f4) == ((qar l0_2 x3_2).f4))=false:=beq_eq_false_iff_ne.mpr c37
                     have c37b1:(((qar l0_2 x5_4).f4) != ((qar l0_2 x3_2).f4))=true:=bne_iff_ne.mpr c37
                     have H':=qaj.mk H
                     clear H
                     try go_wp2
                     have n0_:=qaj.mk (qag BK168.out)
                     have n1_:=qaj.mk (qah HB.out)
                     clear BK168
                     clear HB
                     have BK168:=n0_
                     have HB:=n1_
                     clear n0_ n1_
                     have p173:0≤(x5_4:Int):=of_decide_eq_true (by first|(with_reducible assumption)|assumption)
                     have q173:x5_4<(l0_2.length:Int):=of_decide_eq_true (by first|(with_reducible assumption)|assumption)
                     obtain⟨ad173,A173_5,c173_5,A173_6,c173_6,e173,hx173_0,hx173_1,hx173_2,hx173_3,hx173_4,hx173_5,hx173_6,hl173_5,hi173_5,hl173_6,hi173_6⟩:=at_T52 HR0_2.out x5_4 p173 q173
                     have hw173_6:=hx173_6
                     have hw173_5:=hx173_5
                     have hw173_4:=hx173_4
                     have hw173_3:=hx173_3
                     have hw173_2:=hx173_2
                     have hw173_1:=hx173_1
                     have hw173_0:=hx173_0
                     obtain rfl:ad169=ad173:=(by injection e173)
                     replace hx173_0:=(HB.out.cell (bLt w _ hx173_0)).trans hx173_0
                     replace hx173_1:=(HB.out.cell (bLt w _ hx173_1)).trans hx173_1
                     replace hx173_2:=(HB.out.cell (bLt w _ hx173_2)).trans hx173_2
                     replace hx173_3:=(HB.out.cell (bLt w _ hx173_3)).trans hx173_3
                     replace hx173_4:=(HB.out.cell (bLt w _ hx173_4)).trans hx173_4
                     replace hx173_5:=(HB.out.cell (bLt w _ hx173_5)).trans hx173_5
                     replace hx173_6:=(HB.out.cell (bLt w _ hx173_6)).trans hx173_6
                     have HR173_5:=qaj.mk hi173_5
                     have HC173_5:=qaj.mk hl173_5
                     clear hi173_5 hl173_5
                     have HR173_6:=qaj.mk hi173_6
                     have HC173_6:=qaj.mk hl173_6
                     clear hi173_6 hl173_6
                     replace p173:=eq_true p173
                     replace q173:=eq_true q173
                     have p174:0≤(x3_2:Int):=of_decide_eq_true (by first|(with_reducible assumption)|assumption)
                     have q174:x3_2<(l0_2.length:Int):=of_decide_eq_true (by first|(with_reducible assumption)|assumption)
                     obtain⟨ad174,A174_5,c174_5,A174_6,c174_6,e174,hx174_0,hx174_1,hx174_2,hx174_3,hx174_4,hx174_5,hx174_6,hl174_5,hi174_5,hl174_6,hi174_6⟩:=at_T52 HR0_2.out x3_2 p174 q174
                     have hw174_6:=hx174_6
                     have hw174_5:=hx174_5
                     have hw174_4:=hx174_4
                     have hw174_3:=hx174_3
                     have hw174_2:=hx174_2
                     have hw174_1:=hx174_1
                     have hw174_0:=hx174_0
                     obtain rfl:ad169=ad174:=(by injection e174)
                     replace hx174_0:=(HB.out.cell (bLt w _ hx174_0)).trans hx174_0
                     replace hx174_1:=(HB.out.cell (bLt w _ hx174_1)).trans hx174_1
                     replace hx174_2:=(HB.out.cell (bLt w _ hx174_2)).trans hx174_2
                     replace hx174_3:=(HB.out.cell (bLt w _ hx174_3)).trans hx174_3
                     replace hx174_4:=(HB.out.cell (bLt w _ hx174_4)).trans hx174_4
                     replace hx174_5:=(HB.out.cell (bLt w _ hx174_5)).trans hx174_5
                     replace hx174_6:=(HB.out.cell (bLt w _ hx174_6)).trans hx174_6
                     have HR174_5:=qaj.mk hi174_5
                     have HC174_5:=qaj.mk hl174_5
                     clear hi174_5 hl174_5
                     have HR174_6:=qaj.mk hi174_6
                     have HC174_6:=qaj.mk hl174_6
                     clear hi174_6 hl174_6
                     replace p174:=eq_true p174
                     replace q174:=eq_true q174
                     refine start_ (n:=13) (S:=fun w'=>w'.cell? ⟨gb168,0,none⟩=some (.int .i64 a0_0)∧w'.cell? ⟨gb168,1,none⟩=some (.int .i64 a0_1)∧w'.cell? ⟨gb168,2,none⟩=some (.slice (some ad169) l0_2.length c0_2)∧w'.cell? (ad169.add ((x5_4).toNat * 7))=some (.int .i64 ((qar l0_2 x5_4).f0))∧w'.cell? ⟨(ad169.add ((x5_4).toNat * 7)).block,(ad169.add ((x5_4).toNat * 7)).off+1,none⟩=some (.int .i64 ((qar l0_2 x5_4).f1))∧w'.cell? ⟨(ad169.add ((x5_4).toNat * 7)).block,(ad169.add ((x5_4).toNat * 7)).off+2,none⟩=some (.int .i64 ((qar l0_2 x5_4).f2))∧w'.cell? ⟨(ad169.add ((x5_4).toNat * 7)).block,(ad169.add ((x5_4).toNat * 7)).off+3,none⟩=some (.int .i64 ((qar l0_2 x5_4).f3))∧w'.cell? ⟨(ad169.add ((x5_4).toNat * 7)).block,(ad169.add ((x5_4).toNat * 7)).off+4,none⟩=some (.int .i64 ((qar l0_2 x5_4).f4))∧w'.cell? ⟨(ad169.add ((x5_4).toNat * 7)).block,(ad169.add ((x5_4).toNat * 7)).off+5,none⟩=some (.slice A173_5 ((qar l0_2 x5_4).f5).length c173_5)∧w'.cell? ⟨(ad169.add ((x5_4).toNat * 7)).block,(ad169.add ((x5_4).toNat * 7)).off+6,none⟩=some (.slice A173_6 ((qar l0_2 x5_4).f6).length c173_6)∧w'.cell? (ad169.add ((x3_2).toNat * 7))=some (.int .i64 ((qar l0_2 x3_2).f0))∧w'.cell? ⟨(ad169.add ((x3_2).toNat * 7)).block,(ad169.add ((x3_2).toNat * 7)).off+1,none⟩=some (.int .i64 ((qar l0_2 x3_2).f1))∧w'.cell? ⟨(ad169.add ((x3_2).toNat * 7)).block,(ad169.add ((x3_2).toNat * 7)).off+2,none⟩=some (.int .i64 ((qar l0_2 x3_2).f2))∧w'.cell? ⟨(ad169.add ((x3_2).toNat * 7)).block,(ad169.add ((x3_2).toNat * 7)).off+3,none⟩=some (.int .i64 ((qar l0_2 x3_2).f3))∧w'.cell? ⟨(ad169.add ((x3_2).toNat * 7)).block,(ad169.add ((x3_2).toNat * 7)).off+4,none⟩=some (.int .i64 ((qar l0_2 x3_2).f4))∧w'.cell? ⟨(ad169.add ((x3_2).toNat * 7)).block,(ad169.add ((x3_2).toNat * 7)).off+5,none⟩=some (.slice A174_5 ((qar l0_2 x3_2).f5).length c174_5)∧w'.cell? ⟨(ad169.add ((x3_2).toNat * 7)).block,(ad169.add ((x3_2).toNat * 7)).off+6,none⟩=some (.slice A174_6 ((qar l0_2 x3_2).f6).length c174_6)) (ds:=[]) #[false,false,false,false,false,false,false,false,false,false,false,false,false] (by kernel_rfl) rfl rfl ⟨(qaf BK168.out 0).trans rfl,(qaf BK168.out 1).trans rfl,(qaf BK168.out 2).trans rfl,((HB.out.cell (bLt w _ hw173_0)).trans hw173_0),((HB.out.cell (bLt w _ hw173_1)).trans hw173_1),((HB.out.cell (bLt w _ hw173_2)).trans hw173_2),((HB.out.cell (bLt w _ hw173_3)).trans hw173_3),((HB.out.cell (bLt w _ hw173_4)).trans hw173_4),((HB.out.cell (bLt w _ hw173_5)).trans hw173_5),((HB.out.cell (bLt w _ hw173_6)).trans hw173_6),((HB.out.cell (bLt w _ hw174_0)).trans hw174_0),((HB.out.cell (bLt w _ hw174_1)).trans hw174_1),((HB.out.cell (bLt w _ hw174_2)).trans hw174_2),((HB.out.cell (bLt w _ hw174_3)).trans hw174_3),((HB.out.cell (bLt w _ hw174_4)).trans hw174_4),((HB.out.cell (bLt w _ hw174_5)).trans hw174_5),((HB.out.cell (bLt w _ hw174_6)).trans hw174_6)⟩ (fun hHeld=>?_);refine qa1 ostinatoref05_Check.tab16 ostinatoref05_Check.bits16 (fun HT_ HW_=>?_)
                     generalize wr.drew=w39 at BK168 HB HR173_5 HR173_6 HR174_5 HR174_6 hx173_0 hx173_1 hx173_2 hx173_3 hx173_4 hx173_5 hx173_6 hx174_0 hx174_1 hx174_2 hx174_3 hx174_4 hx174_5 hx174_6 hHeld ⊢
                     refine qaF (i:=0) (N:=some 75) (v:=?_) (a':=?_) #[true,false,false,false,false,false,false,false,false,false,false,false,false] rfl rfl (qay HT_.out (by kernel_rfl)) (fun _ _ _ h=>h) (Or.inl ⟨by rfl,?_⟩) ?_ ?_
                     rotate_left
                     ·intro w'
                      go_simp
                      with_reducible rfl
                     rotate_left
                     ·simp only [Act.put,List.setIfInBounds_toArray,List.set_cons_zero,List.set_cons_succ,qav,qaw]
                      rfl
                     refine qaF (i:=2) (N:=some 77) (v:=?_) (a':=?_) #[true,false,true,false,false,false,false,false,false,false,false,false,false] rfl rfl (qay HT_.out (by kernel_rfl)) (fun _ _ _ h=>h) (Or.inl ⟨by rfl,?_⟩) ?_ ?_
                     rotate_left
                     ·intro w'
                      go_simp
                      with_reducible rfl
                     rotate_left
                     ·simp only [Act.put,List.setIfInBounds_toArray,List.set_cons_zero,List.set_cons_succ,qav,qaw]
                      rfl
                     refine qaF (i:=6) (N:=some 81) (v:=?_) (a':=?_) #[true,false,true,false,false,false,true,false,false,false,false,false,false] rfl rfl (qay HT_.out (by kernel_rfl)) (fun _ _ _ h=>h) (Or.inl ⟨by rfl,?_⟩) ?_ ?_
                     rotate_left
                     ·intro w'
                      go_simp
                      with_reducible rfl
                     rotate_left
                     ·simp only [Act.put,List.setIfInBounds_toArray,List.set_cons_zero,List.set_cons_succ,qav,qaw]
                      rfl
                     refine qaF (i:=8) (N:=some 83) (v:=?_) (a':=?_) #[true,false,true,false,false,false,true,false,true,false,false,false,false] rfl rfl (qay HT_.out (by kernel_rfl)) (fun _ _ _ h=>h) (Or.inl ⟨by rfl,?_⟩) ?_ ?_
                     rotate_left
                     ·intro w'
                      go_simp
                      with_reducible rfl
                     rotate_left
                     ·simp only [Act.put,List.setIfInBounds_toArray,List.set_cons_zero,List.set_cons_succ,qav,qaw]
                      rfl
                     refine qa5 (i:=1) (N:=some 76) (v:=?_) (a':=?_) #[true,true,true,false,false,false,true,false,true,false,false,false,false] rfl rfl (qaI HT_.out HW_.out (by kernel_rfl)) (fun _ _ _ h=>h) (Or.inl ⟨by rfl,?_⟩) hHeld ?_ ?_
                     rotate_left
                     ·rintro w' ⟨s0,s1,s2,s3,s4,s5,s6,s7,s8,s9,s10,s11,s12,s13,s14,s15,s16⟩
                      go_simp
                      with_reducible rfl
                     rotate_left
                     ·simp only [Act.put,List.setIfInBounds_toArray,List.set_cons_zero,List.set_cons_succ,qav,qaw]
                      rfl
                     refine qaF (i:=3) (N:=some 78) (v:=?_) (a':=?_) #[true,true,true,true,false,false,true,false,true,false,false,false,false] rfl rfl (qay HT_.out (by kernel_rfl)) (fun _ _ _ h=>h) (Or.inl ⟨by rfl,?_⟩) ?_ ?_
                     rotate_left
                     ·intro w'
                      go_simp
                      with_reducible rfl
                     rotate_left
                     ·simp only [Act.put,List.setIfInBounds_toArray,List.set_cons_zero,List.set_cons_succ,qav,qaw]
                      rfl
                     refine qaF (i:=4) (N:=some 79) (v:=?_) (a':=?_) #[true,true,true,true,true,false,true,false,true,false,false,false,false] rfl rfl (qay HT_.out (by kernel_rfl)) (fun _ _ _ h=>h) (Or.inl ⟨by rfl,?_⟩) ?_ ?_
                     rotate_left
                     ·intro w'
                      go_simp
                      with_reducible rfl
                     rotate_left
                     ·simp only [Act.put,List.setIfInBounds_toArray,List.set_cons_zero,List.set_cons_succ,qav,qaw]
                      rfl
                     refine qa5 (i:=5) (N:=some 80) (v:=?_) (a':=?_) #[true,true,true,true,true,true,true,false,true,false,false,false,false] rfl rfl (qaI HT_.out HW_.out (by kernel_rfl)) (fun _ _ _ h=>h) (Or.inl ⟨by rfl,?_⟩) hHeld ?_ ?_
                     rotate_left
                     ·rintro w' ⟨s0,s1,s2,s3,s4,s5,s6,s7,s8,s9,s10,s11,s12,s13,s14,s15,s16⟩
                      go_simp
                      with_reducible rfl
                     rotate_left
                     ·simp only [Act.put,List.setIfInBounds_toArray,List.set_cons_zero,List.set_cons_succ,qav,qaw]
                      rfl
                     refine qa5 (i:=7) (N:=some 82) (v:=?_) (a':=?_) #[true,true,true,true,true,true,true,true,true,false,false,false,false] rfl rfl (qaI HT_.out HW_.out (by kernel_rfl)) (fun _ _ _ h=>h) (Or.inl ⟨by rfl,?_⟩) hHeld ?_ ?_
                     rotate_left
                     ·rintro w' ⟨s0,s1,s2,s3,s4,s5,s6,s7,s8,s9,s10,s11,s12,s13,s14,s15,s16⟩
                      go_simp
                      with_reducible rfl
                     rotate_left
                     ·simp only [Act.put,List.setIfInBounds_toArray,List.set_cons_zero,List.set_cons_succ,qav,qaw]
                      rfl
                     refine qaF (i:=9) (N:=some 84) (v:=?_) (a':=?_) #[true,true,true,true,true,true,true,true,true,true,false,false,false] rfl rfl (qay HT_.out (by kernel_rfl)) (fun _ _ _ h=>h) (Or.inl ⟨by rfl,?_⟩) ?_ ?_
                     rotate_left
                     ·intro w'
                      go_simp
                      with_reducible rfl
                     rotate_left
                     ·simp only [Act.put,List.setIfInBounds_toArray,List.set_cons_zero,List.set_cons_succ,qav,qaw]
                      rfl
                     refine qaF (i:=10) (N:=some 85) (v:=?_) (a':=?_) #[true,true,true,true,true,true,true,true,true,true,true,false,false] rfl rfl (qay HT_.out (by kernel_rfl)) (fun _ _ _ h=>h) (Or.inl ⟨by rfl,?_⟩) ?_ ?_
                     rotate_left
                     ·intro w'
                      go_simp
                      with_reducible rfl
                     rotate_left
                     ·simp only [Act.put,List.setIfInBounds_toArray,List.set_cons_zero,List.set_cons_succ,qav,qaw]
                      rfl
                     refine qa5 (i:=11) (N:=some 86) (v:=?_) (a':=?_) #[true,true,true,true,true,true,true,true,true,true,true,true,false] rfl rfl (qaI HT_.out HW_.out (by kernel_rfl)) (fun _ _ _ h=>h) (Or.inl ⟨by rfl,?_⟩) hHeld ?_ ?_
                     rotate_left
                     ·rintro w' ⟨s0,s1,s2,s3,s4,s5,s6,s7,s8,s9,s10,s11,s12,s13,s14,s15,s16⟩
                      go_simp
                      with_reducible rfl
                     rotate_left
                     ·simp only [Act.put,List.setIfInBounds_toArray,List.set_cons_zero,List.set_cons_succ,qav,qaw]
                      rfl
                     refine qaF (i:=12) (N:=some 87) (v:=?_) (a':=?_) #[true,true,true,true,true,true,true,true,true,true,true,true,true] rfl rfl (qay HT_.out (by kernel_rfl)) (fun _ _ _ h=>h) (Or.inl ⟨by rfl,?_⟩) ?_ ?_
                     rotate_left
                     ·intro w'
                      go_simp
                      with_reducible rfl
                     rotate_left
                     ·simp only [Act.put,List.setIfInBounds_toArray,List.set_cons_zero,List.set_cons_succ,qav,qaw]
                      rfl
                     refine done_ (done_of HT_.out (by kernel_rfl)) ?_
                     try go_wp2
                     go_roundg k4
                     case measure=>have:=HJ1.out;have:=HK2.out;have:=HJ20.out;have:=HK4.out;omega
                     case rel=>exact⟨(wrap64 (x5_4+1)),(by first|rfl|(simp;done)|(simp [*];done)),H',⟨by have:=HJ1.out;have:=HK2.out;have:=HJ20.out;have:=HK4.out;omega⟩,⟨by (with_reducible repeat (first|refine qad ?_ _|refine qag ?_|refine qab ?_ _));exact BK168.out⟩,⟨by repeat (first|(with_reducible first|exact HB.out|apply qai|apply qaa|apply qah|refine qae ?_ GE168.out)|exact HB.out)⟩⟩
                   ·rw [if_neg c36] at H
                    exact absurd H (by simp)
                  ·rw [if_neg c35] at H
                   exact absurd H (by simp)
                 ·rw [if_neg c34] at H
                  exact absurd H (by simp)
                ·rw [if_neg c33] at H
                 exact absurd H (by simp)
               ·rw [if_neg c32] at H
                have c32b0:decide (x5_4<x3_2)=false:=decide_eq_false c32
                clear c32
                have H':=qaj.mk H
                clear H
                go_wp2
                go_roundg k4
                case measure=>have:=HJ1.out;have:=HK2.out;have:=HJ20.out;have:=HK4.out;omega
                case rel=>exact⟨(wrap64 (x3_2+1)),(by first|rfl|(simp;done)|(simp [*];done)),H',⟨by have:=HJ1.out;have:=HK2.out;have:=HJ20.out;have:=HK4.out;omega⟩,⟨by (with_reducible repeat (first|refine qad ?_ _|refine qag ?_|refine qab ?_ _));exact BK168.out⟩,⟨by repeat (first|(with_reducible first|exact HB.out|apply qai|apply qaa|apply qah|refine qae ?_ GE168.out)|exact HB.out)⟩⟩
         ·rw [if_neg c20] at H
          have c20b0:(t170 == 0)=false:=beq_eq_false_iff_ne.mpr c20
          have c20b1:(t170 != 0)=true:=bne_iff_ne.mpr c20
          obtain rfl:=Option.some.inj H
          have hcz40_0:wr.cell? ⟨gb168,0,none⟩=some (.int .i64 a0_0):=(qaf BK168.out 0).trans rfl
          have hcz40_1:wr.cell? ⟨gb168,1,none⟩=some (.int .i64 a0_1):=(qaf BK168.out 1).trans rfl
          have hcz40_2:wr.cell? ⟨gb168,2,none⟩=some (.slice A0_2 l0_2.length c0_2):=(qaf BK168.out 2).trans rfl
          have hfz40_0:=qac BK168.out 0
          have hfz40_1:=qac BK168.out 1
          have hfz40_2:=qac BK168.out 2
          try go_wp2
          have n0_:=qaj.mk (qag BK168.out)
          have n1_:=qaj.mk (qah HB.out)
          clear BK168
          clear HB
          have BK168:=n0_
          have HB:=n1_
          clear n0_ n1_
          have p169:0≤(x3_2:Int):=of_decide_eq_true (by first|(with_reducible assumption)|assumption)
          have q169:x3_2<(l0_2.length:Int):=of_decide_eq_true (by first|(with_reducible assumption)|assumption)
          obtain⟨ad169,A169_5,c169_5,A169_6,c169_6,e169,hx169_0,hx169_1,hx169_2,hx169_3,hx169_4,hx169_5,hx169_6,hl169_5,hi169_5,hl169_6,hi169_6⟩:=at_T52 HR0_2.out x3_2 p169 q169
          have hw169_6:=hx169_6
          have hw169_5:=hx169_5
          have hw169_4:=hx169_4
          have hw169_3:=hx169_3
          have hw169_2:=hx169_2
          have hw169_1:=hx169_1
          have hw169_0:=hx169_0
          cases e169
          replace hx169_0:=(HB.out.cell (bLt w _ hx169_0)).trans hx169_0
          replace hx169_1:=(HB.out.cell (bLt w _ hx169_1)).trans hx169_1
          replace hx169_2:=(HB.out.cell (bLt w _ hx169_2)).trans hx169_2
          replace hx169_3:=(HB.out.cell (bLt w _ hx169_3)).trans hx169_3
          replace hx169_4:=(HB.out.cell (bLt w _ hx169_4)).trans hx169_4
          replace hx169_5:=(HB.out.cell (bLt w _ hx169_5)).trans hx169_5
          replace hx169_6:=(HB.out.cell (bLt w _ hx169_6)).trans hx169_6
          have HR169_5:=qaj.mk hi169_5
          have HC169_5:=qaj.mk hl169_5
          clear hi169_5 hl169_5
          have HR169_6:=qaj.mk hi169_6
          have HC169_6:=qaj.mk hl169_6
          clear hi169_6 hl169_6
          replace p169:=eq_true p169
          replace q169:=eq_true q169
          refine start_ (n:=9) (S:=fun w'=>w'.cell? ⟨gb168,0,none⟩=some (.int .i64 a0_0)∧w'.cell? ⟨gb168,1,none⟩=some (.int .i64 a0_1)∧w'.cell? ⟨gb168,2,none⟩=some (.slice (some ad169) l0_2.length c0_2)∧w'.cell? (ad169.add ((x3_2).toNat * 7))=some (.int .i64 ((qar l0_2 x3_2).f0))∧w'.cell? ⟨(ad169.add ((x3_2).toNat * 7)).block,(ad169.add ((x3_2).toNat * 7)).off+1,none⟩=some (.int .i64 ((qar l0_2 x3_2).f1))∧w'.cell? ⟨(ad169.add ((x3_2).toNat * 7)).block,(ad169.add ((x3_2).toNat * 7)).off+2,none⟩=some (.int .i64 ((qar l0_2 x3_2).f2))∧w'.cell? ⟨(ad169.add ((x3_2).toNat * 7)).block,(ad169.add ((x3_2).toNat * 7)).off+3,none⟩=some (.int .i64 ((qar l0_2 x3_2).f3))∧w'.cell? ⟨(ad169.add ((x3_2).toNat * 7)).block,(ad169.add ((x3_2).toNat * 7)).off+4,none⟩=some (.int .i64 ((qar l0_2 x3_2).f4))∧w'.cell? ⟨(ad169.add ((x3_2).toNat * 7)).block,(ad169.add ((x3_2).toNat * 7)).off+5,none⟩=some (.slice A169_5 ((qar l0_2 x3_2).f5).length c169_5)∧w'.cell? ⟨(ad169.add ((x3_2).toNat * 7)).block,(ad169.add ((x3_2).toNat * 7)).off+6,none⟩=some (.slice A169_6 ((qar l0_2 x3_2).f6).length c169_6)) (ds:=[]) #[false,false,false,false,false,false,false,false,false] (by kernel_rfl) rfl rfl ⟨(qaf BK168.out 0).trans rfl,(qaf BK168.out 1).trans rfl,(qaf BK168.out 2).trans rfl,((HB.out.cell (bLt w _ hw169_0)).trans hw169_0),((HB.out.cell (bLt w _ hw169_1)).trans hw169_1),((HB.out.cell (bLt w _ hw169_2)).trans hw169_2),((HB.out.cell (bLt w _ hw169_3)).trans hw169_3),((HB.out.cell (bLt w _ hw169_4)).trans hw169_4),((HB.out.cell (bLt w _ hw169_5)).trans hw169_5),((HB.out.cell (bLt w _ hw169_6)).trans hw169_6)⟩ (fun hHeld=>?_);refine qa1 ostinatoref05_Check.tab8 ostinatoref05_Check.bits8 (fun HT_ HW_=>?_)
          generalize wr.drew=w41 at BK168 HB HR169_5 HR169_6 hx169_0 hx169_1 hx169_2 hx169_3 hx169_4 hx169_5 hx169_6 hHeld ⊢
          refine qaF (i:=0) (N:=some 41) (v:=?_) (a':=?_) #[true,false,false,false,false,false,false,false,false] rfl rfl (qay HT_.out (by kernel_rfl)) (fun _ _ _ h=>h) (Or.inl ⟨by rfl,?_⟩) ?_ ?_
          rotate_left
          ·intro w'
           go_simp
           with_reducible rfl
          rotate_left
          ·simp only [Act.put,List.setIfInBounds_toArray,List.set_cons_zero,List.set_cons_succ,qav,qaw]
           rfl
          refine qaF (i:=2) (N:=some 43) (v:=?_) (a':=?_) #[true,false,true,false,false,false,false,false,false] rfl rfl (qay HT_.out (by kernel_rfl)) (fun _ _ _ h=>h) (Or.inl ⟨by rfl,?_⟩) ?_ ?_
          rotate_left
          ·intro w'
           go_simp
           with_reducible rfl
          rotate_left
          ·simp only [Act.put,List.setIfInBounds_toArray,List.set_cons_zero,List.set_cons_succ,qav,qaw]
           rfl
          refine qaF (i:=5) (N:=some 46) (v:=?_) (a':=?_) #[true,false,true,false,false,true,false,false,false] rfl rfl (qay HT_.out (by kernel_rfl)) (fun _ _ _ h=>h) (Or.inl ⟨by rfl,?_⟩) ?_ ?_
          rotate_left
          ·intro w'
           go_simp
           with_reducible rfl
          rotate_left
          ·simp only [Act.put,List.setIfInBounds_toArray,List.set_cons_zero,List.set_cons_succ,qav,qaw]
           rfl
          refine qa5 (i:=1) (N:=some 42) (v:=?_) (a':=?_) #[true,true,true,false,false,true,false,false,false] rfl rfl (qaI HT_.out HW_.out (by kernel_rfl)) (fun _ _ _ h=>h) (Or.inl ⟨by rfl,?_⟩) hHeld ?_ ?_
          rotate_left
          ·rintro w' ⟨s0,s1,s2,s3,s4,s5,s6,s7,s8,s9⟩
           go_simp
           with_reducible rfl
          rotate_left
          ·simp only [Act.put,List.setIfInBounds_toArray,List.set_cons_zero,List.set_cons_succ,qav,qaw]
           rfl
          refine qaF (i:=3) (N:=some 44) (v:=?_) (a':=?_) #[true,true,true,true,false,true,false,false,false] rfl rfl (qay HT_.out (by kernel_rfl)) (fun _ _ _ h=>h) (Or.inl ⟨by rfl,?_⟩) ?_ ?_
          rotate_left
          ·intro w'
           go_simp
           with_reducible rfl
          rotate_left
          ·simp only [Act.put,List.setIfInBounds_toArray,List.set_cons_zero,List.set_cons_succ,qav,qaw]
           rfl
          refine qa5 (i:=4) (N:=some 45) (v:=?_) (a':=?_) #[true,true,true,true,true,true,false,false,false] rfl rfl (qaI HT_.out HW_.out (by kernel_rfl)) (fun _ _ _ h=>h) (Or.inl ⟨by rfl,?_⟩) hHeld ?_ ?_
          rotate_left
          ·rintro w' ⟨s0,s1,s2,s3,s4,s5,s6,s7,s8,s9⟩
           go_simp
           with_reducible rfl
          rotate_left
          ·simp only [Act.put,List.setIfInBounds_toArray,List.set_cons_zero,List.set_cons_succ,qav,qaw]
           rfl
          refine qa5 (i:=6) (N:=some 47) (v:=?_) (a':=?_) #[true,true,true,true,true,true,true,false,false] rfl rfl (qaI HT_.out HW_.out (by kernel_rfl)) (fun _ _ _ h=>h) (Or.inl ⟨by rfl,?_⟩) hHeld ?_ ?_
          rotate_left
          ·rintro w' ⟨s0,s1,s2,s3,s4,s5,s6,s7,s8,s9⟩
           go_simp
           with_reducible rfl
          rotate_left
          ·simp only [Act.put,List.setIfInBounds_toArray,List.set_cons_zero,List.set_cons_succ,qav,qaw]
           rfl
          refine one_ (i:=7) (N:=some 48) #[true,true,true,true,true,true,true,true,false] rfl rfl (one_of HT_.out (by kernel_rfl)) (by decide) (fun K hK=>?_)
          refine goes_ Tryd.func35 (by kernel_rfl) rfl #[.agg #[.int .i64 ((qar l0_2 x3_2).f0),.int .i64 ((qar l0_2 x3_2).f1),.int .i64 ((qar l0_2 x3_2).f2),.int .i64 ((qar l0_2 x3_2).f3),.int .i64 ((qar l0_2 x3_2).f4),.slice A169_5 ((qar l0_2 x3_2).f5).length c169_5,.slice A169_6 ((qar l0_2 x3_2).f6).length c169_6],.int .i64 a0_0] (by rfl) rfl rfl (by (try simp only [List.map_toArray,List.map_cons,List.map_nil]);first|done|rfl|(simp only [List.length_drop,List.length_take];rfl)) ?_
          with_reducible refine (ostinatoref05_Right.calls k2 ((qar l0_2 x3_2).f0) ((qar l0_2 x3_2).f1) ((qar l0_2 x3_2).f2) ((qar l0_2 x3_2).f3) ((qar l0_2 x3_2).f4) _ _ ((qar l0_2 x3_2).f5) _ _ ((qar l0_2 x3_2).f6) a0_0 t170 _ ?side1 ?side2 ?side3 ?side4 A19.out).mono ?_
          (case side1=>repeat (first|exact (Kd.C_below HR169_5.out HB.out)|(with_reducible refine Kd.C_alloc ?_ _)|(with_reducible refine Kd.C_drewN ?_ _)|(with_reducible refine Kd.C_drew ?_)))
          (case side2=>exact HC169_5.out)
          (case side3=>repeat (first|exact (Kd.C_below HR169_6.out HB.out)|(with_reducible refine Kd.C_alloc ?_ _)|(with_reducible refine Kd.C_drewN ?_ _)|(with_reducible refine Kd.C_drew ?_)))
          (case side4=>exact HC169_6.out)
          rintro e w42 ⟨rfl,hb⟩
          refine⟨_,rfl,?_⟩
          have n0_:=qaj.mk (qal (g:=gb168) (o:=.cells #[.int .i64 a0_0,.int .i64 a0_1,.slice (some ad169) l0_2.length c0_2] 32 (0,0)) (by (with_reducible repeat (first|refine qad ?_ _|refine qag ?_|refine qab ?_ _));exact BK168.out) hb)
          have n1_:=qaj.mk (qam (by repeat (first|(with_reducible first|exact HB.out|apply qai|apply qaa|apply qah|refine qae ?_ GE168.out)|exact HB.out)) hb)
          clear BK168
          clear HB
          have BK168:=n0_
          have HB:=n1_
          clear n0_ n1_
          (try clear hb)
          (try clear hb2)
          (try clear hk)
          (try clear hi)
          refine hK.out _ _ ⟨(qaf BK168.out 0).trans rfl,(qaf BK168.out 1).trans rfl,(qaf BK168.out 2).trans rfl,((HB.out.cell (bLt w _ hw169_0)).trans hw169_0),((HB.out.cell (bLt w _ hw169_1)).trans hw169_1),((HB.out.cell (bLt w _ hw169_2)).trans hw169_2),((HB.out.cell (bLt w _ hw169_3)).trans hw169_3),((HB.out.cell (bLt w _ hw169_4)).trans hw169_4),((HB.out.cell (bLt w _ hw169_5)).trans hw169_5),((HB.out.cell (bLt w _ hw169_6)).trans hw169_6)⟩ (fun hHeld=>?_)
          clear hK K
          refine norm_ (a':=?_) ?_ ?_
          rotate_left
          ·show Act.put _ (some 48) _=_
           simp only [Act.put,List.setIfInBounds_toArray,List.set_cons_zero,List.set_cons_succ,qav,qaw]
           rfl
          refine qaF (i:=8) (N:=some 4) (v:=?_) (a':=?_) #[true,true,true,true,true,true,true,true,true] rfl rfl (qay HT_.out (by kernel_rfl)) (fun _ _ _ h=>h) (Or.inl ⟨by rfl,?_⟩) ?_ ?_
          rotate_left
          ·intro w'
           go_simp
           with_reducible rfl
          rotate_left
          ·simp only [Act.put,List.setIfInBounds_toArray,List.set_cons_zero,List.set_cons_succ,qav,qaw]
           rfl
          refine done_ (done_of HT_.out (by kernel_rfl)) ?_
          try go_wp2
          go_ret
          exact⟨by first|rfl|(simp [qao,qan]<;>rfl)|(simp [bneNil,bneNilU]<;>rfl)|(simp [*,qao,qan]<;>rfl),by repeat (first|(with_reducible first|exact HB.out|apply qai|apply qaa|apply qah|refine qae ?_ GE168.out)|exact HB.out)⟩
        ·rw [if_neg c18] at H
         exact absurd H (by simp)
       ·rw [if_neg c17] at H
        have c17b0:decide (x3_2<(l0_2.length:Int))=false:=decide_eq_false c17
        clear c17
        obtain rfl:=Option.some.inj H
        have hcz43_0:wr.cell? ⟨gb168,0,none⟩=some (.int .i64 a0_0):=(qaf BK168.out 0).trans rfl
        have hcz43_1:wr.cell? ⟨gb168,1,none⟩=some (.int .i64 a0_1):=(qaf BK168.out 1).trans rfl
        have hcz43_2:wr.cell? ⟨gb168,2,none⟩=some (.slice A0_2 l0_2.length c0_2):=(qaf BK168.out 2).trans rfl
        have hfz43_0:=qac BK168.out 0
        have hfz43_1:=qac BK168.out 1
        have hfz43_2:=qac BK168.out 2
        go_wp2
        go_ret
        exact⟨by first|rfl|(simp [qao,qan]<;>rfl)|(simp [bneNil,bneNilU]<;>rfl)|(simp [*,qao,qan]<;>rfl),by repeat (first|(with_reducible first|exact HB.out|apply qai|apply qaa|apply qah|refine qae ?_ GE168.out)|exact HB.out)⟩
end
end Go.Proofs.YtcfknijdhmildaaDoor.PParseCuts
end
