/- Texts of this claim, one behind the other: PParseFirst3, PParseFirst4, PParseFirst, QParseFirstQAwk, QParseFirstPMade, PrnA, QParseFirstQGd, PrnB, PureParseFirst, Laid, LaidTab. -/
import Derived.Test.YtcfknijdhmildaaDoorZParseFirst3
import Derived.Test.YtcfknijdhmildaaDoorZParseFirst1
import Derived.Test.YtcfknijdhmildaaDoorRows
import Derived.Test.YtcfknijdhmildaaDoorCards
import Derived.Test.YtcfknijdhmildaaDoorTie
import Derived.ProofKit
import Derived.LaidMore
import Derived.Lay
import Derived.LaidLaws
import Derived.LaidHandle
import Derived.HandedShaped
import Derived.SevenTiedAt
import Derived.Lib.LaidU8
import Derived.Lib.LaidTab

set_option maxHeartbeats 8000000
set_option maxRecDepth 100000
set_option linter.unusedVariables false
set_option linter.unusedSimpArgs false
section
namespace Go.Proofs.YtcfknijdhmildaaDoor.PParseFirst
open Go.RowKit Go.Proofs.YtcfknijdhmildaaDoorW.PrintWords Go.Proofs.YtcfknijdhmildaaDoorW.PrintLast Go.Proofs.YtcfknijdhmildaaDoorW.PrintMore
attribute [local go_sem] max2_int min2_int max_two min_two max_three min_three max_four min_four
set_option linter.unusedVariables false
set_option linter.unusedSimpArgs false
noncomputable section
def ostinatoref05_System_Made.l0:Nat→Int→Int→Int→List (S59)→Int→Int→List (S52)→Option (Int × Int × (List (S52)))
 |0,_,_,_,_,_,_,_=>none
 |k+1,x4,x121000,x121001,x121002,x124000,x124001,x124002=>if x4<(x121002.length:Int) then (if x4<6 then (if 0≤x4 then ((ostinatoref05_Num_task.f k ((qay x121002 x4).f0) ((qay x121002 x4).f1) ((qay x121002 x4).f2) ((qay x121002 x4).f3) ((qay x121002 x4).f4) ((qay x121002 x4).f5) x4 x124000).bind fun bt125=>(if x124002.length<1599289640401 then (ostinatoref05_System_Made.l0 k (wrap64 (x4+1)) x121000 x121001 x121002 x124000 x124001 (x124002++[(⟨bt125.1,bt125.2.1,bt125.2.2.1,bt125.2.2.2.1,bt125.2.2.2.2.1,bt125.2.2.2.2.2.1,bt125.2.2.2.2.2.2⟩:S52)])) else (none))) else (none)) else (if (x124002.length:Int)=0 then (some (x124000,x124001,(([(⟨1,1,4,4,10,([]:List Int),([]:List Int)⟩:S52)]:List (S52))))) else (some (x124000,x124001,x124002)))) else (if (x124002.length:Int)=0 then (some (x124000,x124001,(([(⟨1,1,4,4,10,([]:List Int),([]:List Int)⟩:S52)]:List (S52))))) else (some (x124000,x124001,x124002)))
def ostinatoref05_System_Made.f (k:Nat) (a0_0:Int) (a0_1:Int) (l0_2:List (S59)):Option (Int × Int × (List (S52))):=(ostinatoref05_rest.f a0_0 8).bind fun t122=>(ostinatoref05_System_Made.l0 k 0 a0_0 a0_1 l0_2 (wrap64 (1+t122)) (Go.bits .and .i64 a0_1 3) ([]:List (S52)))
def ostinatoref05_System_Made.T1:Bool × List (List Nat × List Nat):=(true,[([],[]),([0],[0]),([1],[1]),([2],[2]),([],[]),([4],[4]),([5],[5]),([3,6],[3,6]),([],[]),([8,7,2,0,1,2,3,4,5,6,7,8],[7,8])])
def ostinatoref05_System_Made.B1:List Nat:=[0,1,3,7,0,16,48,127,0,511]
theorem ostinatoref05_System_Made.tab1:rtab .any (opsOf Tryd.f19 1)=ostinatoref05_System_Made.T1:=by kernel_rfl
theorem ostinatoref05_System_Made.bits1:waitsOk ostinatoref05_System_Made.T1.2 ostinatoref05_System_Made.B1=true:=by kernel_rfl
def ostinatoref05_System_Made.T5:Bool × List (List Nat × List Nat):=(true,[([],[]),([0],[0]),([],[]),([2],[2]),([],[]),([3,4],[3,4]),([5],[5]),([],[]),([],[]),([8],[8]),([6,7,9],[6,7,9]),([10],[10]),([1,11,10],[1,11]),([0,1,2,3,4,5,6,7,8,9,10,11,12],[]),([13,12,12,0,1,2,3,4,5,6,7,8,9,10,11,12],[12,13])])
def ostinatoref05_System_Made.B5:List Nat:=[0,1,0,4,0,28,60,0,0,256,1020,2044,4095,8191,16383]
theorem ostinatoref05_System_Made.tab5:rtab .any (opsOf Tryd.f19 5)=ostinatoref05_System_Made.T5:=by kernel_rfl
theorem ostinatoref05_System_Made.bits5:waitsOk ostinatoref05_System_Made.T5.2 ostinatoref05_System_Made.B5=true:=by kernel_rfl
theorem ostinatoref05_System_Made.calls (k:Nat) (a0_0:Int) (a0_1:Int) (A0_2:Option Addr) (c0_2:Nat) (l0_2:List (S59)) (r1:Int) (r2:Int) (r3:List (S52)) (w:World) (hr0_2:Kd.C k59 w A0_2 l0_2.length l0_2) (hc0_2:l0_2.length≤c0_2) (h:ostinatoref05_System_Made.f k a0_0 a0_1 l0_2=some (r1,r2,r3)) :
  Calls Tryd.prog 19 #[.agg #[.int .i64 a0_0,.int .i64 a0_1,.slice A0_2 l0_2.length c0_2]] w fun e w'=>∃ v2_:Value,e=.returned (.agg #[.int .i64 r1,.int .i64 r2,v2_])∧Kd.S k52 52 w' w.heap.size (fun _=>True) v2_ r3∧Below w.heap.size w w':=by
 have hu57:=Tryd.underlying57
 have hu32:=Tryd.underlying32
 have hu59:=Tryd.underlying59
 have hu52:=Tryd.underlying52
 have HR0_2:=qah.mk hr0_2
 have HC0_2:=qah.mk hc0_2
 clear hr0_2 hc0_2
 have HB:=qah.mk (Below.refl w.heap.size w)
 have H:((ostinatoref05_rest.f a0_0 8).bind fun t122=>(ostinatoref05_System_Made.l0 k 0 a0_0 a0_1 l0_2 (wrap64 (1+t122)) (Go.bits .and .i64 a0_1 3) ([]:List (S52))))=some (r1,r2,r3):=h
 clear h
 replace H:=Option.bind_eq_some_iff.mp H
 obtain⟨t122,A20,H⟩:=H
 replace H:(ostinatoref05_System_Made.l0 k 0 a0_0 a0_1 l0_2 (wrap64 (1+t122)) (Go.bits .and .i64 a0_1 3) ([]:List (S52)))=some (r1,r2,r3):=H
 have A2:=qah.mk A20
 clear A20
 have H':=qah.mk H
 clear H
 go_enter Tryd.func19,Tryd.ntmps19
 try go_wp2_with (first|((with_reducible refine qaM (N:=1) rfl ?_);refine qaL ?hg (N:=1) ?hd (cs:=#[.int .i64 a0_0,.int .i64 a0_1,.slice A0_2 l0_2.length c0_2]) (t:=57) ?hr ?_;(case hd=>rfl);(case hg=>rfl);(case hr=>first|(go_simp;done)|(go_simp;rfl));intro gb120 hg w3 hbox hb;have n0_:=qah.mk (qat (by repeat (first|(with_reducible first|exact HB.out|apply qai|apply qag|apply qaj)|exact HB.out)) hb);have n1_:=qah.mk (hbox);have n2_:=qah.mk ((by rw [hg];exact (qam (by repeat (first|(with_reducible first|exact HB.out|apply qai|apply qag|apply qaj)|exact HB.out))):w.heap.size≤gb120));have n3_:=qah.mk ((by rw [hg];exact (qam (by repeat (first|(with_reducible first|exact HB.out|apply qai|apply qag|apply qaj)|exact HB.out))):w.heap.size≤gb120));clear HB;have HB:=n0_;have BK120:=n1_;have GW120:=n2_;have GE120:=n3_;clear n0_ n1_ n2_ n3_;clear hb hbox hg)|((with_reducible refine qaM (N:=2) rfl ?_);refine qaL ?hg (N:=2) ?hd (cs:=#[.int .i64 0,.int .i64 0,.slice none 0 0]) (t:=32) ?hr ?_;(case hd=>rfl);(case hg=>rfl);(case hr=>first|(go_simp;done)|(go_simp;rfl));intro gb121 hg w4 hbox hb;have n0_:=qah.mk (qap (g:=gb120) (o:=.cells #[.int .i64 a0_0,.int .i64 a0_1,.slice A0_2 l0_2.length c0_2] 57 (0,0)) (by (with_reducible repeat (first|refine qab ?_ _|refine qac ?_|refine qaa ?_ _));exact BK120.out) hb);have n1_:=qah.mk (qat (by repeat (first|(with_reducible first|exact HB.out|apply qai|apply qag|apply qaj|refine qaf ?_ GE120.out)|exact HB.out)) hb);have n2_:=qah.mk (hbox);have n3_:=qah.mk ((by rw [hg];exact (qam (by repeat (first|(with_reducible first|exact HB.out|apply qai|apply qag|apply qaj|refine qaf ?_ GE120.out)|exact HB.out))):w.heap.size≤gb121));have n4_:=qah.mk ((by rw [hg];exact (qam (by repeat (first|(with_reducible first|exact HB.out|apply qai|apply qag|apply qaj|refine qaf ?_ GE120.out)|exact HB.out))):w.heap.size≤gb121));have n5_:=qah.mk ((by rw [hg];exact Nat.ne_of_lt (qaw (g:=gb120) (o:=.cells #[.int .i64 a0_0,.int .i64 a0_1,.slice A0_2 l0_2.length c0_2] 57 (0,0)) (by (with_reducible repeat (first|refine qab ?_ _|refine qac ?_|refine qaa ?_ _));exact BK120.out)):gb120≠gb121));have n6_:=qah.mk ((by rw [hg];exact Nat.ne_of_gt (qaw (g:=gb120) (o:=.cells #[.int .i64 a0_0,.int .i64 a0_1,.slice A0_2 l0_2.length c0_2] 57 (0,0)) (by (with_reducible repeat (first|refine qab ?_ _|refine qac ?_|refine qaa ?_ _));exact BK120.out)):gb121≠gb120));clear BK120;clear HB;have BK120:=n0_;have HB:=n1_;have BK121:=n2_;have GW121:=n3_;have GE121:=n4_;have NB120_121:=n5_;have NB121_120:=n6_;clear n0_ n1_ n2_ n3_ n4_ n5_ n6_;clear hb hbox hg))
 have n0_:=qah.mk (qac BK120.out)
 have n1_:=qah.mk (qac BK121.out)
 have n2_:=qah.mk (qaj HB.out)
 clear BK120
 clear BK121
 clear HB
 have BK120:=n0_
 have BK121:=n1_
 have HB:=n2_
 clear n0_ n1_ n2_
 refine start_ (n:=10) (S:=fun w'=>w'.cell? ⟨gb120,0,none⟩=some (.int .i64 a0_0)∧w'.cell? ⟨gb120,1,none⟩=some (.int .i64 a0_1)∧w'.cell? ⟨gb120,2,none⟩=some (.slice A0_2 l0_2.length c0_2)) (ds:=[]) #[false,false,false,false,false,false,false,false,false,false] (by kernel_rfl) rfl rfl ⟨(qad BK120.out 0).trans rfl,(qad BK120.out 1).trans rfl,(qad BK120.out 2).trans rfl⟩ (fun hHeld=>?_);refine with_tabW ostinatoref05_System_Made.tab1 ostinatoref05_System_Made.bits1 (fun HT_ HW_=>?_)
 generalize w4.drew=w5 at BK120 BK121 HB hHeld ⊢
 refine pure_ (i:=0) (N:=some 5) (v:=?_) (a':=?_) #[true,false,false,false,false,false,false,false,false,false] rfl rfl (qaQ HT_.out (by kernel_rfl)) (fun _ _ _ h=>h) (Or.inl ⟨by rfl,?_⟩) ?_ ?_
 rotate_left
 ·intro w'
  go_simp
  with_reducible rfl
 rotate_left
 ·simp only [Act.put,List.setIfInBounds_toArray,List.set_cons_zero,List.set_cons_succ,qaC,qaD]
  rfl
 refine pure_ (i:=4) (N:=some 9) (v:=?_) (a':=?_) #[true,false,false,false,true,false,false,false,false,false] rfl rfl (qaQ HT_.out (by kernel_rfl)) (fun _ _ _ h=>h) (Or.inl ⟨by rfl,?_⟩) ?_ ?_
 rotate_left
 ·intro w'
  go_simp
  with_reducible rfl
 rotate_left
 ·simp only [Act.put,List.setIfInBounds_toArray,List.set_cons_zero,List.set_cons_succ,qaC,qaD]
  rfl
 refine take_ (i:=1) (N:=some 6) (v:=?_) (a':=?_) #[true,true,false,false,true,false,false,false,false,false] rfl rfl (qaY HT_.out HW_.out (by kernel_rfl)) (fun _ _ _ h=>h) (Or.inl ⟨by rfl,?_⟩) hHeld ?_ ?_
 rotate_left
 ·rintro w' ⟨s0,s1,s2⟩
  go_simp
  with_reducible rfl
 rotate_left
 ·simp only [Act.put,List.setIfInBounds_toArray,List.set_cons_zero,List.set_cons_succ,qaC,qaD]
  rfl
 refine take_ (i:=5) (N:=some 10) (v:=?_) (a':=?_) #[true,true,false,false,true,true,false,false,false,false] rfl rfl (qaY HT_.out HW_.out (by kernel_rfl)) (fun _ _ _ h=>h) (Or.inl ⟨by rfl,?_⟩) hHeld ?_ ?_
 rotate_left
 ·rintro w' ⟨s0,s1,s2⟩
  go_simp
  with_reducible rfl
 rotate_left
 ·simp only [Act.put,List.setIfInBounds_toArray,List.set_cons_zero,List.set_cons_succ,qaC,qaD]
  rfl
 refine pure_ (i:=6) (N:=some 11) (v:=?_) (a':=?_) #[true,true,false,false,true,true,true,false,false,false] rfl rfl (qaQ HT_.out (by kernel_rfl)) (fun _ _ _ h=>h) (Or.inl ⟨by rfl,?_⟩) ?_ ?_
 rotate_left
 ·intro w'
  go_simp
  with_reducible rfl
 rotate_left
 ·simp only [Act.put,List.setIfInBounds_toArray,List.set_cons_zero,List.set_cons_succ,qaC,qaD]
  rfl
 refine join_ (σ:=Nat) 1 #[true,true,true,true,true,true,true,true,true,false] (fun s_=>[(7,.int .i64 t122),(3,.pointer (some ⟨s_,0,none⟩)),(8,.int .i64 (wrap64 (1+t122))),(12,.agg #[.int .i64 (wrap64 (1+t122)),.int .i64 (Go.bits .and .i64 a0_1 3),.slice none 0 0])]) (fun s_ w'=>(w'.cell? ⟨gb120,0,none⟩=some (.int .i64 a0_0)∧w'.cell? ⟨gb120,1,none⟩=some (.int .i64 a0_1)∧w'.cell? ⟨gb120,2,none⟩=some (.slice A0_2 l0_2.length c0_2))∧(w'.heap[gb120]? = some (.cells #[.int .i64 a0_0,.int .i64 a0_1,.slice A0_2 l0_2.length c0_2] 57 (0,0)))∧(w'.heap[gb121]? = some (.cells #[.int .i64 0,.int .i64 0,.slice none 0 0] 32 (0,0)))∧(w'.heap[s_]? = some (.cells #[.int .i64 0,.int .i64 0,.slice none 0 0] 32 (0,0)))∧(w.heap.size≤s_)∧(w.heap.size≤s_)∧(gb120≠s_)∧(s_≠gb120)∧(gb121≠s_)∧(s_≠gb121)∧(Below w.heap.size w w')) ?_ ?_
 rotate_left
 ·intro hCont
  refine two_ (i:=2) (j:=8) (Ni:=some 7) (Nj:=some 3) #[true,true,true,false,true,true,true,false,false,false] #[true,true,false,false,true,true,true,false,true,false] rfl rfl rfl rfl (two_of HT_.out (by kernel_rfl)) (by decide) (by decide) (fun K hK=>?_) (fun K hK=>?_)
  ·skip
   refine goes_ Tryd.func38 (by kernel_rfl) rfl #[.int .i64 a0_0,.int .i64 8] (by rfl) rfl rfl (by (try simp only [List.map_toArray,List.map_cons,List.map_nil]);first|done|rfl|(simp only [List.length_drop,List.length_take];rfl)) ?_
   with_reducible refine (ostinatoref05_rest.calls a0_0 8 t122 _ A2.out).mono ?_
   rintro e w' ⟨rfl,⟨nd,rfl⟩⟩
   refine⟨_,rfl,?_⟩
   refine hK.out _ _ ⟨(qad BK120.out 0).trans rfl,(qad BK120.out 1).trans rfl,(qad BK120.out 2).trans rfl⟩ (fun hHeld=>?_)
   clear hK K
   refine norm_ (a':=?_) ?_ ?_
   rotate_left
   ·show Act.put _ (some 7) _=_
    simp only [Act.put,List.setIfInBounds_toArray,List.set_cons_zero,List.set_cons_succ,qaC,qaD]
    rfl
   refine pure_ (i:=3) (N:=some 8) (v:=?_) (a':=?_) #[true,true,true,true,true,true,true,false,false,false] rfl rfl (qaQ HT_.out (by kernel_rfl)) (fun _ _ _ h=>h) (Or.inl ⟨by rfl,?_⟩) ?_ ?_
   rotate_left
   ·intro w'
    go_simp
    with_reducible rfl
   rotate_left
   ·simp only [Act.put,List.setIfInBounds_toArray,List.set_cons_zero,List.set_cons_succ,qaC,qaD]
    rfl
   refine pure_ (i:=7) (N:=some 12) (v:=?_) (a':=?_) #[true,true,true,true,true,true,true,true,false,false] rfl rfl (qaQ HT_.out (by kernel_rfl)) (fun _ _ _ h=>h) (Or.inl ⟨by rfl,?_⟩) ?_ ?_
   rotate_left
   ·intro w'
    go_simp
    with_reducible rfl
   rotate_left
   ·simp only [Act.put,List.setIfInBounds_toArray,List.set_cons_zero,List.set_cons_succ,qaC,qaD]
    rfl
   refine one_ (i:=8) (N:=some 3) #[true,true,true,true,true,true,true,true,true,false] rfl rfl (one_of HT_.out (by kernel_rfl)) (by decide) (fun K hK=>?_)
   refine box_step ?hg (N:=3) ?hd (cs:=#[.int .i64 0,.int .i64 0,.slice none 0 0]) (t:=32) ?hr ?_;(case hd=>rfl);(case hg=>rfl);(case hr=>first|(go_simp;done)|(go_simp;rfl))
   intro gb123 hg w6 hbox hb
   have n0_:=qah.mk (qap (g:=gb120) (o:=.cells #[.int .i64 a0_0,.int .i64 a0_1,.slice A0_2 l0_2.length c0_2] 57 (0,0)) (by (with_reducible repeat (first|refine qab ?_ _|refine qac ?_|refine qaa ?_ _));exact BK120.out) hb)
   have n1_:=qah.mk (qap (g:=gb121) (o:=.cells #[.int .i64 0,.int .i64 0,.slice none 0 0] 32 (0,0)) (by (with_reducible repeat (first|refine qab ?_ _|refine qac ?_|refine qaa ?_ _));exact BK121.out) hb)
   have n2_:=qah.mk (qat (by repeat (first|(with_reducible first|exact HB.out|apply qai|apply qag|apply qaj|refine qaf ?_ GE120.out|refine qaf ?_ GE121.out)|exact HB.out)) hb)
   have n3_:=qah.mk (hbox)
   have n4_:=qah.mk ((by rw [hg];exact (qam (by repeat (first|(with_reducible first|exact HB.out|apply qai|apply qag|apply qaj|refine qaf ?_ GE120.out|refine qaf ?_ GE121.out)|exact HB.out))):w.heap.size≤gb123))
   have n5_:=qah.mk ((by rw [hg];exact (qam (by repeat (first|(with_reducible first|exact HB.out|apply qai|apply qag|apply qaj|refine qaf ?_ GE120.out|refine qaf ?_ GE121.out)|exact HB.out))):w.heap.size≤gb123))
   have n6_:=qah.mk ((by rw [hg];exact Nat.ne_of_lt (qaw (g:=gb120) (o:=.cells #[.int .i64 a0_0,.int .i64 a0_1,.slice A0_2 l0_2.length c0_2] 57 (0,0)) (by (with_reducible repeat (first|refine qab ?_ _|refine qac ?_|refine qaa ?_ _));exact BK120.out)):gb120≠gb123))
   have n7_:=qah.mk ((by rw [hg];exact Nat.ne_of_gt (qaw (g:=gb120) (o:=.cells #[.int .i64 a0_0,.int .i64 a0_1,.slice A0_2 l0_2.length c0_2] 57 (0,0)) (by (with_reducible repeat (first|refine qab ?_ _|refine qac ?_|refine qaa ?_ _));exact BK120.out)):gb123≠gb120))
   have n8_:=qah.mk ((by rw [hg];exact Nat.ne_of_lt (qaw (g:=gb121) (o:=.cells #[.int .i64 0,.int .i64 0,.slice none 0 0] 32 (0,0)) (by (with_reducible repeat (first|refine qab ?_ _|refine qac ?_|refine qaa ?_ _));exact BK121.out)):gb121≠gb123))
   have n9_:=qah.mk ((by rw [hg];exact Nat.ne_of_gt (qaw (g:=gb121) (o:=.cells #[.int .i64 0,.int .i64 0,.slice none 0 0] 32 (0,0)) (by (with_reducible repeat (first|refine qab ?_ _|refine qac ?_|refine qaa ?_ _));exact BK121.out)):gb123≠gb121))
   clear BK120
   clear BK121
   clear HB
   have BK120:=n0_
   have BK121:=n1_
   have HB:=n2_
   have BK123:=n3_
   have GW123:=n4_
   have GE123:=n5_
   have NB120_123:=n6_
   have NB123_120:=n7_
   have NB121_123:=n8_
   have NB123_121:=n9_
   clear n0_ n1_ n2_ n3_ n4_ n5_ n6_ n7_ n8_ n9_
   clear hb hbox hg
   refine hK.out _ _ ⟨(qad BK120.out 0).trans rfl,(qad BK120.out 1).trans rfl,(qad BK120.out 2).trans rfl⟩ (fun hHeld=>?_)
   clear hK K
   refine norm_ (a':=?_) ?_ ?_
   rotate_left
   ·show Act.put _ (some 3) _=_
    simp only [Act.put,List.setIfInBounds_toArray,List.set_cons_zero,List.set_cons_succ,qaC,qaD]
    rfl
   exact norm_ (by simp only [putAll,Act.put,List.setIfInBounds_toArray,List.set_cons_zero,List.set_cons_succ]) (hCont (gb123) _ ⟨hHeld,(by (with_reducible repeat (first|refine qab ?_ _|refine qac ?_|refine qaa ?_ _));exact BK120.out),(by (with_reducible repeat (first|refine qab ?_ _|refine qac ?_|refine qaa ?_ _));exact BK121.out),(by (with_reducible repeat (first|refine qab ?_ _|refine qac ?_|refine qaa ?_ _));exact BK123.out),GW123.out,GE123.out,NB120_123.out,NB123_120.out,NB121_123.out,NB123_121.out,(by repeat (first|(with_reducible first|exact HB.out|apply qai|apply qag|apply qaj|refine qaf ?_ GE120.out|refine qaf ?_ GE121.out|refine qaf ?_ GE123.out)|exact HB.out))⟩)
  ·skip
   refine box_step ?hg (N:=3) ?hd (cs:=#[.int .i64 0,.int .i64 0,.slice none 0 0]) (t:=32) ?hr ?_;(case hd=>rfl);(case hg=>rfl);(case hr=>first|(go_simp;done)|(go_simp;rfl))
   intro gb123 hg w6 hbox hb
   have n0_:=qah.mk (qap (g:=gb120) (o:=.cells #[.int .i64 a0_0,.int .i64 a0_1,.slice A0_2 l0_2.length c0_2] 57 (0,0)) (by (with_reducible repeat (first|refine qab ?_ _|refine qac ?_|refine qaa ?_ _));exact BK120.out) hb)
   have n1_:=qah.mk (qap (g:=gb121) (o:=.cells #[.int .i64 0,.int .i64 0,.slice none 0 0] 32 (0,0)) (by (with_reducible repeat (first|refine qab ?_ _|refine qac ?_|refine qaa ?_ _));exact BK121.out) hb)
   have n2_:=qah.mk (qat (by repeat (first|(with_reducible first|exact HB.out|apply qai|apply qag|apply qaj|refine qaf ?_ GE120.out|refine qaf ?_ GE121.out)|exact HB.out)) hb)
   have n3_:=qah.mk (hbox)
   have n4_:=qah.mk ((by rw [hg];exact (qam (by repeat (first|(with_reducible first|exact HB.out|apply qai|apply qag|apply qaj|refine qaf ?_ GE120.out|refine qaf ?_ GE121.out)|exact HB.out))):w.heap.size≤gb123))
   have n5_:=qah.mk ((by rw [hg];exact (qam (by repeat (first|(with_reducible first|exact HB.out|apply qai|apply qag|apply qaj|refine qaf ?_ GE120.out|refine qaf ?_ GE121.out)|exact HB.out))):w.heap.size≤gb123))
   have n6_:=qah.mk ((by rw [hg];exact Nat.ne_of_lt (qaw (g:=gb120) (o:=.cells #[.int .i64 a0_0,.int .i64 a0_1,.slice A0_2 l0_2.length c0_2] 57 (0,0)) (by (with_reducible repeat (first|refine qab ?_ _|refine qac ?_|refine qaa ?_ _));exact BK120.out)):gb120≠gb123))
   have n7_:=qah.mk ((by rw [hg];exact Nat.ne_of_gt (qaw (g:=gb120) (o:=.cells #[.int .i64 a0_0,.int .i64 a0_1,.slice A0_2 l0_2.length c0_2] 57 (0,0)) (by (with_reducible repeat (first|refine qab ?_ _|refine qac ?_|refine qaa ?_ _));exact BK120.out)):gb123≠gb120))
   have n8_:=qah.mk ((by rw [hg];exact Nat.ne_of_lt (qaw (g:=gb121) (o:=.cells #[.int .i64 0,.int .i64 0,.slice none 0 0] 32 (0,0)) (by (with_reducible repeat (first|refine qab ?_ _|refine qac ?_|refine qaa ?_ _));exact BK121.out)):gb121≠gb123))
   have n9_:=qah.mk ((by rw [hg];exact Nat.ne_of_gt (qaw (g:=gb121) (o:=.cells #[.int .i64 0,.int .i64 0,.slice none 0 0] 32 (0,0)) (by (with_reducible repeat (first|refine qab ?_ _|refine qac ?_|refine qaa ?_ _));exact BK121.out)):gb123≠gb121))
   clear BK120
   clear BK121
   clear HB
   have BK120:=n0_
   have BK121:=n1_
   have HB:=n2_
   have BK123:=n3_
   have GW123:=n4_
   have GE123:=n5_
   have NB120_123:=n6_
   have NB123_120:=n7_
   have NB121_123:=n8_
   have NB123_121:=n9_
   clear n0_ n1_ n2_ n3_ n4_ n5_ n6_ n7_ n8_ n9_
   clear hb hbox hg
   refine hK.out _ _ ⟨(qad BK120.out 0).trans rfl,(qad BK120.out 1).trans rfl,(qad BK120.out 2).trans rfl⟩ (fun hHeld=>?_)
   clear hK K
   refine norm_ (a':=?_) ?_ ?_
   rotate_left
   ·show Act.put _ (some 3) _=_
    simp only [Act.put,List.setIfInBounds_toArray,List.set_cons_zero,List.set_cons_succ,qaC,qaD]
    rfl
   refine one_ (i:=2) (N:=some 7) #[true,true,true,false,true,true,true,false,true,false] rfl rfl (one_of HT_.out (by kernel_rfl)) (by decide) (fun K hK=>?_)
   refine goes_ Tryd.func38 (by kernel_rfl) rfl #[.int .i64 a0_0,.int .i64 8] (by rfl) rfl rfl (by (try simp only [List.map_toArray,List.map_cons,List.map_nil]);first|done|rfl|(simp only [List.length_drop,List.length_take];rfl)) ?_
   with_reducible refine (ostinatoref05_rest.calls a0_0 8 t122 _ A2.out).mono ?_
   rintro e w' ⟨rfl,⟨nd,rfl⟩⟩
   refine⟨_,rfl,?_⟩
   refine hK.out _ _ ⟨(qad BK120.out 0).trans rfl,(qad BK120.out 1).trans rfl,(qad BK120.out 2).trans rfl⟩ (fun hHeld=>?_)
   clear hK K
   refine norm_ (a':=?_) ?_ ?_
   rotate_left
   ·show Act.put _ (some 7) _=_
    simp only [Act.put,List.setIfInBounds_toArray,List.set_cons_zero,List.set_cons_succ,qaC,qaD]
    rfl
   refine pure_ (i:=3) (N:=some 8) (v:=?_) (a':=?_) #[true,true,true,true,true,true,true,false,true,false] rfl rfl (qaQ HT_.out (by kernel_rfl)) (fun _ _ _ h=>h) (Or.inl ⟨by rfl,?_⟩) ?_ ?_
   rotate_left
   ·intro w'
    go_simp
    with_reducible rfl
   rotate_left
   ·simp only [Act.put,List.setIfInBounds_toArray,List.set_cons_zero,List.set_cons_succ,qaC,qaD]
    rfl
   refine pure_ (i:=7) (N:=some 12) (v:=?_) (a':=?_) #[true,true,true,true,true,true,true,true,true,false] rfl rfl (qaQ HT_.out (by kernel_rfl)) (fun _ _ _ h=>h) (Or.inl ⟨by rfl,?_⟩) ?_ ?_
   rotate_left
   ·intro w'
    go_simp
    with_reducible rfl
   rotate_left
   ·simp only [Act.put,List.setIfInBounds_toArray,List.set_cons_zero,List.set_cons_succ,qaC,qaD]
    rfl
   exact norm_ (by simp only [putAll,Act.put,List.setIfInBounds_toArray,List.set_cons_zero,List.set_cons_succ]) (hCont (gb123) _ ⟨hHeld,(by (with_reducible repeat (first|refine qab ?_ _|refine qac ?_|refine qaa ?_ _));exact BK120.out),(by (with_reducible repeat (first|refine qab ?_ _|refine qac ?_|refine qaa ?_ _));exact BK121.out),(by (with_reducible repeat (first|refine qab ?_ _|refine qac ?_|refine qaa ?_ _));exact BK123.out),GW123.out,GE123.out,NB120_123.out,NB123_120.out,NB121_123.out,NB123_121.out,(by repeat (first|(with_reducible first|exact HB.out|apply qai|apply qag|apply qaj|refine qaf ?_ GE120.out|refine qaf ?_ GE121.out|refine qaf ?_ GE123.out)|exact HB.out))⟩)
 rintro gb123 w7 ⟨hS_,h0_,h1_,h2_,h3_,h4_,h5_,h6_,h7_,h8_,h9_⟩
 have n0_:qah (w7.heap[gb120]? = some (.cells #[.int .i64 a0_0,.int .i64 a0_1,.slice A0_2 l0_2.length c0_2] 57 (0,0))):=⟨h0_⟩
 have n1_:qah (w7.heap[gb121]? = some (.cells #[.int .i64 0,.int .i64 0,.slice none 0 0] 32 (0,0))):=⟨h1_⟩
 have n2_:qah (w7.heap[gb123]? = some (.cells #[.int .i64 0,.int .i64 0,.slice none 0 0] 32 (0,0))):=⟨h2_⟩
 have n3_:qah (w.heap.size≤gb123):=⟨h3_⟩
 have n4_:qah (w.heap.size≤gb123):=⟨h4_⟩
 have n5_:qah (gb120≠gb123):=⟨h5_⟩
 have n6_:qah (gb123≠gb120):=⟨h6_⟩
 have n7_:qah (gb121≠gb123):=⟨h7_⟩
 have n8_:qah (gb123≠gb121):=⟨h8_⟩
 have n9_:qah (Below w.heap.size w w7):=⟨h9_⟩
 clear BK120
 clear BK121
 clear HB
 clear h0_ h1_ h2_ h3_ h4_ h5_ h6_ h7_ h8_ h9_
 have BK120:=n0_
 have BK121:=n1_
 have BK123:=n2_
 have GW123:=n3_
 have GE123:=n4_
 have NB120_123:=n5_
 have NB123_120:=n6_
 have NB121_123:=n7_
 have NB123_121:=n8_
 have HB:=n9_
 clear n0_ n1_ n2_ n3_ n4_ n5_ n6_ n7_ n8_ n9_
 have hHeld:w7.cell? ⟨gb120,0,none⟩=some (.int .i64 a0_0)∧w7.cell? ⟨gb120,1,none⟩=some (.int .i64 a0_1)∧w7.cell? ⟨gb120,2,none⟩=some (.slice A0_2 l0_2.length c0_2):=hS_
 refine norm_ (a':=?_) ?_ ?_
 rotate_left
 ·simp only [putAll,Act.put,List.setIfInBounds_toArray,List.set_cons_zero,List.set_cons_succ]
  rfl
 refine one_ (i:=9) (N:=none) #[true,true,true,true,true,true,true,true,true,true] rfl rfl (one_of HT_.out (by kernel_rfl)) (by decide) (fun K hK=>?_)
 have hs8:w7.cell? ⟨gb123,0,none⟩=some (.int .i64 0):=(qad BK123.out 0).trans rfl
 have hfs8:=qae BK123.out 0
 have hns8_0:=NB120_123.out
 have hns8_1:=NB121_123.out
 have hms8_0:=NB123_120.out
 have hms8_1:=NB123_121.out
 have hs9:w7.cell? ⟨gb123,1,none⟩=some (.int .i64 0):=(qad BK123.out 1).trans rfl
 have hfs9:=qae BK123.out 1
 have hns9_0:=NB120_123.out
 have hns9_1:=NB121_123.out
 have hms9_0:=NB123_120.out
 have hms9_1:=NB123_121.out
 have hs10:w7.cell? ⟨gb123,2,none⟩=some (.slice none 0 0):=(qad BK123.out 2).trans rfl
 have hfs10:=qae BK123.out 2
 have hns10_0:=NB120_123.out
 have hns10_1:=NB121_123.out
 have hms10_0:=NB123_120.out
 have hms10_1:=NB123_121.out
 refine skip_ (w1:=?_) (by rfl) rfl ?_ ?_
 rotate_left
 ·go_simp
  rfl
 refine hK.out _ _ ⟨((cell_far (p:=⟨gb123,_,none⟩) NB120_123.out _).trans (((cell_far (p:=⟨gb123,_,none⟩) NB120_123.out _).trans (((cell_far (p:=⟨gb123,_,none⟩) NB120_123.out _).trans (hHeld.1)))))),((cell_far (p:=⟨gb123,_,none⟩) NB120_123.out _).trans (((cell_far (p:=⟨gb123,_,none⟩) NB120_123.out _).trans (((cell_far (p:=⟨gb123,_,none⟩) NB120_123.out _).trans (hHeld.2.1)))))),((cell_far (p:=⟨gb123,_,none⟩) NB120_123.out _).trans (((cell_far (p:=⟨gb123,_,none⟩) NB120_123.out _).trans (((cell_far (p:=⟨gb123,_,none⟩) NB120_123.out _).trans (hHeld.2.2))))))⟩ (fun hHeld=>?_)
 clear hK K
 refine done_ (done_of HT_.out (by kernel_rfl)) ?_
 try go_wp2
 go_loopg [4] k (fun kq v4 w'=>∃ (x4_1:Int) (x124002_1:List (S52)) (u124002:Value),v4=.int .i64 x4_1∧qah (ostinatoref05_System_Made.l0 kq x4_1 a0_0 a0_1 l0_2 (wrap64 (1+t122)) (Go.bits .and .i64 a0_1 3) x124002_1=some (r1,r2,r3))∧qah (kq≤k)∧qah (Kd.S k52 52 w' w.heap.size (fun _=>True) u124002 x124002_1)∧qah (w'.heap[gb120]? = some (.cells #[.int .i64 a0_0,.int .i64 a0_1,(.slice A0_2 l0_2.length c0_2)] 57 (0,0)))∧qah (w'.heap[gb121]? = some (.cells #[.int .i64 0,.int .i64 0,(.slice none 0 0)] 32 (0,0)))∧qah (w'.heap[gb123]? = some (.cells #[.int .i64 (wrap64 (1+t122)),.int .i64 (Go.bits .and .i64 a0_1 3),u124002] 32 (0,0)))∧qah (Below w.heap.size w w'))
 case atStart=>exact⟨(0),(([]:List (S52))),(.slice none 0 0),(by first|rfl|(simp;done)|(simp [*];done)),H',⟨Nat.le_refl _⟩,⟨by first|exact Kd.S_nil _ _ _ _ _|exact Kd.N_nil _ _ _ _ _|exact Kd.V_nil _ _ _ _ _|exact Kd.Q_nil _ _ _ _ _|exact Kd.R_nil _ _ _ _ _⟩,⟨by (with_reducible repeat (first|refine qab ?_ _|refine qac ?_|refine qaa ?_ _));refine qan ?_ NB120_123.out _;(with_reducible repeat (first|refine qab ?_ _|refine qac ?_|refine qaa ?_ _));refine qan ?_ NB120_123.out _;(with_reducible repeat (first|refine qab ?_ _|refine qac ?_|refine qaa ?_ _));refine qan ?_ NB120_123.out _;(with_reducible repeat (first|refine qab ?_ _|refine qac ?_|refine qaa ?_ _));exact BK120.out⟩,⟨by (with_reducible repeat (first|refine qab ?_ _|refine qac ?_|refine qaa ?_ _));refine qan ?_ NB121_123.out _;(with_reducible repeat (first|refine qab ?_ _|refine qac ?_|refine qaa ?_ _));refine qan ?_ NB121_123.out _;(with_reducible repeat (first|refine qab ?_ _|refine qac ?_|refine qaa ?_ _));refine qan ?_ NB121_123.out _;(with_reducible repeat (first|refine qab ?_ _|refine qac ?_|refine qaa ?_ _));exact BK121.out⟩,⟨by (with_reducible repeat (first|refine qab ?_ _|refine qac ?_|refine qaa ?_ _));refine qao (cs:=#[.int .i64 (wrap64 (1+t122)),.int .i64 (Go.bits .and .i64 a0_1 3),.slice none 0 0]) ?_ 2 _ rfl;(with_reducible repeat (first|refine qab ?_ _|refine qac ?_|refine qaa ?_ _));refine qao (cs:=#[.int .i64 (wrap64 (1+t122)),.int .i64 0,.slice none 0 0]) ?_ 1 _ rfl;(with_reducible repeat (first|refine qab ?_ _|refine qac ?_|refine qaa ?_ _));refine qao (cs:=#[.int .i64 0,.int .i64 0,.slice none 0 0]) ?_ 0 _ rfl;(with_reducible repeat (first|refine qab ?_ _|refine qac ?_|refine qaa ?_ _));exact BK123.out⟩,⟨by repeat (first|(with_reducible first|exact HB.out|apply qai|apply qag|apply qaj|refine qaf ?_ GE120.out|refine qaf ?_ GE121.out|refine qaf ?_ GE123.out)|exact HB.out)⟩⟩
 case round=>
  clear H'
  try clear c1
  try clear p2
  try clear c3
  try clear p6
  obtain⟨x4_1,x124002_1,u124002,rfl,HA,HK1,HO_124002,BK120,BK121,BK123,HB⟩:=hrel
  cases gk with
  |zero=>exact absurd HA.out (by simp [ostinatoref05_System_Made.l0])
  |succ k1=>
   have H:=HA.out
   clear HA
   simp only [ostinatoref05_System_Made.l0] at H
   by_cases c11:x4_1<(l0_2.length:Int)
   ·rw [if_pos c11] at H
    have c11b0:decide (x4_1<(l0_2.length:Int))=true:=decide_eq_true c11
    clear c11
    by_cases c12:x4_1<6
    ·rw [if_pos c12] at H
     have c12b0:decide (x4_1<6)=true:=decide_eq_true c12
     clear c12
     by_cases c13:0≤x4_1
     ·rw [if_pos c13] at H
      have c13b0:decide (0≤x4_1)=true:=decide_eq_true c13
      clear c13
      replace H:=Option.bind_eq_some_iff.mp H
      obtain⟨⟨t125,t126,t127,t128,t129,t130,t133⟩,A140,H⟩:=H
      replace H:(if x124002_1.length<1599289640401 then (ostinatoref05_System_Made.l0 k1 (wrap64 (x4_1+1)) a0_0 a0_1 l0_2 (wrap64 (1+t122)) (Go.bits .and .i64 a0_1 3) (x124002_1++[(⟨t125,t126,t127,t128,t129,t130,t133⟩:S52)])) else (none))=some (r1,r2,r3):=H
      have A14:=qah.mk A140
      clear A140
      by_cases c15:x124002_1.length<1599289640401
      ·rw [if_pos c15] at H
       have LMc15:=qah.mk c15
       clear c15
       obtain⟨y136,hy136⟩:∃ y_:List (S52),y_=(x124002_1++[(⟨t125,t126,t127,t128,t129,t130,t133⟩:S52)]):=⟨_,rfl⟩
       replace H:(ostinatoref05_System_Made.l0 k1 (wrap64 (x4_1+1)) a0_0 a0_1 l0_2 (wrap64 (1+t122)) (Go.bits .and .i64 a0_1 3) y136)=some (r1,r2,r3):=by first|(rw [hy136];with_reducible exact H)|(have H2_:=(Option.bind_some _ _).symm.trans H;rw [hy136];with_reducible exact H2_)|(have H2_:=(Option.bind_some _ _).symm.trans H;with_reducible exact H2_)|with_reducible exact H|(rw [hy136];exact H)|exact H
       have Ny136:=qah.mk hy136
       clear hy136
       have H':=qah.mk H
       clear H
       have hnb16:=NB120_121.out
       have hnc16:=NB121_120.out
       have hnb17:=NB120_123.out
       have hnc17:=NB123_120.out
       have hcz18_0:wr.cell? ⟨gb120,0,none⟩=some (.int .i64 a0_0):=(qad BK120.out 0).trans rfl
       have hcz18_1:wr.cell? ⟨gb120,1,none⟩=some (.int .i64 a0_1):=(qad BK120.out 1).trans rfl
       have hcz18_2:wr.cell? ⟨gb120,2,none⟩=some (.slice A0_2 l0_2.length c0_2):=(qad BK120.out 2).trans rfl
       have hfz18_0:=qae BK120.out 0
       have hfz18_1:=qae BK120.out 1
       have hfz18_2:=qae BK120.out 2
       try go_wp2
       have n0_:=qah.mk (Kd.S_drew HO_124002.out)
       have n1_:=qah.mk (qac BK120.out)
       have n2_:=qah.mk (qac BK121.out)
       have n3_:=qah.mk (qac BK123.out)
       have n4_:=qah.mk (qaj HB.out)
       clear HO_124002
       clear BK120
       clear BK121
       clear BK123
       clear HB
       have HO_124002:=n0_
       have BK120:=n1_
       have BK121:=n2_
       have BK123:=n3_
       have HB:=n4_
       clear n0_ n1_ n2_ n3_ n4_
       have p124:0≤(x4_1:Int):=of_decide_eq_true (by first|(with_reducible assumption)|assumption)
       have q124:x4_1<(l0_2.length:Int):=of_decide_eq_true (by first|(with_reducible assumption)|assumption)
       obtain⟨ad124,A124_5,c124_5,e124,hx124_0,hx124_1,hx124_2,hx124_3,hx124_4,hx124_5,hl124_5,hi124_5⟩:=at_T59 HR0_2.out x4_1 p124 q124
       have hw124_5:=hx124_5
       have hw124_4:=hx124_4
       have hw124_3:=hx124_3
       have hw124_2:=hx124_2
       have hw124_1:=hx124_1
       have hw124_0:=hx124_0
       cases e124
       replace hx124_0:=(HB.out.cell (bLt w _ hx124_0)).trans hx124_0
       replace hx124_1:=(HB.out.cell (bLt w _ hx124_1)).trans hx124_1
       replace hx124_2:=(HB.out.cell (bLt w _ hx124_2)).trans hx124_2
       replace hx124_3:=(HB.out.cell (bLt w _ hx124_3)).trans hx124_3
       replace hx124_4:=(HB.out.cell (bLt w _ hx124_4)).trans hx124_4
       replace hx124_5:=(HB.out.cell (bLt w _ hx124_5)).trans hx124_5
       have HR124_5:=qah.mk hi124_5
       have HC124_5:=qah.mk hl124_5
       clear hi124_5 hl124_5
       replace p124:=eq_true p124
       replace q124:=eq_true q124
       refine start_ (n:=15) (S:=fun w'=>w'.cell? ⟨gb123,0,none⟩=some (.int .i64 (wrap64 (1+t122)))∧w'.cell? ⟨gb123,1,none⟩=some (.int .i64 (Go.bits .and .i64 a0_1 3))∧w'.cell? ⟨gb123,2,none⟩=some (u124002)∧w'.cell? ⟨gb120,0,none⟩=some (.int .i64 a0_0)∧w'.cell? ⟨gb120,1,none⟩=some (.int .i64 a0_1)∧w'.cell? ⟨gb120,2,none⟩=some (.slice (some ad124) l0_2.length c0_2)∧w'.cell? (ad124.add ((x4_1).toNat * 6))=some (.int .i64 ((qay l0_2 x4_1).f0))∧w'.cell? ⟨(ad124.add ((x4_1).toNat * 6)).block,(ad124.add ((x4_1).toNat * 6)).off+1,none⟩=some (.int .i64 ((qay l0_2 x4_1).f1))∧w'.cell? ⟨(ad124.add ((x4_1).toNat * 6)).block,(ad124.add ((x4_1).toNat * 6)).off+2,none⟩=some (.int .i64 ((qay l0_2 x4_1).f2))∧w'.cell? ⟨(ad124.add ((x4_1).toNat * 6)).block,(ad124.add ((x4_1).toNat * 6)).off+3,none⟩=some (.int .i64 ((qay l0_2 x4_1).f3))∧w'.cell? ⟨(ad124.add ((x4_1).toNat * 6)).block,(ad124.add ((x4_1).toNat * 6)).off+4,none⟩=some (.int .i64 ((qay l0_2 x4_1).f4))∧w'.cell? ⟨(ad124.add ((x4_1).toNat * 6)).block,(ad124.add ((x4_1).toNat * 6)).off+5,none⟩=some (.slice A124_5 ((qay l0_2 x4_1).f5).length c124_5)) (ds:=[14]) #[false,false,false,false,false,false,false,false,false,false,false,false,false,false,false] (by kernel_rfl) rfl rfl ⟨(qad BK123.out 0).trans rfl,(qad BK123.out 1).trans rfl,(qad BK123.out 2).trans rfl,(qad BK120.out 0).trans rfl,(qad BK120.out 1).trans rfl,(qad BK120.out 2).trans rfl,((HB.out.cell (bLt w _ hw124_0)).trans hw124_0),((HB.out.cell (bLt w _ hw124_1)).trans hw124_1),((HB.out.cell (bLt w _ hw124_2)).trans hw124_2),((HB.out.cell (bLt w _ hw124_3)).trans hw124_3),((HB.out.cell (bLt w _ hw124_4)).trans hw124_4),((HB.out.cell (bLt w _ hw124_5)).trans hw124_5)⟩ (fun hHeld=>?_);refine with_tabW ostinatoref05_System_Made.tab5 ostinatoref05_System_Made.bits5 (fun HT_ HW_=>?_)
       generalize wr.drew=w19 at HO_124002 BK120 BK121 BK123 HB HR124_5 hx124_0 hx124_1 hx124_2 hx124_3 hx124_4 hx124_5 hHeld ⊢
       refine pure_ (i:=0) (N:=some 24) (v:=?_) (a':=?_) #[true,false,false,false,false,false,false,false,false,false,false,false,false,false,false] rfl rfl (qaQ HT_.out (by kernel_rfl)) (fun _ _ _ h=>h) (Or.inl ⟨by rfl,?_⟩) ?_ ?_
       rotate_left
       ·intro w'
        go_simp
        with_reducible rfl
       rotate_left
       ·simp only [Act.put,List.setIfInBounds_toArray,List.set_cons_zero,List.set_cons_succ,qaC,qaD]
        rfl
       refine pure_ (i:=2) (N:=some 26) (v:=?_) (a':=?_) #[true,false,true,false,false,false,false,false,false,false,false,false,false,false,false] rfl rfl (qaQ HT_.out (by kernel_rfl)) (fun _ _ _ h=>h) (Or.inl ⟨by rfl,?_⟩) ?_ ?_
       rotate_left
       ·intro w'
        go_simp
        with_reducible rfl
       rotate_left
       ·simp only [Act.put,List.setIfInBounds_toArray,List.set_cons_zero,List.set_cons_succ,qaC,qaD]
        rfl
       refine pure_ (i:=4) (N:=some 28) (v:=?_) (a':=?_) #[true,false,true,false,true,false,false,false,false,false,false,false,false,false,false] rfl rfl (qaQ HT_.out (by kernel_rfl)) (fun _ _ _ h=>h) (Or.inl ⟨by rfl,?_⟩) ?_ ?_
       rotate_left
       ·intro w'
        go_simp
        with_reducible rfl
       rotate_left
       ·simp only [Act.put,List.setIfInBounds_toArray,List.set_cons_zero,List.set_cons_succ,qaC,qaD]
        rfl
       refine pure_ (i:=7) (N:=some 31) (v:=?_) (a':=?_) #[true,false,true,false,true,false,false,true,false,false,false,false,false,false,false] rfl rfl (qaQ HT_.out (by kernel_rfl)) (fun _ _ _ h=>h) (Or.inl ⟨by rfl,?_⟩) ?_ ?_
       rotate_left
       ·intro w'
        go_simp
        with_reducible rfl
       rotate_left
       ·simp only [Act.put,List.setIfInBounds_toArray,List.set_cons_zero,List.set_cons_succ,qaC,qaD]
        rfl
       refine pure_ (i:=8) (N:=some 32) (v:=?_) (a':=?_) #[true,false,true,false,true,false,false,true,true,false,false,false,false,false,false] rfl rfl (qaQ HT_.out (by kernel_rfl)) (fun _ _ _ h=>h) (Or.inl ⟨by rfl,?_⟩) ?_ ?_
       rotate_left
       ·intro w'
        go_simp
        with_reducible rfl
       rotate_left
       ·simp only [Act.put,List.setIfInBounds_toArray,List.set_cons_zero,List.set_cons_succ,qaC,qaD]
        rfl
       refine take_ (i:=1) (N:=some 25) (v:=?_) (a':=?_) #[true,true,true,false,true,false,false,true,true,false,false,false,false,false,false] rfl rfl (qaY HT_.out HW_.out (by kernel_rfl)) (fun _ _ _ h=>h) (Or.inl ⟨by rfl,?_⟩) hHeld ?_ ?_
       rotate_left
       ·rintro w' ⟨s0,s1,s2,s3,s4,s5,s6,s7,s8,s9,s10,s11⟩
        go_simp
        with_reducible rfl
       rotate_left
       ·simp only [Act.put,List.setIfInBounds_toArray,List.set_cons_zero,List.set_cons_succ,qaC,qaD]
        rfl
       refine take_ (i:=3) (N:=some 27) (v:=?_) (a':=?_) #[true,true,true,true,true,false,false,true,true,false,false,false,false,false,false] rfl rfl (qaY HT_.out HW_.out (by kernel_rfl)) (fun _ _ _ h=>h) (Or.inl ⟨by rfl,?_⟩) hHeld ?_ ?_
       rotate_left
       ·rintro w' ⟨s0,s1,s2,s3,s4,s5,s6,s7,s8,s9,s10,s11⟩
        go_simp
        with_reducible rfl
       rotate_left
       ·simp only [Act.put,List.setIfInBounds_toArray,List.set_cons_zero,List.set_cons_succ,qaC,qaD]
        rfl
       refine pure_ (i:=5) (N:=some 29) (v:=?_) (a':=?_) #[true,true,true,true,true,true,false,true,true,false,false,false,false,false,false] rfl rfl (qaQ HT_.out (by kernel_rfl)) (fun _ _ _ h=>h) (Or.inl ⟨by rfl,?_⟩) ?_ ?_
       rotate_left
       ·intro w'
        go_simp
        with_reducible rfl
       rotate_left
       ·simp only [Act.put,List.setIfInBounds_toArray,List.set_cons_zero,List.set_cons_succ,qaC,qaD]
        rfl
       refine take_ (i:=6) (N:=some 30) (v:=?_) (a':=?_) #[true,true,true,true,true,true,true,true,true,false,false,false,false,false,false] rfl rfl (qaY HT_.out HW_.out (by kernel_rfl)) (fun _ _ _ h=>h) (Or.inl ⟨by rfl,?_⟩) hHeld ?_ ?_
       rotate_left
       ·rintro w' ⟨s0,s1,s2,s3,s4,s5,s6,s7,s8,s9,s10,s11⟩
        go_simp
        with_reducible rfl
       rotate_left
       ·simp only [Act.put,List.setIfInBounds_toArray,List.set_cons_zero,List.set_cons_succ,qaC,qaD]
        rfl
       refine take_ (i:=9) (N:=some 33) (v:=?_) (a':=?_) #[true,true,true,true,true,true,true,true,true,true,false,false,false,false,false] rfl rfl (qaY HT_.out HW_.out (by kernel_rfl)) (fun _ _ _ h=>h) (Or.inl ⟨by rfl,?_⟩) hHeld ?_ ?_
       rotate_left
       ·rintro w' ⟨s0,s1,s2,s3,s4,s5,s6,s7,s8,s9,s10,s11⟩
        go_simp
        with_reducible rfl
       rotate_left
       ·simp only [Act.put,List.setIfInBounds_toArray,List.set_cons_zero,List.set_cons_succ,qaC,qaD]
        rfl
       refine one_ (i:=10) (N:=some 34) #[true,true,true,true,true,true,true,true,true,true,true,false,false,false,false] rfl rfl (one_of HT_.out (by kernel_rfl)) (by decide) (fun K hK=>?_)
       refine goes_ Tryd.func39 (by kernel_rfl) rfl #[.agg #[.int .i64 ((qay l0_2 x4_1).f0),.int .i64 ((qay l0_2 x4_1).f1),.int .i64 ((qay l0_2 x4_1).f2),.int .i64 ((qay l0_2 x4_1).f3),.int .i64 ((qay l0_2 x4_1).f4),.slice A124_5 ((qay l0_2 x4_1).f5).length c124_5],.int .i64 x4_1,.int .i64 (wrap64 (1+t122))] (by rfl) rfl rfl (by (try simp only [List.map_toArray,List.map_cons,List.map_nil]);first|done|rfl|(simp only [List.length_drop,List.length_take];rfl)) ?_
       with_reducible refine (ostinatoref05_Num_task.calls k1 ((qay l0_2 x4_1).f0) ((qay l0_2 x4_1).f1) ((qay l0_2 x4_1).f2) ((qay l0_2 x4_1).f3) ((qay l0_2 x4_1).f4) _ _ ((qay l0_2 x4_1).f5) x4_1 (wrap64 (1+t122)) t125 t126 t127 t128 t129 t130 t133 _ ?side1 ?side2 A14.out).mono ?_
       (case side1=>repeat (first|exact (Kd.C_below HR124_5.out HB.out)|(with_reducible refine Kd.C_alloc ?_ _)|(with_reducible refine Kd.C_drewN ?_ _)|(with_reducible refine Kd.C_drew ?_)))
       (case side2=>exact HC124_5.out)
       rintro e w20 ⟨v131,v134,rfl,ho0,ho1,hb⟩
       refine⟨_,rfl,?_⟩
       have n0_:=qah.mk (Kd.S_mono (Kd.S_told (Kd.S_told (Kd.S_old (by (with_reducible repeat (first|apply Kd.S_alloc|apply Kd.S_drewN|apply Kd.S_drew));exact HO_124002.out) hb) (Kd.R_base ho0)) (Kd.R_base ho1)) (fun _ h_=>h_.1))
       have n1_:=qah.mk (Kd.R_lower ho0 (qam (by repeat (first|(with_reducible first|exact HB.out|apply qai|apply qag|apply qaj|refine qaf ?_ GE120.out|refine qaf ?_ GE121.out|refine qaf ?_ GE123.out)|exact HB.out))))
       have n2_:=qah.mk (Kd.R_lower ho1 (qam (by repeat (first|(with_reducible first|exact HB.out|apply qai|apply qag|apply qaj|refine qaf ?_ GE120.out|refine qaf ?_ GE121.out|refine qaf ?_ GE123.out)|exact HB.out))))
       have n3_:=qah.mk (qap (g:=gb120) (o:=.cells #[.int .i64 a0_0,.int .i64 a0_1,.slice (some ad124) l0_2.length c0_2] 57 (0,0)) (by (with_reducible repeat (first|refine qab ?_ _|refine qac ?_|refine qaa ?_ _));exact BK120.out) hb)
       have n4_:=qah.mk (qap (g:=gb121) (o:=.cells #[.int .i64 0,.int .i64 0,.slice none 0 0] 32 (0,0)) (by (with_reducible repeat (first|refine qab ?_ _|refine qac ?_|refine qaa ?_ _));exact BK121.out) hb)
       have n5_:=qah.mk (qap (g:=gb123) (o:=.cells #[.int .i64 (wrap64 (1+t122)),.int .i64 (Go.bits .and .i64 a0_1 3),u124002] 32 (0,0)) (by (with_reducible repeat (first|refine qab ?_ _|refine qac ?_|refine qaa ?_ _));exact BK123.out) hb)
       have n6_:=qah.mk (qat (by repeat (first|(with_reducible first|exact HB.out|apply qai|apply qag|apply qaj|refine qaf ?_ GE120.out|refine qaf ?_ GE121.out|refine qaf ?_ GE123.out)|exact HB.out)) hb)
       clear HO_124002
       clear BK120
       clear BK121
       clear BK123
       clear HB
       have HO_124002:=n0_
       have HO132:=n1_
       have HO135:=n2_
       have BK120:=n3_
       have BK121:=n4_
       have BK123:=n5_
       have HB:=n6_
       clear n0_ n1_ n2_ n3_ n4_ n5_ n6_
       (try clear hb)
       (try clear hb2)
       (try clear hk)
       (try clear hi)
       (try clear ho0)
       (try clear ho1)
       obtain⟨Ao22,co22,eo22⟩:=Kd.R_slice HO132.out
       (first|subst eo22|(injection eo22 with f1_ f2_ f3_;have f4_:=f1_.symm;have f5_:=f3_.symm;clear f1_ f2_ f3_;subst f4_;subst f5_))
       obtain⟨Ao23,co23,eo23⟩:=Kd.R_slice HO135.out
       (first|subst eo23|(injection eo23 with f1_ f2_ f3_;have f4_:=f1_.symm;have f5_:=f3_.symm;clear f1_ f2_ f3_;subst f4_;subst f5_))
       refine hK.out _ _ ⟨(qad BK123.out 0).trans rfl,(qad BK123.out 1).trans rfl,(qad BK123.out 2).trans rfl,(qad BK120.out 0).trans rfl,(qad BK120.out 1).trans rfl,(qad BK120.out 2).trans rfl,((HB.out.cell (bLt w _ hw124_0)).trans hw124_0),((HB.out.cell (bLt w _ hw124_1)).trans hw124_1),((HB.out.cell (bLt w _ hw124_2)).trans hw124_2),((HB.out.cell (bLt w _ hw124_3)).trans hw124_3),((HB.out.cell (bLt w _ hw124_4)).trans hw124_4),((HB.out.cell (bLt w _ hw124_5)).trans hw124_5)⟩ (fun hHeld=>?_)
       clear hK K
       refine norm_ (a':=?_) ?_ ?_
       rotate_left
       ·show Act.put _ (some 34) _=_
        simp only [Act.put,List.setIfInBounds_toArray,List.set_cons_zero,List.set_cons_succ,qaC,qaD]
        rfl
       refine one_ (i:=11) (N:=some 35) #[true,true,true,true,true,true,true,true,true,true,true,true,false,false,false] rfl rfl (one_of HT_.out (by kernel_rfl)) (by decide) (fun K hK=>?_)
       refine value_ (w1:=?_) (v:=?_) (by rfl) rfl ?_ ?_
       rotate_left 2
       ·go_simp
        constructor
        ·rfl
        ·rfl
       refine hK.out _ _ ⟨(qad (qaa BK123.out _) 0).trans rfl,(qad (qaa BK123.out _) 1).trans rfl,(qad (qaa BK123.out _) 2).trans rfl,(qad (qaa BK120.out _) 0).trans rfl,(qad (qaa BK120.out _) 1).trans rfl,(qad (qaa BK120.out _) 2).trans rfl,(World.cell?_alloc_lt _ _ _ (bLt _ _ (((HB.out.cell (bLt w _ hw124_0)).trans hw124_0)))).trans (((HB.out.cell (bLt w _ hw124_0)).trans hw124_0)),(World.cell?_alloc_lt _ _ _ (bLt _ _ (((HB.out.cell (bLt w _ hw124_1)).trans hw124_1)))).trans (((HB.out.cell (bLt w _ hw124_1)).trans hw124_1)),(World.cell?_alloc_lt _ _ _ (bLt _ _ (((HB.out.cell (bLt w _ hw124_2)).trans hw124_2)))).trans (((HB.out.cell (bLt w _ hw124_2)).trans hw124_2)),(World.cell?_alloc_lt _ _ _ (bLt _ _ (((HB.out.cell (bLt w _ hw124_3)).trans hw124_3)))).trans (((HB.out.cell (bLt w _ hw124_3)).trans hw124_3)),(World.cell?_alloc_lt _ _ _ (bLt _ _ (((HB.out.cell (bLt w _ hw124_4)).trans hw124_4)))).trans (((HB.out.cell (bLt w _ hw124_4)).trans hw124_4)),(World.cell?_alloc_lt _ _ _ (bLt _ _ (((HB.out.cell (bLt w _ hw124_5)).trans hw124_5)))).trans (((HB.out.cell (bLt w _ hw124_5)).trans hw124_5))⟩ (fun hHeld=>?_)
       clear hK K
       refine norm_ (a':=?_) ?_ ?_
       rotate_left
       ·show Act.put _ (some 35) _=_
        simp only [Act.put,List.setIfInBounds_toArray,List.set_cons_zero,List.set_cons_succ,qaC,qaD]
        rfl
       refine one_ (i:=12) (N:=some 36) #[true,true,true,true,true,true,true,true,true,true,true,true,true,false,false] rfl rfl (one_of HT_.out (by kernel_rfl)) (by decide) (fun K hK=>?_)
       refine Kd.S_append_step k52 (w0:=w) w.heap.size (by rfl) (.tmp 25) (.tmp 35) 30 52 (.agg #[(.int .i64 0),(.int .i64 0),(.int .i64 0),(.int .i64 0),(.int .i64 0),(.slice none 0 0),(.slice none 0 0)]) 88 rfl Tryd.underlying30 info52 rfl (by decide) (by omega) u124002 x124002_1 (⟨t125,t126,t127,t128,t129,t130,t133⟩:S52) [.int .i64 t125,.int .i64 t126,.int .i64 t127,.int .i64 t128,.int .i64 t129,.slice Ao22 t130.length co22,.slice Ao23 t133.length co23] (fun _=>True) (fun k_=>some k_=(.slice Ao22 t130.length co22:Value).ownBlock∨some k_=(.slice Ao23 t133.length co23:Value).ownBlock) rfl rfl ?aP (fun k_ hk_=>hk_.elim (fun h_=>((Kd.R_mono (ok':=fun k_=>((fun _=>True)) k_∧some k_≠(u124002:Value).ownBlock) (Kd.R_apart' (HO132.out) (Kd.S_typed HO_124002.out) (by decide)) (fun k_ hk=>⟨trivial,hk.2⟩))).1 k_ h_.symm) (fun h_=>((Kd.R_mono (ok':=fun k_=>((fun _=>True)) k_∧some k_≠(u124002:Value).ownBlock) (Kd.R_apart' (HO135.out) (Kd.S_typed HO_124002.out) (by decide)) (fun k_ hk=>⟨trivial,hk.2⟩))).1 k_ h_.symm)) ?aF ?aO ?aB ?aS ?aL ?_
       (case aP=>exact k52_mkM _ _ _ (⟨t125,t126,t127,t128,t129,t130,t133⟩:S52) (Kd.R_mono (Kd.R_tight rfl (Kd.R_mono (ok':=fun k_=>((fun _=>True)) k_∧some k_≠(u124002:Value).ownBlock) (Kd.R_apart' (HO132.out) (Kd.S_typed HO_124002.out) (by decide)) (fun k_ hk=>⟨trivial,hk.2⟩))) (fun _ h_=>Or.inl h_)) (Kd.R_mono (Kd.R_tight rfl (Kd.R_mono (ok':=fun k_=>((fun _=>True)) k_∧some k_≠(u124002:Value).ownBlock) (Kd.R_apart' (HO135.out) (Kd.S_typed HO_124002.out) (by decide)) (fun k_ hk=>⟨trivial,hk.2⟩))) (fun _ h_=>Or.inr (h_))))
       (case aB=>exact (by repeat (first|(with_reducible first|exact HB.out|apply qai|apply qag|apply qaj|refine qaf ?_ GE120.out|refine qaf ?_ GE121.out|refine qaf ?_ GE123.out)|exact HB.out)))
       (case aF=>exact (fun _ _=>trivial))
       (case aO=>exact (by (with_reducible repeat (first|apply Kd.S_alloc|apply Kd.S_drewN|apply Kd.S_drew));exact Kd.S_mono HO_124002.out (fun k_ hk=>⟨trivial,fun e_=>e_.elim (fun h_=>hk.1.2 h_) (fun h_=>hk.2 h_)⟩)))
       (case aS=>exact (qam (by repeat (first|(with_reducible first|exact HB.out|apply qai|apply qag|apply qaj|refine qaf ?_ GE120.out|refine qaf ?_ GE121.out|refine qaf ?_ GE123.out)|exact HB.out))))
       (case aL=>have:=LMc15.out;omega)
       intro v137 w21 ho hb hg hat
       rw [← Ny136.out] at ho
       have n0_:=qah.mk (qaB (g:=gb120) (o:=.cells #[.int .i64 a0_0,.int .i64 a0_1,.slice (some ad124) l0_2.length c0_2] 57 (0,0)) (by (with_reducible repeat (first|refine qab ?_ _|refine qac ?_|refine qaa ?_ _));exact BK120.out) hg (Kd.S_ne HO_124002.out BK120.out (by decide)))
       have n1_:=qah.mk (qaB (g:=gb121) (o:=.cells #[.int .i64 0,.int .i64 0,.slice none 0 0] 32 (0,0)) (by (with_reducible repeat (first|refine qab ?_ _|refine qac ?_|refine qaa ?_ _));exact BK121.out) hg (Kd.S_ne HO_124002.out BK121.out (by decide)))
       have n2_:=qah.mk (qaB (g:=gb123) (o:=.cells #[.int .i64 (wrap64 (1+t122)),.int .i64 (Go.bits .and .i64 a0_1 3),u124002] 32 (0,0)) (by (with_reducible repeat (first|refine qab ?_ _|refine qac ?_|refine qaa ?_ _));exact BK123.out) hg (Kd.S_ne HO_124002.out BK123.out (by decide)))
       have n3_:=qah.mk (hb)
       have n4_:=qah.mk (ho)
       clear BK120
       clear BK121
       clear BK123
       clear HB
       clear HO_124002
       clear HO132
       clear HO135
       have BK120:=n0_
       have BK121:=n1_
       have BK123:=n2_
       have HB:=n3_
       have HO138:=n4_
       clear n0_ n1_ n2_ n3_ n4_
       clear ho hb hg hat
       obtain⟨Ao24,co24,eo24⟩:=Kd.S_slice HO138.out
       (first|subst eo24|(injection eo24 with f1_ f2_ f3_;have f4_:=f1_.symm;have f5_:=f3_.symm;clear f1_ f2_ f3_;subst f4_;subst f5_))
       refine hK.out _ _ ⟨(qad BK123.out 0).trans rfl,(qad BK123.out 1).trans rfl,(qad BK123.out 2).trans rfl,(qad BK120.out 0).trans rfl,(qad BK120.out 1).trans rfl,(qad BK120.out 2).trans rfl,((HB.out.cell (bLt w _ hw124_0)).trans hw124_0),((HB.out.cell (bLt w _ hw124_1)).trans hw124_1),((HB.out.cell (bLt w _ hw124_2)).trans hw124_2),((HB.out.cell (bLt w _ hw124_3)).trans hw124_3),((HB.out.cell (bLt w _ hw124_4)).trans hw124_4),((HB.out.cell (bLt w _ hw124_5)).trans hw124_5)⟩ (fun hHeld=>?_)
       clear hK K
       refine norm_ (a':=?_) ?_ ?_
       rotate_left
       ·show Act.put _ (some 36) _=_
        simp only [Act.put,List.setIfInBounds_toArray,List.set_cons_zero,List.set_cons_succ,qaC,qaD]
        rfl
       refine pure_ (i:=13) (N:=some 37) (v:=?_) (a':=?_) #[true,true,true,true,true,true,true,true,true,true,true,true,true,true,false] rfl rfl (qaQ HT_.out (by kernel_rfl)) (fun _ _ _ h=>h) (Or.inl ⟨by rfl,?_⟩) ?_ ?_
       rotate_left
       ·intro w'
        go_simp
        with_reducible rfl
       rotate_left
       ·simp only [Act.put,List.setIfInBounds_toArray,List.set_cons_zero,List.set_cons_succ,qaC,qaD]
        rfl
       refine last_ (i:=14) (N:=none) #[true,true,true,true,true,true,true,true,true,true,true,true,true,true,true] rfl rfl (one_of HT_.out (by kernel_rfl)) (by decide) (fun K hK=>?_)
       have hs25:w21.cell? ⟨gb123,2,none⟩=some (u124002):=(qad BK123.out 2).trans rfl
       have hfs25:=qae BK123.out 2
       have hns25_0:=NB120_123.out
       have hns25_1:=NB121_123.out
       have hms25_0:=NB123_120.out
       have hms25_1:=NB123_121.out
       refine skip_ (w1:=?_) (by rfl) rfl ?_ ?_
       rotate_left
       ·go_simp
        rfl
       refine hK.out _ _ ?_
       clear hK K
       refine done_ (done_of HT_.out (by kernel_rfl)) ?_
       try go_wp2
       go_roundg k1
       case measure=>have:=HK1.out;omega
       case rel=>exact⟨(wrap64 (x4_1+1)),(y136),(.slice Ao24 y136.length co24),(by first|rfl|(simp;done)|(simp [*];done)),H',⟨by have:=HK1.out;omega⟩,⟨by (with_reducible repeat (first|apply Kd.S_alloc|apply Kd.S_drewN|apply Kd.S_drew));exact Kd.S_mono (Kd.S_far (p:=⟨gb123,2,none⟩) (Kd.S_types HO138.out BK123.out (by decide)) (fun _ hk=>hk.2) (.slice Ao24 y136.length co24)) (fun _ hk=>trivial)⟩,⟨by (with_reducible repeat (first|refine qab ?_ _|refine qac ?_|refine qaa ?_ _));refine qan ?_ NB120_123.out _;(with_reducible repeat (first|refine qab ?_ _|refine qac ?_|refine qaa ?_ _));exact BK120.out⟩,⟨by (with_reducible repeat (first|refine qab ?_ _|refine qac ?_|refine qaa ?_ _));refine qan ?_ NB121_123.out _;(with_reducible repeat (first|refine qab ?_ _|refine qac ?_|refine qaa ?_ _));exact BK121.out⟩,⟨by (with_reducible repeat (first|refine qab ?_ _|refine qac ?_|refine qaa ?_ _));refine qao (cs:=#[.int .i64 (wrap64 (1+t122)),.int .i64 (Go.bits .and .i64 a0_1 3),u124002]) ?_ 2 _ rfl;(with_reducible repeat (first|refine qab ?_ _|refine qac ?_|refine qaa ?_ _));exact BK123.out⟩,⟨by repeat (first|(with_reducible first|exact HB.out|apply qai|apply qag|apply qaj|refine qaf ?_ GE120.out|refine qaf ?_ GE121.out|refine qaf ?_ GE123.out)|exact HB.out)⟩⟩
      ·rw [if_neg c15] at H
       exact absurd H (by simp)
     ·rw [if_neg c13] at H
      exact absurd H (by simp)
    ·rw [if_neg c12] at H
     have c12b0:decide (x4_1<6)=false:=decide_eq_false c12
     clear c12
     by_cases c26:(x124002_1.length:Int)=0
     ·rw [if_pos c26] at H
      have c26b0:((x124002_1.length:Int) == 0)=true:=beq_iff_eq.mpr c26
      have c26b1:((x124002_1.length:Int) != 0)=false:=bne_eq_false_iff_eq.mpr c26
      clear c26
      obtain⟨y139,hy139⟩:∃ y_:List (S52),y_=(([(⟨1,1,4,4,10,([]:List Int),([]:List Int)⟩:S52)]:List (S52))):=⟨_,rfl⟩
      replace H:(some ((wrap64 (1+t122)),(Go.bits .and .i64 a0_1 3),y139))=some (r1,r2,r3):=by first|(rw [hy139];with_reducible exact H)|(have H2_:=(Option.bind_some _ _).symm.trans H;rw [hy139];with_reducible exact H2_)|(have H2_:=(Option.bind_some _ _).symm.trans H;with_reducible exact H2_)|with_reducible exact H|(rw [hy139];exact H)|exact H
      have Ny139:=qah.mk hy139
      clear hy139
      simp only [Option.some.injEq,Prod.mk.injEq] at H
      obtain⟨rfl,rfl,rfl⟩:=H
      have hnb27:=NB120_121.out
      have hnc27:=NB121_120.out
      have hnb28:=NB120_123.out
      have hnc28:=NB123_120.out
      have hcz29_0:wr.cell? ⟨gb120,0,none⟩=some (.int .i64 a0_0):=(qad BK120.out 0).trans rfl
      have hcz29_1:wr.cell? ⟨gb120,1,none⟩=some (.int .i64 a0_1):=(qad BK120.out 1).trans rfl
      have hcz29_2:wr.cell? ⟨gb120,2,none⟩=some (.slice A0_2 l0_2.length c0_2):=(qad BK120.out 2).trans rfl
      have hfz29_0:=qae BK120.out 0
      have hfz29_1:=qae BK120.out 1
      have hfz29_2:=qae BK120.out 2
      have hnb30:=NB123_121.out
      have hnc30:=NB121_123.out
      have hcz31_0:wr.cell? ⟨gb123,0,none⟩=some (.int .i64 (wrap64 (1+t122))):=(qad BK123.out 0).trans rfl
      have hcz31_1:wr.cell? ⟨gb123,1,none⟩=some (.int .i64 (Go.bits .and .i64 a0_1 3)):=(qad BK123.out 1).trans rfl
      have hcz31_2:wr.cell? ⟨gb123,2,none⟩=some (u124002):=(qad BK123.out 2).trans rfl
      have hfz31_0:=qae BK123.out 0
      have hfz31_1:=qae BK123.out 1
      have hfz31_2:=qae BK123.out 2
      obtain⟨Ao32,co32,eo32⟩:=Kd.S_slice HO_124002.out
      subst eo32
      go_wp2_with (first|((with_reducible refine qaM (N:=43) rfl ?_);refine Kd.S_lit k52 _ 52 ?hg (N:=43) ?hd (xs:=([(⟨1,1,4,4,10,([]:List Int),([]:List Int)⟩:S52)]:List (S52))) (inner:=[.int .i64 1,.int .i64 1,.int .i64 4,.int .i64 4,.int .i64 10,.slice none 0 0,.slice none 0 0]) (ok:=fun _=>True) (okp:=fun _=>True) ?hr ?hp (fun _ hk=>hk) trivial (Below.refl _ _) (Nat.le_refl _) (by simp) ?_;(case hd=>rfl);(case hg=>rfl);(case hr=>first|(go_simp;done)|(go_simp;rfl));(case hp=>exact (Reps.c7 (show Kd.M k52 _ _ _ (⟨1,1,4,4,10,([]:List Int),([]:List Int)⟩:S52) [.int .i64 1,.int .i64 1,.int .i64 4,.int .i64 4,.int .i64 10,.slice none 0 0,.slice none 0 0] from (k52_mkM _ _ _ (⟨1,1,4,4,10,([]:List Int),([]:List Int)⟩:S52) (Kd.R_nil _ _ _ _ _) (Kd.R_nil _ _ _ _ _))) (Reps.none _ _)));intro v140 w33 ho34 hb hg_ hnew_;clear hg_ hnew_;(first|rw [← Ny139.out] at ho34|(simp only [Int.reduceToNat] at ho34;rw [← Ny139.out] at ho34));have n0_:=qah.mk (Kd.S_elder' (by (with_reducible repeat (first|apply Kd.S_alloc|apply Kd.S_drewN|apply Kd.S_drew));exact HO_124002.out) (Kd.S_base ho34) hb);have n1_:=qah.mk (Kd.S_lower (Kd.S_new' ho34 (Kd.S_lt (by (with_reducible repeat (first|apply Kd.S_alloc|apply Kd.S_drewN|apply Kd.S_drew));exact HO_124002.out))) (qam (by repeat (first|(with_reducible first|exact HB.out|apply qai|apply qag|apply qaj|refine qaf ?_ GE120.out|refine qaf ?_ GE121.out|refine qaf ?_ GE123.out)|exact HB.out))));have n2_:=qah.mk (qap (g:=gb120) (o:=.cells #[.int .i64 a0_0,.int .i64 a0_1,.slice A0_2 l0_2.length c0_2] 57 (0,0)) (by (with_reducible repeat (first|refine qab ?_ _|refine qac ?_|refine qaa ?_ _));exact BK120.out) hb);have n3_:=qah.mk (qap (g:=gb121) (o:=.cells #[.int .i64 0,.int .i64 0,.slice none 0 0] 32 (0,0)) (by (with_reducible repeat (first|refine qab ?_ _|refine qac ?_|refine qaa ?_ _));exact BK121.out) hb);have n4_:=qah.mk (qap (g:=gb123) (o:=.cells #[.int .i64 (wrap64 (1+t122)),.int .i64 (Go.bits .and .i64 a0_1 3),.slice Ao32 x124002_1.length co32] 32 (0,0)) (by (with_reducible repeat (first|refine qab ?_ _|refine qac ?_|refine qaa ?_ _));exact BK123.out) hb);have n5_:=qah.mk (qat (by repeat (first|(with_reducible first|exact HB.out|apply qai|apply qag|apply qaj|refine qaf ?_ GE120.out|refine qaf ?_ GE121.out|refine qaf ?_ GE123.out)|exact HB.out)) hb);clear HO_124002;clear BK120;clear BK121;clear BK123;clear HB;have HO_124002:=n0_;have HO141:=n1_;have BK120:=n2_;have BK121:=n3_;have BK123:=n4_;have HB:=n5_;clear n0_ n1_ n2_ n3_ n4_ n5_;clear hb ho34;obtain⟨Ao35,co35,eo35⟩:=Kd.S_slice HO141.out;subst eo35;have hcz36_0:w33.cell? ⟨gb123,0,none⟩=some (.int .i64 (wrap64 (1+t122))):=(qad BK123.out 0).trans rfl;have hcz36_1:w33.cell? ⟨gb123,1,none⟩=some (.int .i64 (Go.bits .and .i64 a0_1 3)):=(qad BK123.out 1).trans rfl;have hcz36_2:w33.cell? ⟨gb123,2,none⟩=some (.slice Ao32 x124002_1.length co32):=(qad BK123.out 2).trans rfl;have hfz36_0:=qae BK123.out 0;have hfz36_1:=qae BK123.out 1;have hfz36_2:=qae BK123.out 2;have hcz37_0:w33.cell? ⟨gb121,0,none⟩=some (.int .i64 0):=(qad BK121.out 0).trans rfl;have hcz37_1:w33.cell? ⟨gb121,1,none⟩=some (.int .i64 0):=(qad BK121.out 1).trans rfl;have hcz37_2:w33.cell? ⟨gb121,2,none⟩=some (.slice none 0 0):=(qad BK121.out 2).trans rfl;have hfz37_0:=qae BK121.out 0;have hfz37_1:=qae BK121.out 1;have hfz37_2:=qae BK121.out 2))
      refine bodyPost_ret (results_cell_row rfl _ _ gb121 32 #[.int .i64 (wrap64 (1+t122)),.int .i64 (Go.bits .and .i64 a0_1 3),.slice Ao35 y139.length co35] (0,0) _ rfl (by (with_reducible repeat (first|refine qab ?_ _|refine qac ?_|refine qaa ?_ _));refine qao (cs:=#[.int .i64 (wrap64 (1+t122)),.int .i64 (Go.bits .and .i64 a0_1 3),.slice none 0 0]) ?_ 2 _ rfl;(with_reducible repeat (first|refine qab ?_ _|refine qac ?_|refine qaa ?_ _));refine qao (cs:=#[.int .i64 (wrap64 (1+t122)),.int .i64 0,.slice none 0 0]) ?_ 1 _ rfl;(with_reducible repeat (first|refine qab ?_ _|refine qac ?_|refine qaa ?_ _));refine qao (cs:=#[.int .i64 0,.int .i64 0,.slice none 0 0]) ?_ 0 _ rfl;(with_reducible repeat (first|refine qab ?_ _|refine qac ?_|refine qaa ?_ _));refine qan ?_ NB121_123.out _;(with_reducible repeat (first|refine qab ?_ _|refine qac ?_|refine qaa ?_ _));exact BK121.out) Tryd.underlying32 rfl (by kernel_rfl)) rfl ?_
      exact⟨_,by first|rfl|(simp [qaA,qaz]<;>rfl)|(simp [bneNil,bneNilU]<;>rfl)|(simp [*,qaA,qaz]<;>rfl),by (with_reducible repeat (first|apply Kd.S_alloc|apply Kd.S_drewN|apply Kd.S_drew));exact Kd.S_mono (Kd.S_far (p:=⟨gb121,2,none⟩) (Kd.S_far (p:=⟨gb121,1,none⟩) (Kd.S_far (p:=⟨gb121,0,none⟩) (Kd.S_far (p:=⟨gb123,2,none⟩) (Kd.S_types (Kd.S_types HO141.out BK123.out (by decide)) BK121.out (by decide)) (fun _ hk=>hk.1.2) (.slice Ao35 y139.length co35)) (fun _ hk=>hk.2) (.int .i64 (wrap64 (1+t122)))) (fun _ hk=>hk.2) (.int .i64 (Go.bits .and .i64 a0_1 3))) (fun _ hk=>hk.2) (.slice Ao35 y139.length co35)) (fun _ hk=>trivial),by repeat (first|(with_reducible first|exact HB.out|apply qai|apply qag|apply qaj|refine qaf ?_ GE120.out|refine qaf ?_ GE121.out|refine qaf ?_ GE123.out)|exact HB.out)⟩
     ·rw [if_neg c26] at H
      have c26b0:((x124002_1.length:Int) == 0)=false:=beq_eq_false_iff_ne.mpr c26
      have c26b1:((x124002_1.length:Int) != 0)=true:=bne_iff_ne.mpr c26
      have c26b2:¬ (x124002_1=[]):=fun h_=>c26 (by rw [h_];rfl)
      simp only [Option.some.injEq,Prod.mk.injEq] at H
      obtain⟨rfl,rfl,rfl⟩:=H
      have hnb38:=NB120_121.out
      have hnc38:=NB121_120.out
      have hnb39:=NB120_123.out
      have hnc39:=NB123_120.out
      have hcz40_0:wr.cell? ⟨gb120,0,none⟩=some (.int .i64 a0_0):=(qad BK120.out 0).trans rfl
      have hcz40_1:wr.cell? ⟨gb120,1,none⟩=some (.int .i64 a0_1):=(qad BK120.out 1).trans rfl
      have hcz40_2:wr.cell? ⟨gb120,2,none⟩=some (.slice A0_2 l0_2.length c0_2):=(qad BK120.out 2).trans rfl
      have hfz40_0:=qae BK120.out 0
      have hfz40_1:=qae BK120.out 1
      have hfz40_2:=qae BK120.out 2
      have hnb41:=NB123_121.out
      have hnc41:=NB121_123.out
      have hcz42_0:wr.cell? ⟨gb123,0,none⟩=some (.int .i64 (wrap64 (1+t122))):=(qad BK123.out 0).trans rfl
      have hcz42_1:wr.cell? ⟨gb123,1,none⟩=some (.int .i64 (Go.bits .and .i64 a0_1 3)):=(qad BK123.out 1).trans rfl
      have hcz42_2:wr.cell? ⟨gb123,2,none⟩=some (u124002):=(qad BK123.out 2).trans rfl
      have hfz42_0:=qae BK123.out 0
      have hfz42_1:=qae BK123.out 1
      have hfz42_2:=qae BK123.out 2
      obtain⟨Ao43,co43,eo43⟩:=Kd.S_slice HO_124002.out
      subst eo43
      have hcz44_0:wr.cell? ⟨gb121,0,none⟩=some (.int .i64 0):=(qad BK121.out 0).trans rfl
      have hcz44_1:wr.cell? ⟨gb121,1,none⟩=some (.int .i64 0):=(qad BK121.out 1).trans rfl
      have hcz44_2:wr.cell? ⟨gb121,2,none⟩=some (.slice none 0 0):=(qad BK121.out 2).trans rfl
      have hfz44_0:=qae BK121.out 0
      have hfz44_1:=qae BK121.out 1
      have hfz44_2:=qae BK121.out 2
      go_wp2
      refine bodyPost_ret (results_cell_row rfl _ _ gb121 32 #[.int .i64 (wrap64 (1+t122)),.int .i64 (Go.bits .and .i64 a0_1 3),.slice Ao43 x124002_1.length co43] (0,0) _ rfl (by (with_reducible repeat (first|refine qab ?_ _|refine qac ?_|refine qaa ?_ _));refine qao (cs:=#[.int .i64 (wrap64 (1+t122)),.int .i64 (Go.bits .and .i64 a0_1 3),.slice none 0 0]) ?_ 2 _ rfl;(with_reducible repeat (first|refine qab ?_ _|refine qac ?_|refine qaa ?_ _));refine qao (cs:=#[.int .i64 (wrap64 (1+t122)),.int .i64 0,.slice none 0 0]) ?_ 1 _ rfl;(with_reducible repeat (first|refine qab ?_ _|refine qac ?_|refine qaa ?_ _));refine qao (cs:=#[.int .i64 0,.int .i64 0,.slice none 0 0]) ?_ 0 _ rfl;(with_reducible repeat (first|refine qab ?_ _|refine qac ?_|refine qaa ?_ _));exact BK121.out) Tryd.underlying32 rfl (by kernel_rfl)) rfl ?_
      exact⟨_,by first|rfl|(simp [qaA,qaz]<;>rfl)|(simp [bneNil,bneNilU]<;>rfl)|(simp [*,qaA,qaz]<;>rfl),by (with_reducible repeat (first|apply Kd.S_alloc|apply Kd.S_drewN|apply Kd.S_drew));exact Kd.S_mono (Kd.S_far (p:=⟨gb121,2,none⟩) (Kd.S_far (p:=⟨gb121,1,none⟩) (Kd.S_far (p:=⟨gb121,0,none⟩) (Kd.S_types HO_124002.out BK121.out (by decide)) (fun _ hk=>hk.2) (.int .i64 (wrap64 (1+t122)))) (fun _ hk=>hk.2) (.int .i64 (Go.bits .and .i64 a0_1 3))) (fun _ hk=>hk.2) (.slice Ao43 x124002_1.length co43)) (fun _ hk=>trivial),by repeat (first|(with_reducible first|exact HB.out|apply qai|apply qag|apply qaj|refine qaf ?_ GE120.out|refine qaf ?_ GE121.out|refine qaf ?_ GE123.out)|exact HB.out)⟩
   ·rw [if_neg c11] at H
    have c11b0:decide (x4_1<(l0_2.length:Int))=false:=decide_eq_false c11
    clear c11
    by_cases c45:(x124002_1.length:Int)=0
    ·rw [if_pos c45] at H
     have c45b0:((x124002_1.length:Int) == 0)=true:=beq_iff_eq.mpr c45
     have c45b1:((x124002_1.length:Int) != 0)=false:=bne_eq_false_iff_eq.mpr c45
     clear c45
     obtain⟨y142,hy142⟩:∃ y_:List (S52),y_=(([(⟨1,1,4,4,10,([]:List Int),([]:List Int)⟩:S52)]:List (S52))):=⟨_,rfl⟩
     replace H:(some ((wrap64 (1+t122)),(Go.bits .and .i64 a0_1 3),y142))=some (r1,r2,r3):=by first|(rw [hy142];with_reducible exact H)|(have H2_:=(Option.bind_some _ _).symm.trans H;rw [hy142];with_reducible exact H2_)|(have H2_:=(Option.bind_some _ _).symm.trans H;with_reducible exact H2_)|with_reducible exact H|(rw [hy142];exact H)|exact H
     have Ny142:=qah.mk hy142
     clear hy142
     simp only [Option.some.injEq,Prod.mk.injEq] at H
     obtain⟨rfl,rfl,rfl⟩:=H
     have hnb46:=NB120_121.out
     have hnc46:=NB121_120.out
     have hnb47:=NB120_123.out
     have hnc47:=NB123_120.out
     have hcz48_0:wr.cell? ⟨gb120,0,none⟩=some (.int .i64 a0_0):=(qad BK120.out 0).trans rfl
     have hcz48_1:wr.cell? ⟨gb120,1,none⟩=some (.int .i64 a0_1):=(qad BK120.out 1).trans rfl
     have hcz48_2:wr.cell? ⟨gb120,2,none⟩=some (.slice A0_2 l0_2.length c0_2):=(qad BK120.out 2).trans rfl
     have hfz48_0:=qae BK120.out 0
     have hfz48_1:=qae BK120.out 1
     have hfz48_2:=qae BK120.out 2
     have hnb49:=NB123_121.out
     have hnc49:=NB121_123.out
     have hcz50_0:wr.cell? ⟨gb123,0,none⟩=some (.int .i64 (wrap64 (1+t122))):=(qad BK123.out 0).trans rfl
     have hcz50_1:wr.cell? ⟨gb123,1,none⟩=some (.int .i64 (Go.bits .and .i64 a0_1 3)):=(qad BK123.out 1).trans rfl
     have hcz50_2:wr.cell? ⟨gb123,2,none⟩=some (u124002):=(qad BK123.out 2).trans rfl
     have hfz50_0:=qae BK123.out 0
     have hfz50_1:=qae BK123.out 1
     have hfz50_2:=qae BK123.out 2
     obtain⟨Ao51,co51,eo51⟩:=Kd.S_slice HO_124002.out
     subst eo51
     go_wp2_with (first|((with_reducible refine qaM (N:=43) rfl ?_);refine Kd.S_lit k52 _ 52 ?hg (N:=43) ?hd (xs:=([(⟨1,1,4,4,10,([]:List Int),([]:List Int)⟩:S52)]:List (S52))) (inner:=[.int .i64 1,.int .i64 1,.int .i64 4,.int .i64 4,.int .i64 10,.slice none 0 0,.slice none 0 0]) (ok:=fun _=>True) (okp:=fun _=>True) ?hr ?hp (fun _ hk=>hk) trivial (Below.refl _ _) (Nat.le_refl _) (by simp) ?_;(case hd=>rfl);(case hg=>rfl);(case hr=>first|(go_simp;done)|(go_simp;rfl));(case hp=>exact (Reps.c7 (show Kd.M k52 _ _ _ (⟨1,1,4,4,10,([]:List Int),([]:List Int)⟩:S52) [.int .i64 1,.int .i64 1,.int .i64 4,.int .i64 4,.int .i64 10,.slice none 0 0,.slice none 0 0] from (k52_mkM _ _ _ (⟨1,1,4,4,10,([]:List Int),([]:List Int)⟩:S52) (Kd.R_nil _ _ _ _ _) (Kd.R_nil _ _ _ _ _))) (Reps.none _ _)));intro v143 w52 ho53 hb hg_ hnew_;clear hg_ hnew_;(first|rw [← Ny142.out] at ho53|(simp only [Int.reduceToNat] at ho53;rw [← Ny142.out] at ho53));have n0_:=qah.mk (Kd.S_elder' (by (with_reducible repeat (first|apply Kd.S_alloc|apply Kd.S_drewN|apply Kd.S_drew));exact HO_124002.out) (Kd.S_base ho53) hb);have n1_:=qah.mk (Kd.S_lower (Kd.S_new' ho53 (Kd.S_lt (by (with_reducible repeat (first|apply Kd.S_alloc|apply Kd.S_drewN|apply Kd.S_drew));exact HO_124002.out))) (qam (by repeat (first|(with_reducible first|exact HB.out|apply qai|apply qag|apply qaj|refine qaf ?_ GE120.out|refine qaf ?_ GE121.out|refine qaf ?_ GE123.out)|exact HB.out))));have n2_:=qah.mk (qap (g:=gb120) (o:=.cells #[.int .i64 a0_0,.int .i64 a0_1,.slice A0_2 l0_2.length c0_2] 57 (0,0)) (by (with_reducible repeat (first|refine qab ?_ _|refine qac ?_|refine qaa ?_ _));exact BK120.out) hb);have n3_:=qah.mk (qap (g:=gb121) (o:=.cells #[.int .i64 0,.int .i64 0,.slice none 0 0] 32 (0,0)) (by (with_reducible repeat (first|refine qab ?_ _|refine qac ?_|refine qaa ?_ _));exact BK121.out) hb);have n4_:=qah.mk (qap (g:=gb123) (o:=.cells #[.int .i64 (wrap64 (1+t122)),.int .i64 (Go.bits .and .i64 a0_1 3),.slice Ao51 x124002_1.length co51] 32 (0,0)) (by (with_reducible repeat (first|refine qab ?_ _|refine qac ?_|refine qaa ?_ _));exact BK123.out) hb);have n5_:=qah.mk (qat (by repeat (first|(with_reducible first|exact HB.out|apply qai|apply qag|apply qaj|refine qaf ?_ GE120.out|refine qaf ?_ GE121.out|refine qaf ?_ GE123.out)|exact HB.out)) hb);clear HO_124002;clear BK120;clear BK121;clear BK123;clear HB;have HO_124002:=n0_;have HO144:=n1_;have BK120:=n2_;have BK121:=n3_;have BK123:=n4_;have HB:=n5_;clear n0_ n1_ n2_ n3_ n4_ n5_;clear hb ho53;obtain⟨Ao54,co54,eo54⟩:=Kd.S_slice HO144.out;subst eo54;have hcz55_0:w52.cell? ⟨gb123,0,none⟩=some (.int .i64 (wrap64 (1+t122))):=(qad BK123.out 0).trans rfl;have hcz55_1:w52.cell? ⟨gb123,1,none⟩=some (.int .i64 (Go.bits .and .i64 a0_1 3)):=(qad BK123.out 1).trans rfl;have hcz55_2:w52.cell? ⟨gb123,2,none⟩=some (.slice Ao51 x124002_1.length co51):=(qad BK123.out 2).trans rfl;have hfz55_0:=qae BK123.out 0;have hfz55_1:=qae BK123.out 1;have hfz55_2:=qae BK123.out 2;have hcz56_0:w52.cell? ⟨gb121,0,none⟩=some (.int .i64 0):=(qad BK121.out 0).trans rfl;have hcz56_1:w52.cell? ⟨gb121,1,none⟩=some (.int .i64 0):=(qad BK121.out 1).trans rfl;have hcz56_2:w52.cell? ⟨gb121,2,none⟩=some (.slice none 0 0):=(qad BK121.out 2).trans rfl;have hfz56_0:=qae BK121.out 0;have hfz56_1:=qae BK121.out 1;have hfz56_2:=qae BK121.out 2))
     refine bodyPost_ret (results_cell_row rfl _ _ gb121 32 #[.int .i64 (wrap64 (1+t122)),.int .i64 (Go.bits .and .i64 a0_1 3),.slice Ao54 y142.length co54] (0,0) _ rfl (by (with_reducible repeat (first|refine qab ?_ _|refine qac ?_|refine qaa ?_ _));refine qao (cs:=#[.int .i64 (wrap64 (1+t122)),.int .i64 (Go.bits .and .i64 a0_1 3),.slice none 0 0]) ?_ 2 _ rfl;(with_reducible repeat (first|refine qab ?_ _|refine qac ?_|refine qaa ?_ _));refine qao (cs:=#[.int .i64 (wrap64 (1+t122)),.int .i64 0,.slice none 0 0]) ?_ 1 _ rfl;(with_reducible repeat (first|refine qab ?_ _|refine qac ?_|refine qaa ?_ _));refine qao (cs:=#[.int .i64 0,.int .i64 0,.slice none 0 0]) ?_ 0 _ rfl;(with_reducible repeat (first|refine qab ?_ _|refine qac ?_|refine qaa ?_ _));refine qan ?_ NB121_123.out _;(with_reducible repeat (first|refine qab ?_ _|refine qac ?_|refine qaa ?_ _));exact BK121.out) Tryd.underlying32 rfl (by kernel_rfl)) rfl ?_
     exact⟨_,by first|rfl|(simp [qaA,qaz]<;>rfl)|(simp [bneNil,bneNilU]<;>rfl)|(simp [*,qaA,qaz]<;>rfl),by (with_reducible repeat (first|apply Kd.S_alloc|apply Kd.S_drewN|apply Kd.S_drew));exact Kd.S_mono (Kd.S_far (p:=⟨gb121,2,none⟩) (Kd.S_far (p:=⟨gb121,1,none⟩) (Kd.S_far (p:=⟨gb121,0,none⟩) (Kd.S_far (p:=⟨gb123,2,none⟩) (Kd.S_types (Kd.S_types HO144.out BK123.out (by decide)) BK121.out (by decide)) (fun _ hk=>hk.1.2) (.slice Ao54 y142.length co54)) (fun _ hk=>hk.2) (.int .i64 (wrap64 (1+t122)))) (fun _ hk=>hk.2) (.int .i64 (Go.bits .and .i64 a0_1 3))) (fun _ hk=>hk.2) (.slice Ao54 y142.length co54)) (fun _ hk=>trivial),by repeat (first|(with_reducible first|exact HB.out|apply qai|apply qag|apply qaj|refine qaf ?_ GE120.out|refine qaf ?_ GE121.out|refine qaf ?_ GE123.out)|exact HB.out)⟩
    ·rw [if_neg c45] at H
     have c45b0:((x124002_1.length:Int) == 0)=false:=beq_eq_false_iff_ne.mpr c45
     have c45b1:((x124002_1.length:Int) != 0)=true:=bne_iff_ne.mpr c45
     have c45b2:¬ (x124002_1=[]):=fun h_=>c45 (by rw [h_];rfl)
     simp only [Option.some.injEq,Prod.mk.injEq] at H
     obtain⟨rfl,rfl,rfl⟩:=H
     have hnb57:=NB120_121.out
     have hnc57:=NB121_120.out
     have hnb58:=NB120_123.out
     have hnc58:=NB123_120.out
     have hcz59_0:wr.cell? ⟨gb120,0,none⟩=some (.int .i64 a0_0):=(qad BK120.out 0).trans rfl
     have hcz59_1:wr.cell? ⟨gb120,1,none⟩=some (.int .i64 a0_1):=(qad BK120.out 1).trans rfl
     have hcz59_2:wr.cell? ⟨gb120,2,none⟩=some (.slice A0_2 l0_2.length c0_2):=(qad BK120.out 2).trans rfl
     have hfz59_0:=qae BK120.out 0
     have hfz59_1:=qae BK120.out 1
     have hfz59_2:=qae BK120.out 2
     have hnb60:=NB123_121.out
     have hnc60:=NB121_123.out
     have hcz61_0:wr.cell? ⟨gb123,0,none⟩=some (.int .i64 (wrap64 (1+t122))):=(qad BK123.out 0).trans rfl
     have hcz61_1:wr.cell? ⟨gb123,1,none⟩=some (.int .i64 (Go.bits .and .i64 a0_1 3)):=(qad BK123.out 1).trans rfl
     have hcz61_2:wr.cell? ⟨gb123,2,none⟩=some (u124002):=(qad BK123.out 2).trans rfl
     have hfz61_0:=qae BK123.out 0
     have hfz61_1:=qae BK123.out 1
     have hfz61_2:=qae BK123.out 2
     obtain⟨Ao62,co62,eo62⟩:=Kd.S_slice HO_124002.out
     subst eo62
     have hcz63_0:wr.cell? ⟨gb121,0,none⟩=some (.int .i64 0):=(qad BK121.out 0).trans rfl
     have hcz63_1:wr.cell? ⟨gb121,1,none⟩=some (.int .i64 0):=(qad BK121.out 1).trans rfl
     have hcz63_2:wr.cell? ⟨gb121,2,none⟩=some (.slice none 0 0):=(qad BK121.out 2).trans rfl
     have hfz63_0:=qae BK121.out 0
     have hfz63_1:=qae BK121.out 1
     have hfz63_2:=qae BK121.out 2
     go_wp2
     refine bodyPost_ret (results_cell_row rfl _ _ gb121 32 #[.int .i64 (wrap64 (1+t122)),.int .i64 (Go.bits .and .i64 a0_1 3),.slice Ao62 x124002_1.length co62] (0,0) _ rfl (by (with_reducible repeat (first|refine qab ?_ _|refine qac ?_|refine qaa ?_ _));refine qao (cs:=#[.int .i64 (wrap64 (1+t122)),.int .i64 (Go.bits .and .i64 a0_1 3),.slice none 0 0]) ?_ 2 _ rfl;(with_reducible repeat (first|refine qab ?_ _|refine qac ?_|refine qaa ?_ _));refine qao (cs:=#[.int .i64 (wrap64 (1+t122)),.int .i64 0,.slice none 0 0]) ?_ 1 _ rfl;(with_reducible repeat (first|refine qab ?_ _|refine qac ?_|refine qaa ?_ _));refine qao (cs:=#[.int .i64 0,.int .i64 0,.slice none 0 0]) ?_ 0 _ rfl;(with_reducible repeat (first|refine qab ?_ _|refine qac ?_|refine qaa ?_ _));exact BK121.out) Tryd.underlying32 rfl (by kernel_rfl)) rfl ?_
     exact⟨_,by first|rfl|(simp [qaA,qaz]<;>rfl)|(simp [bneNil,bneNilU]<;>rfl)|(simp [*,qaA,qaz]<;>rfl),by (with_reducible repeat (first|apply Kd.S_alloc|apply Kd.S_drewN|apply Kd.S_drew));exact Kd.S_mono (Kd.S_far (p:=⟨gb121,2,none⟩) (Kd.S_far (p:=⟨gb121,1,none⟩) (Kd.S_far (p:=⟨gb121,0,none⟩) (Kd.S_types HO_124002.out BK121.out (by decide)) (fun _ hk=>hk.2) (.int .i64 (wrap64 (1+t122)))) (fun _ hk=>hk.2) (.int .i64 (Go.bits .and .i64 a0_1 3))) (fun _ hk=>hk.2) (.slice Ao62 x124002_1.length co62)) (fun _ hk=>trivial),by repeat (first|(with_reducible first|exact HB.out|apply qai|apply qag|apply qaj|refine qaf ?_ GE120.out|refine qaf ?_ GE121.out|refine qaf ?_ GE123.out)|exact HB.out)⟩
end
end Go.Proofs.YtcfknijdhmildaaDoor.PParseFirst
end
section
namespace Go.Proofs.YtcfknijdhmildaaDoor.PParseFirst
open Go.RowKit Go.Proofs.YtcfknijdhmildaaDoorW.PrintWords Go.Proofs.YtcfknijdhmildaaDoorW.PrintLast Go.Proofs.YtcfknijdhmildaaDoorW.PrintMore
attribute [local go_sem] max2_int min2_int max_two min_two max_three min_three max_four min_four
set_option linter.unusedVariables false
set_option linter.unusedSimpArgs false
noncomputable section
def ostinatolaw07_Sys_made.l0:Nat→Int→Int→Int→List (S60)→Int→Int→List (S59)→Option (Int × Int × (List (S52)))
 |0,_,_,_,_,_,_,_=>none
 |k+1,x4,x146000,x146001,x146002,x148000,x148001,x148002=>if x4<(x146002.length:Int) then (if x4<6 then (if 0≤x4 then (if x148002.length<2199023255552 then (ostinatolaw07_Sys_made.l0 k (wrap64 (x4+1)) x146000 x146001 x146002 x148000 x148001 (x148002++[(⟨(qav x146002 x4).f0,(qav x146002 x4).f1,(qav x146002 x4).f2,(qav x146002 x4).f3,(qav x146002 x4).f4,(qav x146002 x4).f5⟩:S59)])) else (none)) else (none)) else ((ostinatoref05_System_Made.f k x148000 x148001 x148002).bind fun bt152=>(some (bt152.1,bt152.2.1,bt152.2.2)))) else ((ostinatoref05_System_Made.f k x148000 x148001 x148002).bind fun bt157=>(some (bt157.1,bt157.2.1,bt157.2.2)))
def ostinatolaw07_Sys_made.f (k:Nat) (a0_0:Int) (a0_1:Int) (l0_2:List (S60)):Option (Int × Int × (List (S52))):=ostinatolaw07_Sys_made.l0 k 0 a0_0 a0_1 l0_2 a0_0 a0_1 ([]:List (S59))
def ostinatolaw07_Sys_made.T5:Bool × List (List Nat × List Nat):=(true,[([],[]),([0],[0]),([],[]),([2],[2]),([],[]),([3,4],[3,4]),([5],[5]),([6],[6]),([1,7],[1,7]),([0,1,2,3,4,5,6,7,8],[]),([9,8,8,0,1,2,3,4,5,6,7,8],[8,9])])
def ostinatolaw07_Sys_made.B5:List Nat:=[0,1,0,4,0,28,60,124,255,511,1023]
theorem ostinatolaw07_Sys_made.tab5:rtab .any (opsOf Tryd.f11 5)=ostinatolaw07_Sys_made.T5:=by kernel_rfl
theorem ostinatolaw07_Sys_made.bits5:waitsOk ostinatolaw07_Sys_made.T5.2 ostinatolaw07_Sys_made.B5=true:=by kernel_rfl
theorem ostinatolaw07_Sys_made.calls (k:Nat) (a0_0:Int) (a0_1:Int) (P0_2_:Nat→Prop) (A0_2:Option Addr) (c0_2:Nat) (l0_2:List (S60)) (r1:Int) (r2:Int) (r3:List (S52)) (w:World) (hs0_2:Kd.V k60 60 w w.heap.size (fun k_=>P0_2_ k_) (.slice A0_2 l0_2.length c0_2) l0_2) (h:ostinatolaw07_Sys_made.f k a0_0 a0_1 l0_2=some (r1,r2,r3)) :
  Calls Tryd.prog 11 #[.agg #[.int .i64 a0_0,.int .i64 a0_1,.slice A0_2 l0_2.length c0_2]] w fun e w'=>∃ v2_:Value,e=.returned (.agg #[.int .i64 r1,.int .i64 r2,v2_])∧Kd.N k52 52 w' w.heap.size (fun k_=>(P0_2_ k_∨w.heap.size≤k_)) v2_ r3∧Below w.heap.size w w':=by
 have hu24:=Tryd.underlying24
 have hu32:=Tryd.underlying32
 have hu57:=Tryd.underlying57
 have hu60:=Tryd.underlying60
 have HO0_2:=qah.mk (show Kd.V k60 60 w w.heap.size (fun k_=>(P0_2_ k_∨w.heap.size≤k_)) (.slice A0_2 l0_2.length c0_2) l0_2 from Kd.V_mono hs0_2 (fun k_ hk=>.inl hk))
 have HB:=qah.mk (Below.refl w.heap.size w)
 have H:(ostinatolaw07_Sys_made.l0 k 0 a0_0 a0_1 l0_2 a0_0 a0_1 ([]:List (S59)))=some (r1,r2,r3):=h
 clear h
 have H':=qah.mk H
 clear H
 go_enter Tryd.func11,Tryd.ntmps11
 go_wp2_with (first|((with_reducible refine qaM (N:=1) rfl ?_);refine qaL ?hg (N:=1) ?hd (cs:=#[.int .i64 a0_0,.int .i64 a0_1,.slice A0_2 l0_2.length c0_2]) (t:=24) ?hr ?_;(case hd=>rfl);(case hg=>rfl);(case hr=>first|(go_simp;done)|(go_simp;rfl));intro gb145 hg w2 hbox hb;have n0_:=qah.mk (Kd.V_below (Kd.V_elderB (by (with_reducible repeat (first|apply Kd.V_alloc|apply Kd.V_drewN|apply Kd.V_drew));exact HO0_2.out) gb145 (Nat.le_of_eq hg.symm)) hb);have n1_:=qah.mk (qat (by repeat (first|(with_reducible first|exact HB.out|apply qai|apply qag|apply qaj)|exact HB.out)) hb);have n2_:=qah.mk (hbox);have n3_:=qah.mk ((by rw [hg];exact (qam (by repeat (first|(with_reducible first|exact HB.out|apply qai|apply qag|apply qaj)|exact HB.out))):w.heap.size≤gb145));have n4_:=qah.mk ((by rw [hg];exact (qam (by repeat (first|(with_reducible first|exact HB.out|apply qai|apply qag|apply qaj)|exact HB.out))):w.heap.size≤gb145));clear HO0_2;clear HB;have HO0_2:=n0_;have HB:=n1_;have BK145:=n2_;have GW145:=n3_;have GE145:=n4_;clear n0_ n1_ n2_ n3_ n4_;clear hb hbox hg)|((with_reducible refine qaM (N:=2) rfl ?_);refine qaL ?hg (N:=2) ?hd (cs:=#[.int .i64 0,.int .i64 0,.slice none 0 0]) (t:=32) ?hr ?_;(case hd=>rfl);(case hg=>rfl);(case hr=>first|(go_simp;done)|(go_simp;rfl));intro gb146 hg w3 hbox hb;have n0_:=qah.mk (Kd.V_below (Kd.V_elderB (by (with_reducible repeat (first|apply Kd.V_alloc|apply Kd.V_drewN|apply Kd.V_drew));exact HO0_2.out) gb146 (Nat.le_of_eq hg.symm)) hb);have n1_:=qah.mk (qap (g:=gb145) (o:=.cells #[.int .i64 a0_0,.int .i64 a0_1,.slice A0_2 l0_2.length c0_2] 24 (0,0)) (by (with_reducible repeat (first|refine qab ?_ _|refine qac ?_|refine qaa ?_ _));exact BK145.out) hb);have n2_:=qah.mk (qat (by repeat (first|(with_reducible first|exact HB.out|apply qai|apply qag|apply qaj|refine qaf ?_ GE145.out)|exact HB.out)) hb);have n3_:=qah.mk (hbox);have n4_:=qah.mk ((by rw [hg];exact (qam (by repeat (first|(with_reducible first|exact HB.out|apply qai|apply qag|apply qaj|refine qaf ?_ GE145.out)|exact HB.out))):w.heap.size≤gb146));have n5_:=qah.mk ((by rw [hg];exact (qam (by repeat (first|(with_reducible first|exact HB.out|apply qai|apply qag|apply qaj|refine qaf ?_ GE145.out)|exact HB.out))):w.heap.size≤gb146));have n6_:=qah.mk ((by rw [hg];exact Nat.ne_of_lt (qaw (g:=gb145) (o:=.cells #[.int .i64 a0_0,.int .i64 a0_1,.slice A0_2 l0_2.length c0_2] 24 (0,0)) (by (with_reducible repeat (first|refine qab ?_ _|refine qac ?_|refine qaa ?_ _));exact BK145.out)):gb145≠gb146));have n7_:=qah.mk ((by rw [hg];exact Nat.ne_of_gt (qaw (g:=gb145) (o:=.cells #[.int .i64 a0_0,.int .i64 a0_1,.slice A0_2 l0_2.length c0_2] 24 (0,0)) (by (with_reducible repeat (first|refine qab ?_ _|refine qac ?_|refine qaa ?_ _));exact BK145.out)):gb146≠gb145));clear HO0_2;clear BK145;clear HB;have HO0_2:=n0_;have BK145:=n1_;have HB:=n2_;have BK146:=n3_;have GW146:=n4_;have GE146:=n5_;have NB145_146:=n6_;have NB146_145:=n7_;clear n0_ n1_ n2_ n3_ n4_ n5_ n6_ n7_;clear hb hbox hg;have hnb4:=NB145_146.out;have hnc4:=NB146_145.out;have hcz5_0:w3.cell? ⟨gb145,0,none⟩=some (.int .i64 a0_0):=(qad BK145.out 0).trans rfl;have hcz5_1:w3.cell? ⟨gb145,1,none⟩=some (.int .i64 a0_1):=(qad BK145.out 1).trans rfl;have hcz5_2:w3.cell? ⟨gb145,2,none⟩=some (.slice A0_2 l0_2.length c0_2):=(qad BK145.out 2).trans rfl;have hfz5_0:=qae BK145.out 0;have hfz5_1:=qae BK145.out 1;have hfz5_2:=qae BK145.out 2)|((with_reducible refine qaM (N:=3) rfl ?_);refine qaL ?hg (N:=3) ?hd (cs:=#[.int .i64 0,.int .i64 0,.slice none 0 0]) (t:=57) ?hr ?_;(case hd=>rfl);(case hg=>rfl);(case hr=>first|(go_simp;done)|(go_simp;rfl));intro gb147 hg w6 hbox hb;have n0_:=qah.mk (Kd.V_below (Kd.V_elderB (by (with_reducible repeat (first|apply Kd.V_alloc|apply Kd.V_drewN|apply Kd.V_drew));exact HO0_2.out) gb147 (Nat.le_of_eq hg.symm)) hb);have n1_:=qah.mk (qap (g:=gb145) (o:=.cells #[.int .i64 a0_0,.int .i64 a0_1,.slice A0_2 l0_2.length c0_2] 24 (0,0)) (by (with_reducible repeat (first|refine qab ?_ _|refine qac ?_|refine qaa ?_ _));exact BK145.out) hb);have n2_:=qah.mk (qap (g:=gb146) (o:=.cells #[.int .i64 0,.int .i64 0,.slice none 0 0] 32 (0,0)) (by (with_reducible repeat (first|refine qab ?_ _|refine qac ?_|refine qaa ?_ _));exact BK146.out) hb);have n3_:=qah.mk (qat (by repeat (first|(with_reducible first|exact HB.out|apply qai|apply qag|apply qaj|refine qaf ?_ GE145.out|refine qaf ?_ GE146.out)|exact HB.out)) hb);have n4_:=qah.mk (hbox);have n5_:=qah.mk ((by rw [hg];exact (qam (by repeat (first|(with_reducible first|exact HB.out|apply qai|apply qag|apply qaj|refine qaf ?_ GE145.out|refine qaf ?_ GE146.out)|exact HB.out))):w.heap.size≤gb147));have n6_:=qah.mk ((by rw [hg];exact (qam (by repeat (first|(with_reducible first|exact HB.out|apply qai|apply qag|apply qaj|refine qaf ?_ GE145.out|refine qaf ?_ GE146.out)|exact HB.out))):w.heap.size≤gb147));have n7_:=qah.mk ((by rw [hg];exact Nat.ne_of_lt (qaw (g:=gb145) (o:=.cells #[.int .i64 a0_0,.int .i64 a0_1,.slice A0_2 l0_2.length c0_2] 24 (0,0)) (by (with_reducible repeat (first|refine qab ?_ _|refine qac ?_|refine qaa ?_ _));exact BK145.out)):gb145≠gb147));have n8_:=qah.mk ((by rw [hg];exact Nat.ne_of_gt (qaw (g:=gb145) (o:=.cells #[.int .i64 a0_0,.int .i64 a0_1,.slice A0_2 l0_2.length c0_2] 24 (0,0)) (by (with_reducible repeat (first|refine qab ?_ _|refine qac ?_|refine qaa ?_ _));exact BK145.out)):gb147≠gb145));have n9_:=qah.mk ((by rw [hg];exact Nat.ne_of_lt (qaw (g:=gb146) (o:=.cells #[.int .i64 0,.int .i64 0,.slice none 0 0] 32 (0,0)) (by (with_reducible repeat (first|refine qab ?_ _|refine qac ?_|refine qaa ?_ _));exact BK146.out)):gb146≠gb147));have n10_:=qah.mk ((by rw [hg];exact Nat.ne_of_gt (qaw (g:=gb146) (o:=.cells #[.int .i64 0,.int .i64 0,.slice none 0 0] 32 (0,0)) (by (with_reducible repeat (first|refine qab ?_ _|refine qac ?_|refine qaa ?_ _));exact BK146.out)):gb147≠gb146));clear HO0_2;clear BK145;clear BK146;clear HB;have HO0_2:=n0_;have BK145:=n1_;have BK146:=n2_;have HB:=n3_;have BK147:=n4_;have GW147:=n5_;have GE147:=n6_;have NB145_147:=n7_;have NB147_145:=n8_;have NB146_147:=n9_;have NB147_146:=n10_;clear n0_ n1_ n2_ n3_ n4_ n5_ n6_ n7_ n8_ n9_ n10_;clear hb hbox hg;have hnb7:=NB147_145.out;have hnc7:=NB145_147.out;have hnb8:=NB147_146.out;have hnc8:=NB146_147.out;have hcz9_0:w6.cell? ⟨gb147,0,none⟩=some (.int .i64 0):=(qad BK147.out 0).trans rfl;have hcz9_1:w6.cell? ⟨gb147,1,none⟩=some (.int .i64 0):=(qad BK147.out 1).trans rfl;have hcz9_2:w6.cell? ⟨gb147,2,none⟩=some (.slice none 0 0):=(qad BK147.out 2).trans rfl;have hfz9_0:=qae BK147.out 0;have hfz9_1:=qae BK147.out 1;have hfz9_2:=qae BK147.out 2))
 go_loopg [4] k (fun kq v4 w'=>∃ (x4_1:Int) (x148002_1:List (S59)) (u148002:Value),v4=.int .i64 x4_1∧qah (ostinatolaw07_Sys_made.l0 kq x4_1 a0_0 a0_1 l0_2 a0_0 a0_1 x148002_1=some (r1,r2,r3))∧qah (kq≤k)∧qah (Kd.V k60 60 w' w.heap.size (fun k_=>(P0_2_ k_∨w.heap.size≤k_)∧some k_≠(u148002:Value).ownBlock∧k_≠gb145∧k_≠gb146∧k_≠gb147) (.slice A0_2 l0_2.length c0_2) l0_2)∧qah (Kd.N k59 59 w' w.heap.size (fun k_=>(P0_2_ k_∨w.heap.size≤k_)∧k_≠gb145∧k_≠gb146∧k_≠gb147) u148002 x148002_1)∧qah (w'.heap[gb145]? = some (.cells #[.int .i64 a0_0,.int .i64 a0_1,(.slice A0_2 l0_2.length c0_2)] 24 (0,0)))∧qah (w'.heap[gb146]? = some (.cells #[.int .i64 0,.int .i64 0,(.slice none 0 0)] 32 (0,0)))∧qah (w'.heap[gb147]? = some (.cells #[.int .i64 a0_0,.int .i64 a0_1,u148002] 57 (0,0)))∧qah (Below w.heap.size w w'))
 case atStart=>exact⟨(0),(([]:List (S59))),(.slice none 0 0),(by first|rfl|(simp;done)|(simp [*];done)),H',⟨Nat.le_refl _⟩,⟨by (with_reducible repeat (first|apply Kd.V_alloc|apply Kd.V_drewN|apply Kd.V_drew));exact Kd.V_mono (Kd.V_far (p:=⟨gb147,2,none⟩) (Kd.V_far (p:=⟨gb147,1,none⟩) (Kd.V_far (p:=⟨gb147,0,none⟩) (Kd.V_mono HO0_2.out (fun k_ hk=>(⟨hk,hk.2⟩:_∧k_≠gb147))) (fun _ hk=>hk.2) (.int .i64 a0_0)) (fun _ hk=>hk.2) (.int .i64 a0_1)) (fun _ hk=>hk.2) (.slice none 0 0)) (fun _ hk=>⟨hk.1.1.1.1,⟨(by simp [Value.ownBlock]),⟨hk.1.1.1.2,⟨hk.1.1.2,hk.1.2⟩⟩⟩⟩)⟩,⟨by first|exact Kd.S_nil _ _ _ _ _|exact Kd.N_nil _ _ _ _ _|exact Kd.V_nil _ _ _ _ _|exact Kd.Q_nil _ _ _ _ _|exact Kd.R_nil _ _ _ _ _⟩,⟨by (with_reducible repeat (first|refine qab ?_ _|refine qac ?_|refine qaa ?_ _));refine qan ?_ NB145_147.out _;(with_reducible repeat (first|refine qab ?_ _|refine qac ?_|refine qaa ?_ _));refine qan ?_ NB145_147.out _;(with_reducible repeat (first|refine qab ?_ _|refine qac ?_|refine qaa ?_ _));refine qan ?_ NB145_147.out _;(with_reducible repeat (first|refine qab ?_ _|refine qac ?_|refine qaa ?_ _));exact BK145.out⟩,⟨by (with_reducible repeat (first|refine qab ?_ _|refine qac ?_|refine qaa ?_ _));refine qan ?_ NB146_147.out _;(with_reducible repeat (first|refine qab ?_ _|refine qac ?_|refine qaa ?_ _));refine qan ?_ NB146_147.out _;(with_reducible repeat (first|refine qab ?_ _|refine qac ?_|refine qaa ?_ _));refine qan ?_ NB146_147.out _;(with_reducible repeat (first|refine qab ?_ _|refine qac ?_|refine qaa ?_ _));exact BK146.out⟩,⟨by (with_reducible repeat (first|refine qab ?_ _|refine qac ?_|refine qaa ?_ _));refine qao (cs:=#[.int .i64 a0_0,.int .i64 a0_1,.slice none 0 0]) ?_ 2 _ rfl;(with_reducible repeat (first|refine qab ?_ _|refine qac ?_|refine qaa ?_ _));refine qao (cs:=#[.int .i64 a0_0,.int .i64 0,.slice none 0 0]) ?_ 1 _ rfl;(with_reducible repeat (first|refine qab ?_ _|refine qac ?_|refine qaa ?_ _));refine qao (cs:=#[.int .i64 0,.int .i64 0,.slice none 0 0]) ?_ 0 _ rfl;(with_reducible repeat (first|refine qab ?_ _|refine qac ?_|refine qaa ?_ _));exact BK147.out⟩,⟨by repeat (first|(with_reducible first|exact HB.out|apply qai|apply qag|apply qaj|refine qaf ?_ GE145.out|refine qaf ?_ GE146.out|refine qaf ?_ GE147.out)|exact HB.out)⟩⟩
 case round=>
  clear H'
  try clear c1
  try clear p2
  try clear c4
  try clear c7
  try clear c8
  try clear hcz5_0
  try clear hcz5_1
  try clear hcz5_2
  try clear hcz9_0
  try clear hcz9_1
  try clear hcz9_2
  try clear hfz5_0
  try clear hfz5_1
  try clear hfz5_2
  try clear hfz9_0
  try clear hfz9_1
  try clear hfz9_2
  obtain⟨x4_1,x148002_1,u148002,rfl,HA,HK1,HO_146002,HO_148002,BK145,BK146,BK147,HB⟩:=hrel
  cases gk with
  |zero=>exact absurd HA.out (by simp [ostinatolaw07_Sys_made.l0])
  |succ k1=>
   have H:=HA.out
   clear HA
   simp only [ostinatolaw07_Sys_made.l0] at H
   by_cases c10:x4_1<(l0_2.length:Int)
   ·rw [if_pos c10] at H
    have c10b0:decide (x4_1<(l0_2.length:Int))=true:=decide_eq_true c10
    clear c10
    by_cases c11:x4_1<6
    ·rw [if_pos c11] at H
     have c11b0:decide (x4_1<6)=true:=decide_eq_true c11
     clear c11
     by_cases c12:0≤x4_1
     ·rw [if_pos c12] at H
      have c12b0:decide (0≤x4_1)=true:=decide_eq_true c12
      clear c12
      by_cases c13:x148002_1.length<2199023255552
      ·rw [if_pos c13] at H
       have LMc13:=qah.mk c13
       clear c13
       obtain⟨y149,hy149⟩:∃ y_:List (S59),y_=(x148002_1++[(⟨(qav l0_2 x4_1).f0,(qav l0_2 x4_1).f1,(qav l0_2 x4_1).f2,(qav l0_2 x4_1).f3,(qav l0_2 x4_1).f4,(qav l0_2 x4_1).f5⟩:S59)]):=⟨_,rfl⟩
       replace H:(ostinatolaw07_Sys_made.l0 k1 (wrap64 (x4_1+1)) a0_0 a0_1 l0_2 a0_0 a0_1 y149)=some (r1,r2,r3):=by first|(rw [hy149];with_reducible exact H)|(have H2_:=(Option.bind_some _ _).symm.trans H;rw [hy149];with_reducible exact H2_)|(have H2_:=(Option.bind_some _ _).symm.trans H;with_reducible exact H2_)|with_reducible exact H|(rw [hy149];exact H)|exact H
       have Ny149:=qah.mk hy149
       clear hy149
       have H':=qah.mk H
       clear H
       have hnb14:=NB145_146.out
       have hnc14:=NB146_145.out
       have hnb15:=NB145_147.out
       have hnc15:=NB147_145.out
       have hcz16_0:wr.cell? ⟨gb145,0,none⟩=some (.int .i64 a0_0):=(qad BK145.out 0).trans rfl
       have hcz16_1:wr.cell? ⟨gb145,1,none⟩=some (.int .i64 a0_1):=(qad BK145.out 1).trans rfl
       have hcz16_2:wr.cell? ⟨gb145,2,none⟩=some (.slice A0_2 l0_2.length c0_2):=(qad BK145.out 2).trans rfl
       have hfz16_0:=qae BK145.out 0
       have hfz16_1:=qae BK145.out 1
       have hfz16_2:=qae BK145.out 2
       try go_wp2
       have n0_:=qah.mk (Kd.V_drew HO_146002.out)
       have n1_:=qah.mk (Kd.N_drew HO_148002.out)
       have n2_:=qah.mk (qac BK145.out)
       have n3_:=qah.mk (qac BK146.out)
       have n4_:=qah.mk (qac BK147.out)
       have n5_:=qah.mk (qaj HB.out)
       clear HO_146002
       clear HO_148002
       clear BK145
       clear BK146
       clear BK147
       clear HB
       have HO_146002:=n0_
       have HO_148002:=n1_
       have BK145:=n2_
       have BK146:=n3_
       have BK147:=n4_
       have HB:=n5_
       clear n0_ n1_ n2_ n3_ n4_ n5_
       have p148:0≤(x4_1:Int):=of_decide_eq_true (by first|(with_reducible assumption)|assumption)
       have q148:x4_1<(l0_2.length:Int):=of_decide_eq_true (by first|(with_reducible assumption)|assumption)
       obtain⟨ad148,A148_5,c148_5,e148,hx148_0,hx148_1,hx148_2,hx148_3,hx148_4,hx148_5,hl148_5,hi148_5⟩:=at_T60 (Kd.V_reads' HO_146002.out).2.2 x4_1 p148 q148
       cases e148
       obtain⟨ce148,hce148,hMe148,hcc148⟩:=Kd.V_get HO_146002.out z60 x4_1 p148 (by first|exact q148|exact of_decide_eq_true (by first|(with_reducible assumption)|assumption)|(have e_:=(Kd.V_reads' HO_146002.out).1;omega))
       obtain⟨ua148_5,uc148_5,rfl,ul148_5,ge148_5⟩:=k60_openF hMe148
       have hv148_5:=hcc148 5 _ rfl
       rw [qaR _ _ 5 (by omega)] at hv148_5
       replace hv148_5:=Option.some.inj (hv148_5.symm.trans hx148_5)
       injection hv148_5 with hva_ hvn_ hvc_
       rw [hva_] at ge148_5
       rw [hvc_] at ul148_5
       have HL148_5:=qah.mk (show Kd.V (Kd.int .i64) 3 _ w.heap.size _ _ ((qav l0_2 x4_1).f5) from Kd.V_mk ul148_5 ge148_5)
       clear hva_ hvn_ hvc_ ge148_5 ul148_5
       clear hcc148 hce148
       have HR148_5:=qah.mk hi148_5
       have HC148_5:=qah.mk hl148_5
       clear hi148_5 hl148_5
       replace p148:=eq_true p148
       replace q148:=eq_true q148
       refine start_ (n:=11) (S:=fun w'=>w'.cell? ⟨gb147,0,none⟩=some (.int .i64 a0_0)∧w'.cell? ⟨gb147,1,none⟩=some (.int .i64 a0_1)∧w'.cell? ⟨gb147,2,none⟩=some (u148002)∧w'.cell? ⟨gb145,0,none⟩=some (.int .i64 a0_0)∧w'.cell? ⟨gb145,1,none⟩=some (.int .i64 a0_1)∧w'.cell? ⟨gb145,2,none⟩=some (.slice (some ad148) l0_2.length c0_2)∧w'.cell? (ad148.add ((x4_1).toNat * 6))=some (.int .i64 ((qav l0_2 x4_1).f0))∧w'.cell? ⟨(ad148.add ((x4_1).toNat * 6)).block,(ad148.add ((x4_1).toNat * 6)).off+1,none⟩=some (.int .i64 ((qav l0_2 x4_1).f1))∧w'.cell? ⟨(ad148.add ((x4_1).toNat * 6)).block,(ad148.add ((x4_1).toNat * 6)).off+2,none⟩=some (.int .i64 ((qav l0_2 x4_1).f2))∧w'.cell? ⟨(ad148.add ((x4_1).toNat * 6)).block,(ad148.add ((x4_1).toNat * 6)).off+3,none⟩=some (.int .i64 ((qav l0_2 x4_1).f3))∧w'.cell? ⟨(ad148.add ((x4_1).toNat * 6)).block,(ad148.add ((x4_1).toNat * 6)).off+4,none⟩=some (.int .i64 ((qav l0_2 x4_1).f4))∧w'.cell? ⟨(ad148.add ((x4_1).toNat * 6)).block,(ad148.add ((x4_1).toNat * 6)).off+5,none⟩=some (.slice A148_5 ((qav l0_2 x4_1).f5).length c148_5)) (ds:=[8,10]) #[false,false,false,false,false,false,false,false,false,false,false] (by kernel_rfl) rfl rfl ⟨(qad BK147.out 0).trans rfl,(qad BK147.out 1).trans rfl,(qad BK147.out 2).trans rfl,(qad BK145.out 0).trans rfl,(qad BK145.out 1).trans rfl,(qad BK145.out 2).trans rfl,hx148_0,hx148_1,hx148_2,hx148_3,hx148_4,hx148_5⟩ (fun hHeld=>?_);refine with_tabW ostinatolaw07_Sys_made.tab5 ostinatolaw07_Sys_made.bits5 (fun HT_ HW_=>?_)
       generalize wr.drew=w17 at HO_146002 HO_148002 BK145 BK146 BK147 HB HL148_5 HR148_5 hx148_0 hx148_1 hx148_2 hx148_3 hx148_4 hx148_5 hHeld ⊢
       refine pure_ (i:=0) (N:=some 21) (v:=?_) (a':=?_) #[true,false,false,false,false,false,false,false,false,false,false] rfl rfl (qaQ HT_.out (by kernel_rfl)) (fun _ _ _ h=>h) (Or.inl ⟨by rfl,?_⟩) ?_ ?_
       rotate_left
       ·intro w'
        go_simp
        with_reducible rfl
       rotate_left
       ·simp only [Act.put,List.setIfInBounds_toArray,List.set_cons_zero,List.set_cons_succ,qaC,qaD]
        rfl
       refine pure_ (i:=2) (N:=some 23) (v:=?_) (a':=?_) #[true,false,true,false,false,false,false,false,false,false,false] rfl rfl (qaQ HT_.out (by kernel_rfl)) (fun _ _ _ h=>h) (Or.inl ⟨by rfl,?_⟩) ?_ ?_
       rotate_left
       ·intro w'
        go_simp
        with_reducible rfl
       rotate_left
       ·simp only [Act.put,List.setIfInBounds_toArray,List.set_cons_zero,List.set_cons_succ,qaC,qaD]
        rfl
       refine pure_ (i:=4) (N:=some 25) (v:=?_) (a':=?_) #[true,false,true,false,true,false,false,false,false,false,false] rfl rfl (qaQ HT_.out (by kernel_rfl)) (fun _ _ _ h=>h) (Or.inl ⟨by rfl,?_⟩) ?_ ?_
       rotate_left
       ·intro w'
        go_simp
        with_reducible rfl
       rotate_left
       ·simp only [Act.put,List.setIfInBounds_toArray,List.set_cons_zero,List.set_cons_succ,qaC,qaD]
        rfl
       refine take_ (i:=1) (N:=some 22) (v:=?_) (a':=?_) #[true,true,true,false,true,false,false,false,false,false,false] rfl rfl (qaY HT_.out HW_.out (by kernel_rfl)) (fun _ _ _ h=>h) (Or.inl ⟨by rfl,?_⟩) hHeld ?_ ?_
       rotate_left
       ·rintro w' ⟨s0,s1,s2,s3,s4,s5,s6,s7,s8,s9,s10,s11⟩
        go_simp
        with_reducible rfl
       rotate_left
       ·simp only [Act.put,List.setIfInBounds_toArray,List.set_cons_zero,List.set_cons_succ,qaC,qaD]
        rfl
       refine take_ (i:=3) (N:=some 24) (v:=?_) (a':=?_) #[true,true,true,true,true,false,false,false,false,false,false] rfl rfl (qaY HT_.out HW_.out (by kernel_rfl)) (fun _ _ _ h=>h) (Or.inl ⟨by rfl,?_⟩) hHeld ?_ ?_
       rotate_left
       ·rintro w' ⟨s0,s1,s2,s3,s4,s5,s6,s7,s8,s9,s10,s11⟩
        go_simp
        with_reducible rfl
       rotate_left
       ·simp only [Act.put,List.setIfInBounds_toArray,List.set_cons_zero,List.set_cons_succ,qaC,qaD]
        rfl
       refine pure_ (i:=5) (N:=some 26) (v:=?_) (a':=?_) #[true,true,true,true,true,true,false,false,false,false,false] rfl rfl (qaQ HT_.out (by kernel_rfl)) (fun _ _ _ h=>h) (Or.inl ⟨by rfl,?_⟩) ?_ ?_
       rotate_left
       ·intro w'
        go_simp
        with_reducible rfl
       rotate_left
       ·simp only [Act.put,List.setIfInBounds_toArray,List.set_cons_zero,List.set_cons_succ,qaC,qaD]
        rfl
       refine take_ (i:=6) (N:=some 27) (v:=?_) (a':=?_) #[true,true,true,true,true,true,true,false,false,false,false] rfl rfl (qaY HT_.out HW_.out (by kernel_rfl)) (fun _ _ _ h=>h) (Or.inl ⟨by rfl,?_⟩) hHeld ?_ ?_
       rotate_left
       ·rintro w' ⟨s0,s1,s2,s3,s4,s5,s6,s7,s8,s9,s10,s11⟩
        go_simp
        with_reducible rfl
       rotate_left
       ·simp only [Act.put,List.setIfInBounds_toArray,List.set_cons_zero,List.set_cons_succ,qaC,qaD]
        rfl
       refine one_ (i:=7) (N:=some 28) #[true,true,true,true,true,true,true,true,false,false,false] rfl rfl (one_of HT_.out (by kernel_rfl)) (by decide) (fun K hK=>?_)
       refine value_ (w1:=?_) (v:=?_) (by rfl) rfl ?_ ?_
       rotate_left 2
       ·go_simp
        constructor
        ·rfl
        ·rfl
       refine hK.out _ _ ⟨(qad (qaa BK147.out _) 0).trans rfl,(qad (qaa BK147.out _) 1).trans rfl,(qad (qaa BK147.out _) 2).trans rfl,(qad (qaa BK145.out _) 0).trans rfl,(qad (qaa BK145.out _) 1).trans rfl,(qad (qaa BK145.out _) 2).trans rfl,(World.cell?_alloc_lt _ _ _ (bLt _ _ (hHeld.2.2.2.2.2.2.1))).trans (hHeld.2.2.2.2.2.2.1),(World.cell?_alloc_lt _ _ _ (bLt _ _ (hHeld.2.2.2.2.2.2.2.1))).trans (hHeld.2.2.2.2.2.2.2.1),(World.cell?_alloc_lt _ _ _ (bLt _ _ (hHeld.2.2.2.2.2.2.2.2.1))).trans (hHeld.2.2.2.2.2.2.2.2.1),(World.cell?_alloc_lt _ _ _ (bLt _ _ (hHeld.2.2.2.2.2.2.2.2.2.1))).trans (hHeld.2.2.2.2.2.2.2.2.2.1),(World.cell?_alloc_lt _ _ _ (bLt _ _ (hHeld.2.2.2.2.2.2.2.2.2.2.1))).trans (hHeld.2.2.2.2.2.2.2.2.2.2.1),(World.cell?_alloc_lt _ _ _ (bLt _ _ (hHeld.2.2.2.2.2.2.2.2.2.2.2))).trans (hHeld.2.2.2.2.2.2.2.2.2.2.2)⟩ (fun hHeld=>?_)
       clear hK K
       refine norm_ (a':=?_) ?_ ?_
       rotate_left
       ·show Act.put _ (some 28) _=_
        simp only [Act.put,List.setIfInBounds_toArray,List.set_cons_zero,List.set_cons_succ,qaC,qaD]
        rfl
       refine last_ (i:=8) (N:=some 29) #[true,true,true,true,true,true,true,true,true,false,false] rfl rfl (one_of HT_.out (by kernel_rfl)) (by decide) (fun K hK=>?_)
       refine Kd.N_append_step k59 (w0:=w) w.heap.size (by rfl) (.tmp 22) (.tmp 28) 55 59 (.agg #[(.int .i64 0),(.int .i64 0),(.int .i64 0),(.int .i64 0),(.int .i64 0),(.slice none 0 0)]) 64 rfl Tryd.underlying55 info59 rfl (by decide) (by omega) u148002 x148002_1 (⟨(qav l0_2 x4_1).f0,(qav l0_2 x4_1).f1,(qav l0_2 x4_1).f2,(qav l0_2 x4_1).f3,(qav l0_2 x4_1).f4,(qav l0_2 x4_1).f5⟩:S59) [.int .i64 ((qav l0_2 x4_1).f0),.int .i64 ((qav l0_2 x4_1).f1),.int .i64 ((qav l0_2 x4_1).f2),.int .i64 ((qav l0_2 x4_1).f3),.int .i64 ((qav l0_2 x4_1).f4),.slice A148_5 ((qav l0_2 x4_1).f5).length c148_5] (fun k_=>(P0_2_ k_∨w.heap.size≤k_)∧k_≠gb145∧k_≠gb146∧k_≠gb147) (fun k_=>((fun k_=>(P0_2_ k_∨w.heap.size≤k_)∧k_≠gb145∧k_≠gb146∧k_≠gb147)) k_∧some k_≠(u148002:Value).ownBlock) rfl rfl ?aP (fun _ hk=>hk) ?aF ?aO ?aB ?aS ?aL ?_
       (case aP=>exact (k59_mkF _ _ (⟨(qav l0_2 x4_1).f0,(qav l0_2 x4_1).f1,(qav l0_2 x4_1).f2,(qav l0_2 x4_1).f3,(qav l0_2 x4_1).f4,(qav l0_2 x4_1).f5⟩:S59) (Kd.V_reads' (Kd.V_mono (ok':=(fun k_=>((fun k_=>(P0_2_ k_∨w.heap.size≤k_)∧k_≠gb145∧k_≠gb146∧k_≠gb147)) k_∧some k_≠(u148002:Value).ownBlock)) (HL148_5.out) (fun k_ hk=>⟨⟨hk.1,⟨hk.2.2.1,⟨hk.2.2.2.1,hk.2.2.2.2⟩⟩⟩,hk.2.1⟩))).2.1 (Kd.V_F (Kd.V_mono (ok':=(fun k_=>((fun k_=>(P0_2_ k_∨w.heap.size≤k_)∧k_≠gb145∧k_≠gb146∧k_≠gb147)) k_∧some k_≠(u148002:Value).ownBlock)) (HL148_5.out) (fun k_ hk=>⟨⟨hk.1,⟨hk.2.2.1,⟨hk.2.2.2.1,hk.2.2.2.2⟩⟩⟩,hk.2.1⟩)))))
       (case aB=>exact (by repeat (first|(with_reducible first|exact HB.out|apply qai|apply qag|apply qaj|refine qaf ?_ GE145.out|refine qaf ?_ GE146.out|refine qaf ?_ GE147.out)|exact HB.out)))
       (case aF=>exact (fun k_ hk=>⟨(.inr (Nat.le_trans (qam (by repeat (first|(with_reducible first|exact HB.out|apply qai|apply qag|apply qaj|refine qaf ?_ GE145.out|refine qaf ?_ GE146.out|refine qaf ?_ GE147.out)|exact HB.out))) hk)),Kd.freshB (g:=gb145) (o:=.cells #[.int .i64 a0_0,.int .i64 a0_1,.slice (some ad148) l0_2.length c0_2] 24 (0,0)) (by (with_reducible repeat (first|refine qab ?_ _|refine qac ?_|refine qaa ?_ _));exact BK145.out) k_ hk,Kd.freshB (g:=gb146) (o:=.cells #[.int .i64 0,.int .i64 0,.slice none 0 0] 32 (0,0)) (by (with_reducible repeat (first|refine qab ?_ _|refine qac ?_|refine qaa ?_ _));exact BK146.out) k_ hk,Kd.freshB (g:=gb147) (o:=.cells #[.int .i64 a0_0,.int .i64 a0_1,u148002] 57 (0,0)) (by (with_reducible repeat (first|refine qab ?_ _|refine qac ?_|refine qaa ?_ _));exact BK147.out) k_ hk⟩))
       (case aO=>exact (by (with_reducible repeat (first|apply Kd.N_alloc|apply Kd.N_drewN|apply Kd.N_drew));exact HO_148002.out))
       (case aS=>exact (qam (by repeat (first|(with_reducible first|exact HB.out|apply qai|apply qag|apply qaj|refine qaf ?_ GE145.out|refine qaf ?_ GE146.out|refine qaf ?_ GE147.out)|exact HB.out))))
       (case aL=>have:=LMc13.out;omega)
       intro v150 w18 ho hb hg hat
       rw [← Ny149.out] at ho
       have n0_:=qah.mk (Kd.V_afterv (ok:=(fun k_=>(P0_2_ k_∨w.heap.size≤k_)∧k_≠gb145∧k_≠gb146∧k_≠gb147)) (by (with_reducible repeat (first|apply Kd.V_alloc|apply Kd.V_drewN|apply Kd.V_drew));exact Kd.V_mono HO_146002.out (fun _ hk=>⟨⟨hk.1,⟨hk.2.2.1,⟨hk.2.2.2.1,hk.2.2.2.2⟩⟩⟩,hk.2.1⟩)) hg hat)
       have n1_:=qah.mk (qaB (g:=gb145) (o:=.cells #[.int .i64 a0_0,.int .i64 a0_1,.slice (some ad148) l0_2.length c0_2] 24 (0,0)) (by (with_reducible repeat (first|refine qab ?_ _|refine qac ?_|refine qaa ?_ _));exact BK145.out) hg (Kd.N_ne HO_148002.out BK145.out (by decide)))
       have n2_:=qah.mk (qaB (g:=gb146) (o:=.cells #[.int .i64 0,.int .i64 0,.slice none 0 0] 32 (0,0)) (by (with_reducible repeat (first|refine qab ?_ _|refine qac ?_|refine qaa ?_ _));exact BK146.out) hg (Kd.N_ne HO_148002.out BK146.out (by decide)))
       have n3_:=qah.mk (qaB (g:=gb147) (o:=.cells #[.int .i64 a0_0,.int .i64 a0_1,u148002] 57 (0,0)) (by (with_reducible repeat (first|refine qab ?_ _|refine qac ?_|refine qaa ?_ _));exact BK147.out) hg (Kd.N_ne HO_148002.out BK147.out (by decide)))
       have n4_:=qah.mk (Kd.V_afterv (ok:=(fun k_=>(P0_2_ k_∨w.heap.size≤k_)∧k_≠gb145∧k_≠gb146∧k_≠gb147)) (by (with_reducible repeat (first|apply Kd.V_alloc|apply Kd.V_drewN|apply Kd.V_drew));exact Kd.V_mono HL148_5.out (fun _ hk=>⟨⟨hk.1,⟨hk.2.2.1,⟨hk.2.2.2.1,hk.2.2.2.2⟩⟩⟩,hk.2.1⟩)) hg hat)
       have n5_:=qah.mk (hb)
       have n6_:=qah.mk (ho)
       clear HO_146002
       clear BK145
       clear BK146
       clear BK147
       clear HL148_5
       clear HB
       clear HO_148002
       have HO_146002:=n0_
       have BK145:=n1_
       have BK146:=n2_
       have BK147:=n3_
       have HL148_5:=n4_
       have HB:=n5_
       have HO151:=n6_
       clear n0_ n1_ n2_ n3_ n4_ n5_ n6_
       clear ho hb hg hat
       obtain⟨Ao19,co19,eo19⟩:=Kd.N_slice HO151.out
       (first|subst eo19|(injection eo19 with f1_ f2_ f3_;have f4_:=f1_.symm;have f5_:=f3_.symm;clear f1_ f2_ f3_;subst f4_;subst f5_))
       refine hK.out _ _ ?_
       clear hK K
       refine norm_ (a':=?_) ?_ ?_
       rotate_left
       ·show Act.put _ (some 29) _=_
        simp only [Act.put,List.setIfInBounds_toArray,List.set_cons_zero,List.set_cons_succ,qaC,qaD]
        rfl
       refine pure_ (i:=9) (N:=some 30) (v:=?_) (a':=?_) #[true,true,true,true,true,true,true,true,true,true,false] rfl rfl (qaQ HT_.out (by kernel_rfl)) (fun _ _ _ h=>h) (Or.inl ⟨by rfl,?_⟩) ?_ ?_
       rotate_left
       ·intro w'
        go_simp
        with_reducible rfl
       rotate_left
       ·simp only [Act.put,List.setIfInBounds_toArray,List.set_cons_zero,List.set_cons_succ,qaC,qaD]
        rfl
       refine last_ (i:=10) (N:=none) #[true,true,true,true,true,true,true,true,true,true,true] rfl rfl (one_of HT_.out (by kernel_rfl)) (by decide) (fun K hK=>?_)
       have hs20:w18.cell? ⟨gb147,2,none⟩=some (u148002):=(qad BK147.out 2).trans rfl
       have hfs20:=qae BK147.out 2
       have hns20_0:=NB145_147.out
       have hns20_1:=NB146_147.out
       have hms20_0:=NB147_145.out
       have hms20_1:=NB147_146.out
       refine skip_ (w1:=?_) (by rfl) rfl ?_ ?_
       rotate_left
       ·go_simp
        rfl
       refine hK.out _ _ ?_
       clear hK K
       refine done_ (done_of HT_.out (by kernel_rfl)) ?_
       try go_wp2
       go_roundg k1
       case measure=>have:=HK1.out;omega
       case rel=>exact⟨(wrap64 (x4_1+1)),(y149),(.slice Ao19 y149.length co19),(by first|rfl|(simp;done)|(simp [*];done)),H',⟨by have:=HK1.out;omega⟩,⟨by (with_reducible repeat (first|apply Kd.V_alloc|apply Kd.V_drewN|apply Kd.V_drew));exact Kd.V_mono (Kd.V_far (p:=⟨gb147,2,none⟩) (Kd.V_mono HO_146002.out (fun k_ hk=>(⟨hk,hk.1.2.2.2⟩:_∧k_≠gb147))) (fun _ hk=>hk.2) (.slice Ao19 y149.length co19)) (fun _ hk=>⟨hk.1.1.1,⟨hk.1.2,⟨hk.1.1.2.1,⟨hk.1.1.2.2.1,hk.1.1.2.2.2⟩⟩⟩⟩)⟩,⟨by (with_reducible repeat (first|apply Kd.N_alloc|apply Kd.N_drewN|apply Kd.N_drew));exact Kd.N_mono (Kd.N_far (p:=⟨gb147,2,none⟩) (Kd.N_mono HO151.out (fun k_ hk=>(⟨hk,hk.2.2.2⟩:_∧k_≠gb147))) (fun _ hk=>hk.2) (.slice Ao19 y149.length co19)) (fun _ hk=>⟨hk.1.1,⟨hk.1.2.1,⟨hk.1.2.2.1,hk.1.2.2.2⟩⟩⟩)⟩,⟨by (with_reducible repeat (first|refine qab ?_ _|refine qac ?_|refine qaa ?_ _));refine qan ?_ NB145_147.out _;(with_reducible repeat (first|refine qab ?_ _|refine qac ?_|refine qaa ?_ _));exact BK145.out⟩,⟨by (with_reducible repeat (first|refine qab ?_ _|refine qac ?_|refine qaa ?_ _));refine qan ?_ NB146_147.out _;(with_reducible repeat (first|refine qab ?_ _|refine qac ?_|refine qaa ?_ _));exact BK146.out⟩,⟨by (with_reducible repeat (first|refine qab ?_ _|refine qac ?_|refine qaa ?_ _));refine qao (cs:=#[.int .i64 a0_0,.int .i64 a0_1,u148002]) ?_ 2 _ rfl;(with_reducible repeat (first|refine qab ?_ _|refine qac ?_|refine qaa ?_ _));exact BK147.out⟩,⟨by repeat (first|(with_reducible first|exact HB.out|apply qai|apply qag|apply qaj|refine qaf ?_ GE145.out|refine qaf ?_ GE146.out|refine qaf ?_ GE147.out)|exact HB.out)⟩⟩
      ·rw [if_neg c13] at H
       exact absurd H (by simp)
     ·rw [if_neg c12] at H
      exact absurd H (by simp)
    ·rw [if_neg c11] at H
     have c11b0:decide (x4_1<6)=false:=decide_eq_false c11
     clear c11
     replace H:=Option.bind_eq_some_iff.mp H
     obtain⟨⟨t152,t153,t154⟩,A210,H⟩:=H
     replace H:(some (t152,t153,t154))=some (r1,r2,r3):=H
     have A21:=qah.mk A210
     clear A210
     simp only [Option.some.injEq,Prod.mk.injEq] at H
     obtain⟨rfl,rfl,rfl⟩:=H
     have hnb22:=NB145_146.out
     have hnc22:=NB146_145.out
     have hnb23:=NB145_147.out
     have hnc23:=NB147_145.out
     have hcz24_0:wr.cell? ⟨gb145,0,none⟩=some (.int .i64 a0_0):=(qad BK145.out 0).trans rfl
     have hcz24_1:wr.cell? ⟨gb145,1,none⟩=some (.int .i64 a0_1):=(qad BK145.out 1).trans rfl
     have hcz24_2:wr.cell? ⟨gb145,2,none⟩=some (.slice A0_2 l0_2.length c0_2):=(qad BK145.out 2).trans rfl
     have hfz24_0:=qae BK145.out 0
     have hfz24_1:=qae BK145.out 1
     have hfz24_2:=qae BK145.out 2
     have hnb25:=NB147_146.out
     have hnc25:=NB146_147.out
     have hcz26_0:wr.cell? ⟨gb147,0,none⟩=some (.int .i64 a0_0):=(qad BK147.out 0).trans rfl
     have hcz26_1:wr.cell? ⟨gb147,1,none⟩=some (.int .i64 a0_1):=(qad BK147.out 1).trans rfl
     have hcz26_2:wr.cell? ⟨gb147,2,none⟩=some (u148002):=(qad BK147.out 2).trans rfl
     have hfz26_0:=qae BK147.out 0
     have hfz26_1:=qae BK147.out 1
     have hfz26_2:=qae BK147.out 2
     obtain⟨Ao27,co27,eo27⟩:=Kd.N_slice HO_148002.out
     subst eo27
     go_wp2_with (first|((with_reducible refine qaI (f:=19) rfl ?_);refine goesL_ (some 32) rfl rfl Tryd.func19 (by kernel_rfl) rfl #[.agg #[.int .i64 a0_0,.int .i64 a0_1,.slice Ao27 x148002_1.length co27]] rfl (by (try simp only [List.map_toArray,List.map_cons,List.map_nil]);first|done|rfl|(simp only [List.length_drop,List.length_take];rfl)) ?_;(with_reducible refine (ostinatoref05_System_Made.calls k1 a0_0 a0_1 _ _ x148002_1 t152 t153 t154 _ ?side1 ?side2 A21.out).mono ?_);(case side1=>repeat (first|exact (Kd.N_reads' HO_148002.out).2.2|(with_reducible refine Kd.C_alloc ?_ _)|(with_reducible refine Kd.C_drewN ?_ _)|(with_reducible refine Kd.C_drew ?_)));(case side2=>exact (Kd.N_reads' HO_148002.out).2.1);rintro e w28 ⟨v155,rfl,ho0,hb⟩;refine⟨_,rfl,?_⟩;have n0_:=qah.mk (Kd.V_elder' (by (with_reducible repeat (first|apply Kd.V_alloc|apply Kd.V_drewN|apply Kd.V_drew));exact HO_146002.out) (Kd.S_base ho0) hb);have n1_:=qah.mk (Kd.N_elder' (by (with_reducible repeat (first|apply Kd.N_alloc|apply Kd.N_drewN|apply Kd.N_drew));exact HO_148002.out) (Kd.S_base ho0) hb);have n2_:=qah.mk (Kd.N_lower (Kd.N_mono (ok':=fun k_=>(P0_2_ k_∨w.heap.size≤k_)∧some k_≠(.slice Ao27 x148002_1.length co27:Value).ownBlock∧k_≠gb145∧k_≠gb146∧k_≠gb147) (Kd.S_N (Kd.S_bound ho0)) (fun k_ hk_=>⟨(.inr (Nat.le_trans (qam (by repeat (first|(with_reducible first|exact HB.out|apply qai|apply qag|apply qaj|refine qaf ?_ GE145.out|refine qaf ?_ GE146.out|refine qaf ?_ GE147.out)|exact HB.out))) hk_.2.1)),(Kd.fresh' (Kd.N_lt (by (with_reducible repeat (first|apply Kd.N_alloc|apply Kd.N_drewN|apply Kd.N_drew));exact HO_148002.out)) k_ hk_.2.1),(Kd.freshB (g:=gb145) (o:=.cells #[.int .i64 a0_0,.int .i64 a0_1,.slice A0_2 l0_2.length c0_2] 24 (0,0)) (by (with_reducible repeat (first|refine qab ?_ _|refine qac ?_|refine qaa ?_ _));exact BK145.out) k_ hk_.2.1),(Kd.freshB (g:=gb146) (o:=.cells #[.int .i64 0,.int .i64 0,.slice none 0 0] 32 (0,0)) (by (with_reducible repeat (first|refine qab ?_ _|refine qac ?_|refine qaa ?_ _));exact BK146.out) k_ hk_.2.1),(Kd.freshB (g:=gb147) (o:=.cells #[.int .i64 a0_0,.int .i64 a0_1,.slice Ao27 x148002_1.length co27] 57 (0,0)) (by (with_reducible repeat (first|refine qab ?_ _|refine qac ?_|refine qaa ?_ _));exact BK147.out) k_ hk_.2.1)⟩)) (qam (by repeat (first|(with_reducible first|exact HB.out|apply qai|apply qag|apply qaj|refine qaf ?_ GE145.out|refine qaf ?_ GE146.out|refine qaf ?_ GE147.out)|exact HB.out))));have n3_:=qah.mk (qap (g:=gb145) (o:=.cells #[.int .i64 a0_0,.int .i64 a0_1,.slice A0_2 l0_2.length c0_2] 24 (0,0)) (by (with_reducible repeat (first|refine qab ?_ _|refine qac ?_|refine qaa ?_ _));exact BK145.out) hb);have n4_:=qah.mk (qap (g:=gb146) (o:=.cells #[.int .i64 0,.int .i64 0,.slice none 0 0] 32 (0,0)) (by (with_reducible repeat (first|refine qab ?_ _|refine qac ?_|refine qaa ?_ _));exact BK146.out) hb);have n5_:=qah.mk (qap (g:=gb147) (o:=.cells #[.int .i64 a0_0,.int .i64 a0_1,.slice Ao27 x148002_1.length co27] 57 (0,0)) (by (with_reducible repeat (first|refine qab ?_ _|refine qac ?_|refine qaa ?_ _));exact BK147.out) hb);have n6_:=qah.mk (qat (by repeat (first|(with_reducible first|exact HB.out|apply qai|apply qag|apply qaj|refine qaf ?_ GE145.out|refine qaf ?_ GE146.out|refine qaf ?_ GE147.out)|exact HB.out)) hb);clear HO_146002;clear HO_148002;clear BK145;clear BK146;clear BK147;clear HB;have HO_146002:=n0_;have HO_148002:=n1_;have HO156:=n2_;have BK145:=n3_;have BK146:=n4_;have BK147:=n5_;have HB:=n6_;clear n0_ n1_ n2_ n3_ n4_ n5_ n6_;(try clear hb);(try clear hb2);(try clear hk);(try clear hi);(try clear ho0);have hcz29_0:w28.cell? ⟨gb146,0,none⟩=some (.int .i64 0):=(qad BK146.out 0).trans rfl;have hcz29_1:w28.cell? ⟨gb146,1,none⟩=some (.int .i64 0):=(qad BK146.out 1).trans rfl;have hcz29_2:w28.cell? ⟨gb146,2,none⟩=some (.slice none 0 0):=(qad BK146.out 2).trans rfl;have hfz29_0:=qae BK146.out 0;have hfz29_1:=qae BK146.out 1;have hfz29_2:=qae BK146.out 2;obtain⟨Ao30,co30,eo30⟩:=Kd.N_slice HO156.out;subst eo30))
     refine bodyPost_ret (results_cell_row rfl _ _ gb146 32 #[.int .i64 t152,.int .i64 t153,.slice Ao30 t154.length co30] (0,0) _ rfl (by (with_reducible repeat (first|refine qab ?_ _|refine qac ?_|refine qaa ?_ _));refine qao (cs:=#[.int .i64 t152,.int .i64 t153,.slice none 0 0]) ?_ 2 _ rfl;(with_reducible repeat (first|refine qab ?_ _|refine qac ?_|refine qaa ?_ _));refine qao (cs:=#[.int .i64 t152,.int .i64 0,.slice none 0 0]) ?_ 1 _ rfl;(with_reducible repeat (first|refine qab ?_ _|refine qac ?_|refine qaa ?_ _));refine qao (cs:=#[.int .i64 0,.int .i64 0,.slice none 0 0]) ?_ 0 _ rfl;(with_reducible repeat (first|refine qab ?_ _|refine qac ?_|refine qaa ?_ _));exact BK146.out) Tryd.underlying32 rfl (by kernel_rfl)) rfl ?_
     exact⟨_,by first|rfl|(simp [qaA,qaz]<;>rfl)|(simp [bneNil,bneNilU]<;>rfl)|(simp [*,qaA,qaz]<;>rfl),by (with_reducible repeat (first|apply Kd.N_alloc|apply Kd.N_drewN|apply Kd.N_drew));exact Kd.N_mono (Kd.N_far (p:=⟨gb146,2,none⟩) (Kd.N_far (p:=⟨gb146,1,none⟩) (Kd.N_far (p:=⟨gb146,0,none⟩) (Kd.N_mono HO156.out (fun k_ hk=>(⟨hk,hk.2.2.2.1⟩:_∧k_≠gb146))) (fun _ hk=>hk.2) (.int .i64 t152)) (fun _ hk=>hk.2) (.int .i64 t153)) (fun _ hk=>hk.2) (.slice Ao30 t154.length co30)) (fun _ hk=>hk.1.1),by repeat (first|(with_reducible first|exact HB.out|apply qai|apply qag|apply qaj|refine qaf ?_ GE145.out|refine qaf ?_ GE146.out|refine qaf ?_ GE147.out)|exact HB.out)⟩
   ·rw [if_neg c10] at H
    have c10b0:decide (x4_1<(l0_2.length:Int))=false:=decide_eq_false c10
    clear c10
    replace H:=Option.bind_eq_some_iff.mp H
    obtain⟨⟨t157,t158,t159⟩,A310,H⟩:=H
    replace H:(some (t157,t158,t159))=some (r1,r2,r3):=H
    have A31:=qah.mk A310
    clear A310
    simp only [Option.some.injEq,Prod.mk.injEq] at H
    obtain⟨rfl,rfl,rfl⟩:=H
    have hnb32:=NB145_146.out
    have hnc32:=NB146_145.out
    have hnb33:=NB145_147.out
    have hnc33:=NB147_145.out
    have hcz34_0:wr.cell? ⟨gb145,0,none⟩=some (.int .i64 a0_0):=(qad BK145.out 0).trans rfl
    have hcz34_1:wr.cell? ⟨gb145,1,none⟩=some (.int .i64 a0_1):=(qad BK145.out 1).trans rfl
    have hcz34_2:wr.cell? ⟨gb145,2,none⟩=some (.slice A0_2 l0_2.length c0_2):=(qad BK145.out 2).trans rfl
    have hfz34_0:=qae BK145.out 0
    have hfz34_1:=qae BK145.out 1
    have hfz34_2:=qae BK145.out 2
    have hnb35:=NB147_146.out
    have hnc35:=NB146_147.out
    have hcz36_0:wr.cell? ⟨gb147,0,none⟩=some (.int .i64 a0_0):=(qad BK147.out 0).trans rfl
    have hcz36_1:wr.cell? ⟨gb147,1,none⟩=some (.int .i64 a0_1):=(qad BK147.out 1).trans rfl
    have hcz36_2:wr.cell? ⟨gb147,2,none⟩=some (u148002):=(qad BK147.out 2).trans rfl
    have hfz36_0:=qae BK147.out 0
    have hfz36_1:=qae BK147.out 1
    have hfz36_2:=qae BK147.out 2
    obtain⟨Ao37,co37,eo37⟩:=Kd.N_slice HO_148002.out
    subst eo37
    go_wp2_with (first|((with_reducible refine qaI (f:=19) rfl ?_);refine goesL_ (some 32) rfl rfl Tryd.func19 (by kernel_rfl) rfl #[.agg #[.int .i64 a0_0,.int .i64 a0_1,.slice Ao37 x148002_1.length co37]] rfl (by (try simp only [List.map_toArray,List.map_cons,List.map_nil]);first|done|rfl|(simp only [List.length_drop,List.length_take];rfl)) ?_;(with_reducible refine (ostinatoref05_System_Made.calls k1 a0_0 a0_1 _ _ x148002_1 t157 t158 t159 _ ?side1 ?side2 A31.out).mono ?_);(case side1=>repeat (first|exact (Kd.N_reads' HO_148002.out).2.2|(with_reducible refine Kd.C_alloc ?_ _)|(with_reducible refine Kd.C_drewN ?_ _)|(with_reducible refine Kd.C_drew ?_)));(case side2=>exact (Kd.N_reads' HO_148002.out).2.1);rintro e w38 ⟨v160,rfl,ho0,hb⟩;refine⟨_,rfl,?_⟩;have n0_:=qah.mk (Kd.V_elder' (by (with_reducible repeat (first|apply Kd.V_alloc|apply Kd.V_drewN|apply Kd.V_drew));exact HO_146002.out) (Kd.S_base ho0) hb);have n1_:=qah.mk (Kd.N_elder' (by (with_reducible repeat (first|apply Kd.N_alloc|apply Kd.N_drewN|apply Kd.N_drew));exact HO_148002.out) (Kd.S_base ho0) hb);have n2_:=qah.mk (Kd.N_lower (Kd.N_mono (ok':=fun k_=>(P0_2_ k_∨w.heap.size≤k_)∧some k_≠(.slice Ao37 x148002_1.length co37:Value).ownBlock∧k_≠gb145∧k_≠gb146∧k_≠gb147) (Kd.S_N (Kd.S_bound ho0)) (fun k_ hk_=>⟨(.inr (Nat.le_trans (qam (by repeat (first|(with_reducible first|exact HB.out|apply qai|apply qag|apply qaj|refine qaf ?_ GE145.out|refine qaf ?_ GE146.out|refine qaf ?_ GE147.out)|exact HB.out))) hk_.2.1)),(Kd.fresh' (Kd.N_lt (by (with_reducible repeat (first|apply Kd.N_alloc|apply Kd.N_drewN|apply Kd.N_drew));exact HO_148002.out)) k_ hk_.2.1),(Kd.freshB (g:=gb145) (o:=.cells #[.int .i64 a0_0,.int .i64 a0_1,.slice A0_2 l0_2.length c0_2] 24 (0,0)) (by (with_reducible repeat (first|refine qab ?_ _|refine qac ?_|refine qaa ?_ _));exact BK145.out) k_ hk_.2.1),(Kd.freshB (g:=gb146) (o:=.cells #[.int .i64 0,.int .i64 0,.slice none 0 0] 32 (0,0)) (by (with_reducible repeat (first|refine qab ?_ _|refine qac ?_|refine qaa ?_ _));exact BK146.out) k_ hk_.2.1),(Kd.freshB (g:=gb147) (o:=.cells #[.int .i64 a0_0,.int .i64 a0_1,.slice Ao37 x148002_1.length co37] 57 (0,0)) (by (with_reducible repeat (first|refine qab ?_ _|refine qac ?_|refine qaa ?_ _));exact BK147.out) k_ hk_.2.1)⟩)) (qam (by repeat (first|(with_reducible first|exact HB.out|apply qai|apply qag|apply qaj|refine qaf ?_ GE145.out|refine qaf ?_ GE146.out|refine qaf ?_ GE147.out)|exact HB.out))));have n3_:=qah.mk (qap (g:=gb145) (o:=.cells #[.int .i64 a0_0,.int .i64 a0_1,.slice A0_2 l0_2.length c0_2] 24 (0,0)) (by (with_reducible repeat (first|refine qab ?_ _|refine qac ?_|refine qaa ?_ _));exact BK145.out) hb);have n4_:=qah.mk (qap (g:=gb146) (o:=.cells #[.int .i64 0,.int .i64 0,.slice none 0 0] 32 (0,0)) (by (with_reducible repeat (first|refine qab ?_ _|refine qac ?_|refine qaa ?_ _));exact BK146.out) hb);have n5_:=qah.mk (qap (g:=gb147) (o:=.cells #[.int .i64 a0_0,.int .i64 a0_1,.slice Ao37 x148002_1.length co37] 57 (0,0)) (by (with_reducible repeat (first|refine qab ?_ _|refine qac ?_|refine qaa ?_ _));exact BK147.out) hb);have n6_:=qah.mk (qat (by repeat (first|(with_reducible first|exact HB.out|apply qai|apply qag|apply qaj|refine qaf ?_ GE145.out|refine qaf ?_ GE146.out|refine qaf ?_ GE147.out)|exact HB.out)) hb);clear HO_146002;clear HO_148002;clear BK145;clear BK146;clear BK147;clear HB;have HO_146002:=n0_;have HO_148002:=n1_;have HO161:=n2_;have BK145:=n3_;have BK146:=n4_;have BK147:=n5_;have HB:=n6_;clear n0_ n1_ n2_ n3_ n4_ n5_ n6_;(try clear hb);(try clear hb2);(try clear hk);(try clear hi);(try clear ho0);have hcz39_0:w38.cell? ⟨gb146,0,none⟩=some (.int .i64 0):=(qad BK146.out 0).trans rfl;have hcz39_1:w38.cell? ⟨gb146,1,none⟩=some (.int .i64 0):=(qad BK146.out 1).trans rfl;have hcz39_2:w38.cell? ⟨gb146,2,none⟩=some (.slice none 0 0):=(qad BK146.out 2).trans rfl;have hfz39_0:=qae BK146.out 0;have hfz39_1:=qae BK146.out 1;have hfz39_2:=qae BK146.out 2;obtain⟨Ao40,co40,eo40⟩:=Kd.N_slice HO161.out;subst eo40))
    refine bodyPost_ret (results_cell_row rfl _ _ gb146 32 #[.int .i64 t157,.int .i64 t158,.slice Ao40 t159.length co40] (0,0) _ rfl (by (with_reducible repeat (first|refine qab ?_ _|refine qac ?_|refine qaa ?_ _));refine qao (cs:=#[.int .i64 t157,.int .i64 t158,.slice none 0 0]) ?_ 2 _ rfl;(with_reducible repeat (first|refine qab ?_ _|refine qac ?_|refine qaa ?_ _));refine qao (cs:=#[.int .i64 t157,.int .i64 0,.slice none 0 0]) ?_ 1 _ rfl;(with_reducible repeat (first|refine qab ?_ _|refine qac ?_|refine qaa ?_ _));refine qao (cs:=#[.int .i64 0,.int .i64 0,.slice none 0 0]) ?_ 0 _ rfl;(with_reducible repeat (first|refine qab ?_ _|refine qac ?_|refine qaa ?_ _));exact BK146.out) Tryd.underlying32 rfl (by kernel_rfl)) rfl ?_
    exact⟨_,by first|rfl|(simp [qaA,qaz]<;>rfl)|(simp [bneNil,bneNilU]<;>rfl)|(simp [*,qaA,qaz]<;>rfl),by (with_reducible repeat (first|apply Kd.N_alloc|apply Kd.N_drewN|apply Kd.N_drew));exact Kd.N_mono (Kd.N_far (p:=⟨gb146,2,none⟩) (Kd.N_far (p:=⟨gb146,1,none⟩) (Kd.N_far (p:=⟨gb146,0,none⟩) (Kd.N_mono HO161.out (fun k_ hk=>(⟨hk,hk.2.2.2.1⟩:_∧k_≠gb146))) (fun _ hk=>hk.2) (.int .i64 t157)) (fun _ hk=>hk.2) (.int .i64 t158)) (fun _ hk=>hk.2) (.slice Ao40 t159.length co40)) (fun _ hk=>hk.1.1),by repeat (first|(with_reducible first|exact HB.out|apply qai|apply qag|apply qaj|refine qaf ?_ GE145.out|refine qaf ?_ GE146.out|refine qaf ?_ GE147.out)|exact HB.out)⟩
def tkOf (x:S52):Tk:=⟨x.f0,x.f1,x.f2,x.f3,x.f4,x.f5,x.f6⟩
theorem C_of_tk {w:World} {A:Option Addr} {L:List S52} (h:Kd.C k52 w A L.length L):Kd.C kTk w A (L.map tkOf).length (L.map tkOf):=by
 obtain⟨h1,h2,h3⟩:=h
 refine⟨rfl,by rw [List.length_map];exact h2,fun hl=>?_⟩
 rw [List.length_map] at hl
 obtain⟨ad,e,hc⟩:=h3 hl
 refine⟨ad,e,fun j p hj=>?_⟩
 rw [List.getElem?_map] at hj
 cases hx:L[j]? with
 |none=>rw [hx] at hj;cases hj
 |some x=>
  rw [hx] at hj
  obtain rfl:=Option.some.inj hj
  obtain⟨c,a1,a2,a3⟩:=hc j x hx
  exact⟨c,a1,a2,a3⟩
def prnOk (L:List S52):Bool:=decide (L.length≤70000) && L.all fun x=>decide (x.f5.length≤1000000) && decide (x.f6.length≤1000000) && decide (x.f1≤9223372036854775807)
def parse_Print.f (a0_0 a0_1:Int) (l0_2:List S52):Option ByteArray:=if prnOk l0_2=true then some (if checkE a0_0 a0_1 (l0_2.map tkOf)=0 then printT a0_0 a0_1 (l0_2.map tkOf) else ⟨#[]⟩) else none
theorem parse_Print.calls (a0_0:Int) (a0_1:Int) (A0_2:Option Addr) (c0_2:Nat) (l0_2:List S52) (r:ByteArray) (w:World) (hr0_2:Kd.C k52 w A0_2 l0_2.length l0_2) (hc0_2:l0_2.length≤c0_2) (h:parse_Print.f a0_0 a0_1 l0_2=some r) (hT:Tabs w) :
  Calls Tryd.prog 15 #[.agg #[.int .i64 a0_0,.int .i64 a0_1,.slice A0_2 l0_2.length c0_2]] w fun e w'=>e=.returned (.string r)∧Below w.heap.size w w':=by
 unfold parse_Print.f at h
 split at h
 ·rename_i h1
  obtain rfl:=Option.some.inj h
  unfold prnOk at h1
  simp only [Bool.and_eq_true,decide_eq_true_eq] at h1
  have:=print_any a0_0 a0_1 A0_2 c0_2 (l0_2.map tkOf) w (by rw [List.length_map];exact h1.1) (fun x hx=>by
   obtain⟨y,hy,rfl⟩:=List.mem_map.1 hx
   have:=List.all_eq_true.1 h1.2 y hy
   simp only [Bool.and_eq_true,decide_eq_true_eq] at this
   exact⟨this.1.1,this.1.2,this.2⟩) (tkrow_of_C (C_of_tk hr0_2)) hT.1.1 hT.1.2
  rw [List.length_map] at this
  exact this
 ·cases h
def ostinatolaw07_ParseFirst.f (k:Nat) (a0_0:Int) (a0_1:Int) (l0_2:List (S60)) (a1:Int) (a2:ByteArray):Option (Bool):=(ostinatolaw07_awake.f).bind fun t163=>((ostinatolaw07_Sys_made.f k a0_0 a0_1 l0_2).bind fun bt165=>((parse_Print.f bt165.1 bt165.2.1 bt165.2.2).bind fun t170=>(if 0≤(Int.tmod (wrap64 ((Int.tmod a1 6)+6)) 6) then (if (Int.tmod (wrap64 ((Int.tmod a1 6)+6)) 6)<6 then (if t170.size+(rdS [(⟨#[116,97,115,107,32,48,32,99,61,49,32,100,61,49,32,116,61,49,32,112,61,57,57]⟩:ByteArray),(⟨#[116,97,115,107,32,57,56]⟩:ByteArray),(⟨#[116,97,115,107,32,57,56,32,99,61,49,32,100,61,49,32,116,61,49,32,112,61,57,56,32,120]⟩:ByteArray),(⟨#[116,97,115,107,32,57,56,32,99,61,48,49,32,100,61,49,32,116,61,49,32,112,61,57,56]⟩:ByteArray),(⟨#[116,97,115,107,115,32,57,56,32,99,61,49,32,100,61,49,32,116,61,49,32,112,61,57,56]⟩:ByteArray),(⟨#[116,97,115,107,32,57,56,32,99,61,50,32,100,61,49,32,116,61,49,32,112,61,57,56]⟩:ByteArray)] (Int.tmod (wrap64 ((Int.tmod a1 6)+6)) 6)).size≤9223372036854775807 then ((parse_Parse.f (t170++(rdS [(⟨#[116,97,115,107,32,48,32,99,61,49,32,100,61,49,32,116,61,49,32,112,61,57,57]⟩:ByteArray),(⟨#[116,97,115,107,32,57,56]⟩:ByteArray),(⟨#[116,97,115,107,32,57,56,32,99,61,49,32,100,61,49,32,116,61,49,32,112,61,57,56,32,120]⟩:ByteArray),(⟨#[116,97,115,107,32,57,56,32,99,61,48,49,32,100,61,49,32,116,61,49,32,112,61,57,56]⟩:ByteArray),(⟨#[116,97,115,107,115,32,57,56,32,99,61,49,32,100,61,49,32,116,61,49,32,112,61,57,56]⟩:ByteArray),(⟨#[116,97,115,107,32,57,56,32,99,61,50,32,100,61,49,32,116,61,49,32,112,61,57,56]⟩:ByteArray)] (Int.tmod (wrap64 ((Int.tmod a1 6)+6)) 6)))).bind fun bt172=>(if (t170++(rdS [(⟨#[116,97,115,107,32,48,32,99,61,49,32,100,61,49,32,116,61,49,32,112,61,57,57]⟩:ByteArray),(⟨#[116,97,115,107,32,57,56]⟩:ByteArray),(⟨#[116,97,115,107,32,57,56,32,99,61,49,32,100,61,49,32,116,61,49,32,112,61,57,56,32,120]⟩:ByteArray),(⟨#[116,97,115,107,32,57,56,32,99,61,48,49,32,100,61,49,32,116,61,49,32,112,61,57,56]⟩:ByteArray),(⟨#[116,97,115,107,115,32,57,56,32,99,61,49,32,100,61,49,32,116,61,49,32,112,61,57,56]⟩:ByteArray),(⟨#[116,97,115,107,32,57,56,32,99,61,50,32,100,61,49,32,116,61,49,32,112,61,57,56]⟩:ByteArray)] (Int.tmod (wrap64 ((Int.tmod a1 6)+6)) 6))).size+1≤9223372036854775807 then ((ostinatolaw07_short.f a2 40).bind fun t180=>(if ((t170++(rdS [(⟨#[116,97,115,107,32,48,32,99,61,49,32,100,61,49,32,116,61,49,32,112,61,57,57]⟩:ByteArray),(⟨#[116,97,115,107,32,57,56]⟩:ByteArray),(⟨#[116,97,115,107,32,57,56,32,99,61,49,32,100,61,49,32,116,61,49,32,112,61,57,56,32,120]⟩:ByteArray),(⟨#[116,97,115,107,32,57,56,32,99,61,48,49,32,100,61,49,32,116,61,49,32,112,61,57,56]⟩:ByteArray),(⟨#[116,97,115,107,115,32,57,56,32,99,61,49,32,100,61,49,32,116,61,49,32,112,61,57,56]⟩:ByteArray),(⟨#[116,97,115,107,32,57,56,32,99,61,50,32,100,61,49,32,116,61,49,32,112,61,57,56]⟩:ByteArray)] (Int.tmod (wrap64 ((Int.tmod a1 6)+6)) 6)))++(⟨#[10]⟩:ByteArray)).size+t180.size≤9223372036854775807 then ((parse_Parse.f (((t170++(rdS [(⟨#[116,97,115,107,32,48,32,99,61,49,32,100,61,49,32,116,61,49,32,112,61,57,57]⟩:ByteArray),(⟨#[116,97,115,107,32,57,56]⟩:ByteArray),(⟨#[116,97,115,107,32,57,56,32,99,61,49,32,100,61,49,32,116,61,49,32,112,61,57,56,32,120]⟩:ByteArray),(⟨#[116,97,115,107,32,57,56,32,99,61,48,49,32,100,61,49,32,116,61,49,32,112,61,57,56]⟩:ByteArray),(⟨#[116,97,115,107,115,32,57,56,32,99,61,49,32,100,61,49,32,116,61,49,32,112,61,57,56]⟩:ByteArray),(⟨#[116,97,115,107,32,57,56,32,99,61,50,32,100,61,49,32,116,61,49,32,112,61,57,56]⟩:ByteArray)] (Int.tmod (wrap64 ((Int.tmod a1 6)+6)) 6)))++(⟨#[10]⟩:ByteArray))++t180)).bind fun bt181=>(if t163=true then (if t170.toList=([]:List UInt8) then (some false) else (if bt172.2.2.2.2=0 then (some false) else (if bt172.2.2.2.1 ≥ (t170.size:Int) then (if bt172.2.2.2.1≤((t170++(rdS [(⟨#[116,97,115,107,32,48,32,99,61,49,32,100,61,49,32,116,61,49,32,112,61,57,57]⟩:ByteArray),(⟨#[116,97,115,107,32,57,56]⟩:ByteArray),(⟨#[116,97,115,107,32,57,56,32,99,61,49,32,100,61,49,32,116,61,49,32,112,61,57,56,32,120]⟩:ByteArray),(⟨#[116,97,115,107,32,57,56,32,99,61,48,49,32,100,61,49,32,116,61,49,32,112,61,57,56]⟩:ByteArray),(⟨#[116,97,115,107,115,32,57,56,32,99,61,49,32,100,61,49,32,116,61,49,32,112,61,57,56]⟩:ByteArray),(⟨#[116,97,115,107,32,57,56,32,99,61,50,32,100,61,49,32,116,61,49,32,112,61,57,56]⟩:ByteArray)] (Int.tmod (wrap64 ((Int.tmod a1 6)+6)) 6))).size:Int) then (if bt181.2.2.2.1=bt172.2.2.2.1 then (some (bt181.2.2.2.2 == bt172.2.2.2.2)) else (some false)) else (some false)) else (some false)))) else (some false))) else (none))) else (none))) else (none)) else (none)) else (none))))
theorem ostinatolaw07_ParseFirst.calls (k:Nat) (a0_0:Int) (a0_1:Int) (A0_2:Option Addr) (c0_2:Nat) (l0_2:List (S60)) (a1:Int) (a2:ByteArray) (_r:Bool) (w:World) (hr0_2:Kd.C k60 w A0_2 l0_2.length l0_2) (hc0_2:l0_2.length≤c0_2) (h:ostinatolaw07_ParseFirst.f k a0_0 a0_1 l0_2 a1 a2=some true) (hT:Tabs w) :
  Calls Tryd.prog 6 #[.agg #[.int .i64 a0_0,.int .i64 a0_1,.slice A0_2 l0_2.length c0_2],.int .i64 a1,.string a2] w fun e w'=>e=.returned (.bool true)∧Below w.heap.size w w':=by
 have hu24:=Tryd.underlying24
 have hu46:=Tryd.underlying46
 have hu32:=Tryd.underlying32
 have HR0_2:=qah.mk hr0_2
 have HC0_2:=qah.mk hc0_2
 clear hr0_2 hc0_2
 have HB:=qah.mk (Below.refl w.heap.size w)
 have H:((ostinatolaw07_awake.f).bind fun t163=>((ostinatolaw07_Sys_made.f k a0_0 a0_1 l0_2).bind fun bt165=>((parse_Print.f bt165.1 bt165.2.1 bt165.2.2).bind fun t170=>(if 0≤(Int.tmod (wrap64 ((Int.tmod a1 6)+6)) 6) then (if (Int.tmod (wrap64 ((Int.tmod a1 6)+6)) 6)<6 then (if t170.size+(rdS [(⟨#[116,97,115,107,32,48,32,99,61,49,32,100,61,49,32,116,61,49,32,112,61,57,57]⟩:ByteArray),(⟨#[116,97,115,107,32,57,56]⟩:ByteArray),(⟨#[116,97,115,107,32,57,56,32,99,61,49,32,100,61,49,32,116,61,49,32,112,61,57,56,32,120]⟩:ByteArray),(⟨#[116,97,115,107,32,57,56,32,99,61,48,49,32,100,61,49,32,116,61,49,32,112,61,57,56]⟩:ByteArray),(⟨#[116,97,115,107,115,32,57,56,32,99,61,49,32,100,61,49,32,116,61,49,32,112,61,57,56]⟩:ByteArray),(⟨#[116,97,115,107,32,57,56,32,99,61,50,32,100,61,49,32,116,61,49,32,112,61,57,56]⟩:ByteArray)] (Int.tmod (wrap64 ((Int.tmod a1 6)+6)) 6)).size≤9223372036854775807 then ((parse_Parse.f (t170++(rdS [(⟨#[116,97,115,107,32,48,32,99,61,49,32,100,61,49,32,116,61,49,32,112,61,57,57]⟩:ByteArray),(⟨#[116,97,115,107,32,57,56]⟩:ByteArray),(⟨#[116,97,115,107,32,57,56,32,99,61,49,32,100,61,49,32,116,61,49,32,112,61,57,56,32,120]⟩:ByteArray),(⟨#[116,97,115,107,32,57,56,32,99,61,48,49,32,100,61,49,32,116,61,49,32,112,61,57,56]⟩:ByteArray),(⟨#[116,97,115,107,115,32,57,56,32,99,61,49,32,100,61,49,32,116,61,49,32,112,61,57,56]⟩:ByteArray),(⟨#[116,97,115,107,32,57,56,32,99,61,50,32,100,61,49,32,116,61,49,32,112,61,57,56]⟩:ByteArray)] (Int.tmod (wrap64 ((Int.tmod a1 6)+6)) 6)))).bind fun bt172=>(if (t170++(rdS [(⟨#[116,97,115,107,32,48,32,99,61,49,32,100,61,49,32,116,61,49,32,112,61,57,57]⟩:ByteArray),(⟨#[116,97,115,107,32,57,56]⟩:ByteArray),(⟨#[116,97,115,107,32,57,56,32,99,61,49,32,100,61,49,32,116,61,49,32,112,61,57,56,32,120]⟩:ByteArray),(⟨#[116,97,115,107,32,57,56,32,99,61,48,49,32,100,61,49,32,116,61,49,32,112,61,57,56]⟩:ByteArray),(⟨#[116,97,115,107,115,32,57,56,32,99,61,49,32,100,61,49,32,116,61,49,32,112,61,57,56]⟩:ByteArray),(⟨#[116,97,115,107,32,57,56,32,99,61,50,32,100,61,49,32,116,61,49,32,112,61,57,56]⟩:ByteArray)] (Int.tmod (wrap64 ((Int.tmod a1 6)+6)) 6))).size+1≤9223372036854775807 then ((ostinatolaw07_short.f a2 40).bind fun t180=>(if ((t170++(rdS [(⟨#[116,97,115,107,32,48,32,99,61,49,32,100,61,49,32,116,61,49,32,112,61,57,57]⟩:ByteArray),(⟨#[116,97,115,107,32,57,56]⟩:ByteArray),(⟨#[116,97,115,107,32,57,56,32,99,61,49,32,100,61,49,32,116,61,49,32,112,61,57,56,32,120]⟩:ByteArray),(⟨#[116,97,115,107,32,57,56,32,99,61,48,49,32,100,61,49,32,116,61,49,32,112,61,57,56]⟩:ByteArray),(⟨#[116,97,115,107,115,32,57,56,32,99,61,49,32,100,61,49,32,116,61,49,32,112,61,57,56]⟩:ByteArray),(⟨#[116,97,115,107,32,57,56,32,99,61,50,32,100,61,49,32,116,61,49,32,112,61,57,56]⟩:ByteArray)] (Int.tmod (wrap64 ((Int.tmod a1 6)+6)) 6)))++(⟨#[10]⟩:ByteArray)).size+t180.size≤9223372036854775807 then ((parse_Parse.f (((t170++(rdS [(⟨#[116,97,115,107,32,48,32,99,61,49,32,100,61,49,32,116,61,49,32,112,61,57,57]⟩:ByteArray),(⟨#[116,97,115,107,32,57,56]⟩:ByteArray),(⟨#[116,97,115,107,32,57,56,32,99,61,49,32,100,61,49,32,116,61,49,32,112,61,57,56,32,120]⟩:ByteArray),(⟨#[116,97,115,107,32,57,56,32,99,61,48,49,32,100,61,49,32,116,61,49,32,112,61,57,56]⟩:ByteArray),(⟨#[116,97,115,107,115,32,57,56,32,99,61,49,32,100,61,49,32,116,61,49,32,112,61,57,56]⟩:ByteArray),(⟨#[116,97,115,107,32,57,56,32,99,61,50,32,100,61,49,32,116,61,49,32,112,61,57,56]⟩:ByteArray)] (Int.tmod (wrap64 ((Int.tmod a1 6)+6)) 6)))++(⟨#[10]⟩:ByteArray))++t180)).bind fun bt181=>(if t163=true then (if t170.toList=([]:List UInt8) then (some false) else (if bt172.2.2.2.2=0 then (some false) else (if bt172.2.2.2.1 ≥ (t170.size:Int) then (if bt172.2.2.2.1≤((t170++(rdS [(⟨#[116,97,115,107,32,48,32,99,61,49,32,100,61,49,32,116,61,49,32,112,61,57,57]⟩:ByteArray),(⟨#[116,97,115,107,32,57,56]⟩:ByteArray),(⟨#[116,97,115,107,32,57,56,32,99,61,49,32,100,61,49,32,116,61,49,32,112,61,57,56,32,120]⟩:ByteArray),(⟨#[116,97,115,107,32,57,56,32,99,61,48,49,32,100,61,49,32,116,61,49,32,112,61,57,56]⟩:ByteArray),(⟨#[116,97,115,107,115,32,57,56,32,99,61,49,32,100,61,49,32,116,61,49,32,112,61,57,56]⟩:ByteArray),(⟨#[116,97,115,107,32,57,56,32,99,61,50,32,100,61,49,32,116,61,49,32,112,61,57,56]⟩:ByteArray)] (Int.tmod (wrap64 ((Int.tmod a1 6)+6)) 6))).size:Int) then (if bt181.2.2.2.1=bt172.2.2.2.1 then (some (bt181.2.2.2.2 == bt172.2.2.2.2)) else (some false)) else (some false)) else (some false)))) else (some false))) else (none))) else (none))) else (none)) else (none)) else (none)))))=some true:=h
 clear h
 have HT:=qah.mk hT
 clear hT
 replace H:=Option.bind_eq_some_iff.mp H
 obtain⟨t163,A40,H⟩:=H
 replace H:((ostinatolaw07_Sys_made.f k a0_0 a0_1 l0_2).bind fun bt165=>((parse_Print.f bt165.1 bt165.2.1 bt165.2.2).bind fun t170=>(if 0≤(Int.tmod (wrap64 ((Int.tmod a1 6)+6)) 6) then (if (Int.tmod (wrap64 ((Int.tmod a1 6)+6)) 6)<6 then (if t170.size+(rdS [(⟨#[116,97,115,107,32,48,32,99,61,49,32,100,61,49,32,116,61,49,32,112,61,57,57]⟩:ByteArray),(⟨#[116,97,115,107,32,57,56]⟩:ByteArray),(⟨#[116,97,115,107,32,57,56,32,99,61,49,32,100,61,49,32,116,61,49,32,112,61,57,56,32,120]⟩:ByteArray),(⟨#[116,97,115,107,32,57,56,32,99,61,48,49,32,100,61,49,32,116,61,49,32,112,61,57,56]⟩:ByteArray),(⟨#[116,97,115,107,115,32,57,56,32,99,61,49,32,100,61,49,32,116,61,49,32,112,61,57,56]⟩:ByteArray),(⟨#[116,97,115,107,32,57,56,32,99,61,50,32,100,61,49,32,116,61,49,32,112,61,57,56]⟩:ByteArray)] (Int.tmod (wrap64 ((Int.tmod a1 6)+6)) 6)).size≤9223372036854775807 then ((parse_Parse.f (t170++(rdS [(⟨#[116,97,115,107,32,48,32,99,61,49,32,100,61,49,32,116,61,49,32,112,61,57,57]⟩:ByteArray),(⟨#[116,97,115,107,32,57,56]⟩:ByteArray),(⟨#[116,97,115,107,32,57,56,32,99,61,49,32,100,61,49,32,116,61,49,32,112,61,57,56,32,120]⟩:ByteArray),(⟨#[116,97,115,107,32,57,56,32,99,61,48,49,32,100,61,49,32,116,61,49,32,112,61,57,56]⟩:ByteArray),(⟨#[116,97,115,107,115,32,57,56,32,99,61,49,32,100,61,49,32,116,61,49,32,112,61,57,56]⟩:ByteArray),(⟨#[116,97,115,107,32,57,56,32,99,61,50,32,100,61,49,32,116,61,49,32,112,61,57,56]⟩:ByteArray)] (Int.tmod (wrap64 ((Int.tmod a1 6)+6)) 6)))).bind fun bt172=>(if (t170++(rdS [(⟨#[116,97,115,107,32,48,32,99,61,49,32,100,61,49,32,116,61,49,32,112,61,57,57]⟩:ByteArray),(⟨#[116,97,115,107,32,57,56]⟩:ByteArray),(⟨#[116,97,115,107,32,57,56,32,99,61,49,32,100,61,49,32,116,61,49,32,112,61,57,56,32,120]⟩:ByteArray),(⟨#[116,97,115,107,32,57,56,32,99,61,48,49,32,100,61,49,32,116,61,49,32,112,61,57,56]⟩:ByteArray),(⟨#[116,97,115,107,115,32,57,56,32,99,61,49,32,100,61,49,32,116,61,49,32,112,61,57,56]⟩:ByteArray),(⟨#[116,97,115,107,32,57,56,32,99,61,50,32,100,61,49,32,116,61,49,32,112,61,57,56]⟩:ByteArray)] (Int.tmod (wrap64 ((Int.tmod a1 6)+6)) 6))).size+1≤9223372036854775807 then ((ostinatolaw07_short.f a2 40).bind fun t180=>(if ((t170++(rdS [(⟨#[116,97,115,107,32,48,32,99,61,49,32,100,61,49,32,116,61,49,32,112,61,57,57]⟩:ByteArray),(⟨#[116,97,115,107,32,57,56]⟩:ByteArray),(⟨#[116,97,115,107,32,57,56,32,99,61,49,32,100,61,49,32,116,61,49,32,112,61,57,56,32,120]⟩:ByteArray),(⟨#[116,97,115,107,32,57,56,32,99,61,48,49,32,100,61,49,32,116,61,49,32,112,61,57,56]⟩:ByteArray),(⟨#[116,97,115,107,115,32,57,56,32,99,61,49,32,100,61,49,32,116,61,49,32,112,61,57,56]⟩:ByteArray),(⟨#[116,97,115,107,32,57,56,32,99,61,50,32,100,61,49,32,116,61,49,32,112,61,57,56]⟩:ByteArray)] (Int.tmod (wrap64 ((Int.tmod a1 6)+6)) 6)))++(⟨#[10]⟩:ByteArray)).size+t180.size≤9223372036854775807 then ((parse_Parse.f (((t170++(rdS [(⟨#[116,97,115,107,32,48,32,99,61,49,32,100,61,49,32,116,61,49,32,112,61,57,57]⟩:ByteArray),(⟨#[116,97,115,107,32,57,56]⟩:ByteArray),(⟨#[116,97,115,107,32,57,56,32,99,61,49,32,100,61,49,32,116,61,49,32,112,61,57,56,32,120]⟩:ByteArray),(⟨#[116,97,115,107,32,57,56,32,99,61,48,49,32,100,61,49,32,116,61,49,32,112,61,57,56]⟩:ByteArray),(⟨#[116,97,115,107,115,32,57,56,32,99,61,49,32,100,61,49,32,116,61,49,32,112,61,57,56]⟩:ByteArray),(⟨#[116,97,115,107,32,57,56,32,99,61,50,32,100,61,49,32,116,61,49,32,112,61,57,56]⟩:ByteArray)] (Int.tmod (wrap64 ((Int.tmod a1 6)+6)) 6)))++(⟨#[10]⟩:ByteArray))++t180)).bind fun bt181=>(if t163=true then (if t170.toList=([]:List UInt8) then (some false) else (if bt172.2.2.2.2=0 then (some false) else (if bt172.2.2.2.1 ≥ (t170.size:Int) then (if bt172.2.2.2.1≤((t170++(rdS [(⟨#[116,97,115,107,32,48,32,99,61,49,32,100,61,49,32,116,61,49,32,112,61,57,57]⟩:ByteArray),(⟨#[116,97,115,107,32,57,56]⟩:ByteArray),(⟨#[116,97,115,107,32,57,56,32,99,61,49,32,100,61,49,32,116,61,49,32,112,61,57,56,32,120]⟩:ByteArray),(⟨#[116,97,115,107,32,57,56,32,99,61,48,49,32,100,61,49,32,116,61,49,32,112,61,57,56]⟩:ByteArray),(⟨#[116,97,115,107,115,32,57,56,32,99,61,49,32,100,61,49,32,116,61,49,32,112,61,57,56]⟩:ByteArray),(⟨#[116,97,115,107,32,57,56,32,99,61,50,32,100,61,49,32,116,61,49,32,112,61,57,56]⟩:ByteArray)] (Int.tmod (wrap64 ((Int.tmod a1 6)+6)) 6))).size:Int) then (if bt181.2.2.2.1=bt172.2.2.2.1 then (some (bt181.2.2.2.2 == bt172.2.2.2.2)) else (some false)) else (some false)) else (some false)))) else (some false))) else (none))) else (none))) else (none)) else (none)) else (none))))=some true:=H
 have A4:=qah.mk A40
 clear A40
 replace H:=Option.bind_eq_some_iff.mp H
 obtain⟨⟨t165,t166,t167⟩,A50,H⟩:=H
 replace H:((parse_Print.f t165 t166 t167).bind fun t170=>(if 0≤(Int.tmod (wrap64 ((Int.tmod a1 6)+6)) 6) then (if (Int.tmod (wrap64 ((Int.tmod a1 6)+6)) 6)<6 then (if t170.size+(rdS [(⟨#[116,97,115,107,32,48,32,99,61,49,32,100,61,49,32,116,61,49,32,112,61,57,57]⟩:ByteArray),(⟨#[116,97,115,107,32,57,56]⟩:ByteArray),(⟨#[116,97,115,107,32,57,56,32,99,61,49,32,100,61,49,32,116,61,49,32,112,61,57,56,32,120]⟩:ByteArray),(⟨#[116,97,115,107,32,57,56,32,99,61,48,49,32,100,61,49,32,116,61,49,32,112,61,57,56]⟩:ByteArray),(⟨#[116,97,115,107,115,32,57,56,32,99,61,49,32,100,61,49,32,116,61,49,32,112,61,57,56]⟩:ByteArray),(⟨#[116,97,115,107,32,57,56,32,99,61,50,32,100,61,49,32,116,61,49,32,112,61,57,56]⟩:ByteArray)] (Int.tmod (wrap64 ((Int.tmod a1 6)+6)) 6)).size≤9223372036854775807 then ((parse_Parse.f (t170++(rdS [(⟨#[116,97,115,107,32,48,32,99,61,49,32,100,61,49,32,116,61,49,32,112,61,57,57]⟩:ByteArray),(⟨#[116,97,115,107,32,57,56]⟩:ByteArray),(⟨#[116,97,115,107,32,57,56,32,99,61,49,32,100,61,49,32,116,61,49,32,112,61,57,56,32,120]⟩:ByteArray),(⟨#[116,97,115,107,32,57,56,32,99,61,48,49,32,100,61,49,32,116,61,49,32,112,61,57,56]⟩:ByteArray),(⟨#[116,97,115,107,115,32,57,56,32,99,61,49,32,100,61,49,32,116,61,49,32,112,61,57,56]⟩:ByteArray),(⟨#[116,97,115,107,32,57,56,32,99,61,50,32,100,61,49,32,116,61,49,32,112,61,57,56]⟩:ByteArray)] (Int.tmod (wrap64 ((Int.tmod a1 6)+6)) 6)))).bind fun bt172=>(if (t170++(rdS [(⟨#[116,97,115,107,32,48,32,99,61,49,32,100,61,49,32,116,61,49,32,112,61,57,57]⟩:ByteArray),(⟨#[116,97,115,107,32,57,56]⟩:ByteArray),(⟨#[116,97,115,107,32,57,56,32,99,61,49,32,100,61,49,32,116,61,49,32,112,61,57,56,32,120]⟩:ByteArray),(⟨#[116,97,115,107,32,57,56,32,99,61,48,49,32,100,61,49,32,116,61,49,32,112,61,57,56]⟩:ByteArray),(⟨#[116,97,115,107,115,32,57,56,32,99,61,49,32,100,61,49,32,116,61,49,32,112,61,57,56]⟩:ByteArray),(⟨#[116,97,115,107,32,57,56,32,99,61,50,32,100,61,49,32,116,61,49,32,112,61,57,56]⟩:ByteArray)] (Int.tmod (wrap64 ((Int.tmod a1 6)+6)) 6))).size+1≤9223372036854775807 then ((ostinatolaw07_short.f a2 40).bind fun t180=>(if ((t170++(rdS [(⟨#[116,97,115,107,32,48,32,99,61,49,32,100,61,49,32,116,61,49,32,112,61,57,57]⟩:ByteArray),(⟨#[116,97,115,107,32,57,56]⟩:ByteArray),(⟨#[116,97,115,107,32,57,56,32,99,61,49,32,100,61,49,32,116,61,49,32,112,61,57,56,32,120]⟩:ByteArray),(⟨#[116,97,115,107,32,57,56,32,99,61,48,49,32,100,61,49,32,116,61,49,32,112,61,57,56]⟩:ByteArray),(⟨#[116,97,115,107,115,32,57,56,32,99,61,49,32,100,61,49,32,116,61,49,32,112,61,57,56]⟩:ByteArray),(⟨#[116,97,115,107,32,57,56,32,99,61,50,32,100,61,49,32,116,61,49,32,112,61,57,56]⟩:ByteArray)] (Int.tmod (wrap64 ((Int.tmod a1 6)+6)) 6)))++(⟨#[10]⟩:ByteArray)).size+t180.size≤9223372036854775807 then ((parse_Parse.f (((t170++(rdS [(⟨#[116,97,115,107,32,48,32,99,61,49,32,100,61,49,32,116,61,49,32,112,61,57,57]⟩:ByteArray),(⟨#[116,97,115,107,32,57,56]⟩:ByteArray),(⟨#[116,97,115,107,32,57,56,32,99,61,49,32,100,61,49,32,116,61,49,32,112,61,57,56,32,120]⟩:ByteArray),(⟨#[116,97,115,107,32,57,56,32,99,61,48,49,32,100,61,49,32,116,61,49,32,112,61,57,56]⟩:ByteArray),(⟨#[116,97,115,107,115,32,57,56,32,99,61,49,32,100,61,49,32,116,61,49,32,112,61,57,56]⟩:ByteArray),(⟨#[116,97,115,107,32,57,56,32,99,61,50,32,100,61,49,32,116,61,49,32,112,61,57,56]⟩:ByteArray)] (Int.tmod (wrap64 ((Int.tmod a1 6)+6)) 6)))++(⟨#[10]⟩:ByteArray))++t180)).bind fun bt181=>(if t163=true then (if t170.toList=([]:List UInt8) then (some false) else (if bt172.2.2.2.2=0 then (some false) else (if bt172.2.2.2.1 ≥ (t170.size:Int) then (if bt172.2.2.2.1≤((t170++(rdS [(⟨#[116,97,115,107,32,48,32,99,61,49,32,100,61,49,32,116,61,49,32,112,61,57,57]⟩:ByteArray),(⟨#[116,97,115,107,32,57,56]⟩:ByteArray),(⟨#[116,97,115,107,32,57,56,32,99,61,49,32,100,61,49,32,116,61,49,32,112,61,57,56,32,120]⟩:ByteArray),(⟨#[116,97,115,107,32,57,56,32,99,61,48,49,32,100,61,49,32,116,61,49,32,112,61,57,56]⟩:ByteArray),(⟨#[116,97,115,107,115,32,57,56,32,99,61,49,32,100,61,49,32,116,61,49,32,112,61,57,56]⟩:ByteArray),(⟨#[116,97,115,107,32,57,56,32,99,61,50,32,100,61,49,32,116,61,49,32,112,61,57,56]⟩:ByteArray)] (Int.tmod (wrap64 ((Int.tmod a1 6)+6)) 6))).size:Int) then (if bt181.2.2.2.1=bt172.2.2.2.1 then (some (bt181.2.2.2.2 == bt172.2.2.2.2)) else (some false)) else (some false)) else (some false)))) else (some false))) else (none))) else (none))) else (none)) else (none)) else (none)))=some true:=H
 have A5:=qah.mk A50
 clear A50
 replace H:=Option.bind_eq_some_iff.mp H
 obtain⟨t170,A60,H⟩:=H
 replace H:(if 0≤(Int.tmod (wrap64 ((Int.tmod a1 6)+6)) 6) then (if (Int.tmod (wrap64 ((Int.tmod a1 6)+6)) 6)<6 then (if t170.size+(rdS [(⟨#[116,97,115,107,32,48,32,99,61,49,32,100,61,49,32,116,61,49,32,112,61,57,57]⟩:ByteArray),(⟨#[116,97,115,107,32,57,56]⟩:ByteArray),(⟨#[116,97,115,107,32,57,56,32,99,61,49,32,100,61,49,32,116,61,49,32,112,61,57,56,32,120]⟩:ByteArray),(⟨#[116,97,115,107,32,57,56,32,99,61,48,49,32,100,61,49,32,116,61,49,32,112,61,57,56]⟩:ByteArray),(⟨#[116,97,115,107,115,32,57,56,32,99,61,49,32,100,61,49,32,116,61,49,32,112,61,57,56]⟩:ByteArray),(⟨#[116,97,115,107,32,57,56,32,99,61,50,32,100,61,49,32,116,61,49,32,112,61,57,56]⟩:ByteArray)] (Int.tmod (wrap64 ((Int.tmod a1 6)+6)) 6)).size≤9223372036854775807 then ((parse_Parse.f (t170++(rdS [(⟨#[116,97,115,107,32,48,32,99,61,49,32,100,61,49,32,116,61,49,32,112,61,57,57]⟩:ByteArray),(⟨#[116,97,115,107,32,57,56]⟩:ByteArray),(⟨#[116,97,115,107,32,57,56,32,99,61,49,32,100,61,49,32,116,61,49,32,112,61,57,56,32,120]⟩:ByteArray),(⟨#[116,97,115,107,32,57,56,32,99,61,48,49,32,100,61,49,32,116,61,49,32,112,61,57,56]⟩:ByteArray),(⟨#[116,97,115,107,115,32,57,56,32,99,61,49,32,100,61,49,32,116,61,49,32,112,61,57,56]⟩:ByteArray),(⟨#[116,97,115,107,32,57,56,32,99,61,50,32,100,61,49,32,116,61,49,32,112,61,57,56]⟩:ByteArray)] (Int.tmod (wrap64 ((Int.tmod a1 6)+6)) 6)))).bind fun bt172=>(if (t170++(rdS [(⟨#[116,97,115,107,32,48,32,99,61,49,32,100,61,49,32,116,61,49,32,112,61,57,57]⟩:ByteArray),(⟨#[116,97,115,107,32,57,56]⟩:ByteArray),(⟨#[116,97,115,107,32,57,56,32,99,61,49,32,100,61,49,32,116,61,49,32,112,61,57,56,32,120]⟩:ByteArray),(⟨#[116,97,115,107,32,57,56,32,99,61,48,49,32,100,61,49,32,116,61,49,32,112,61,57,56]⟩:ByteArray),(⟨#[116,97,115,107,115,32,57,56,32,99,61,49,32,100,61,49,32,116,61,49,32,112,61,57,56]⟩:ByteArray),(⟨#[116,97,115,107,32,57,56,32,99,61,50,32,100,61,49,32,116,61,49,32,112,61,57,56]⟩:ByteArray)] (Int.tmod (wrap64 ((Int.tmod a1 6)+6)) 6))).size+1≤9223372036854775807 then ((ostinatolaw07_short.f a2 40).bind fun t180=>(if ((t170++(rdS [(⟨#[116,97,115,107,32,48,32,99,61,49,32,100,61,49,32,116,61,49,32,112,61,57,57]⟩:ByteArray),(⟨#[116,97,115,107,32,57,56]⟩:ByteArray),(⟨#[116,97,115,107,32,57,56,32,99,61,49,32,100,61,49,32,116,61,49,32,112,61,57,56,32,120]⟩:ByteArray),(⟨#[116,97,115,107,32,57,56,32,99,61,48,49,32,100,61,49,32,116,61,49,32,112,61,57,56]⟩:ByteArray),(⟨#[116,97,115,107,115,32,57,56,32,99,61,49,32,100,61,49,32,116,61,49,32,112,61,57,56]⟩:ByteArray),(⟨#[116,97,115,107,32,57,56,32,99,61,50,32,100,61,49,32,116,61,49,32,112,61,57,56]⟩:ByteArray)] (Int.tmod (wrap64 ((Int.tmod a1 6)+6)) 6)))++(⟨#[10]⟩:ByteArray)).size+t180.size≤9223372036854775807 then ((parse_Parse.f (((t170++(rdS [(⟨#[116,97,115,107,32,48,32,99,61,49,32,100,61,49,32,116,61,49,32,112,61,57,57]⟩:ByteArray),(⟨#[116,97,115,107,32,57,56]⟩:ByteArray),(⟨#[116,97,115,107,32,57,56,32,99,61,49,32,100,61,49,32,116,61,49,32,112,61,57,56,32,120]⟩:ByteArray),(⟨#[116,97,115,107,32,57,56,32,99,61,48,49,32,100,61,49,32,116,61,49,32,112,61,57,56]⟩:ByteArray),(⟨#[116,97,115,107,115,32,57,56,32,99,61,49,32,100,61,49,32,116,61,49,32,112,61,57,56]⟩:ByteArray),(⟨#[116,97,115,107,32,57,56,32,99,61,50,32,100,61,49,32,116,61,49,32,112,61,57,56]⟩:ByteArray)] (Int.tmod (wrap64 ((Int.tmod a1 6)+6)) 6)))++(⟨#[10]⟩:ByteArray))++t180)).bind fun bt181=>(if t163=true then (if t170.toList=([]:List UInt8) then (some false) else (if bt172.2.2.2.2=0 then (some false) else (if bt172.2.2.2.1 ≥ (t170.size:Int) then (if bt172.2.2.2.1≤((t170++(rdS [(⟨#[116,97,115,107,32,48,32,99,61,49,32,100,61,49,32,116,61,49,32,112,61,57,57]⟩:ByteArray),(⟨#[116,97,115,107,32,57,56]⟩:ByteArray),(⟨#[116,97,115,107,32,57,56,32,99,61,49,32,100,61,49,32,116,61,49,32,112,61,57,56,32,120]⟩:ByteArray),(⟨#[116,97,115,107,32,57,56,32,99,61,48,49,32,100,61,49,32,116,61,49,32,112,61,57,56]⟩:ByteArray),(⟨#[116,97,115,107,115,32,57,56,32,99,61,49,32,100,61,49,32,116,61,49,32,112,61,57,56]⟩:ByteArray),(⟨#[116,97,115,107,32,57,56,32,99,61,50,32,100,61,49,32,116,61,49,32,112,61,57,56]⟩:ByteArray)] (Int.tmod (wrap64 ((Int.tmod a1 6)+6)) 6))).size:Int) then (if bt181.2.2.2.1=bt172.2.2.2.1 then (some (bt181.2.2.2.2 == bt172.2.2.2.2)) else (some false)) else (some false)) else (some false)))) else (some false))) else (none))) else (none))) else (none)) else (none)) else (none))=some true:=H
 have A6:=qah.mk A60
 clear A60
 obtain⟨ji7,hji7⟩:∃ j_:Int,(Int.tmod (wrap64 ((Int.tmod a1 6)+6)) 6)=j_:=⟨_,rfl⟩
 replace H:(if 0≤(ji7) then (if (ji7)<6 then (if t170.size+(rdS [(⟨#[116,97,115,107,32,48,32,99,61,49,32,100,61,49,32,116,61,49,32,112,61,57,57]⟩:ByteArray),(⟨#[116,97,115,107,32,57,56]⟩:ByteArray),(⟨#[116,97,115,107,32,57,56,32,99,61,49,32,100,61,49,32,116,61,49,32,112,61,57,56,32,120]⟩:ByteArray),(⟨#[116,97,115,107,32,57,56,32,99,61,48,49,32,100,61,49,32,116,61,49,32,112,61,57,56]⟩:ByteArray),(⟨#[116,97,115,107,115,32,57,56,32,99,61,49,32,100,61,49,32,116,61,49,32,112,61,57,56]⟩:ByteArray),(⟨#[116,97,115,107,32,57,56,32,99,61,50,32,100,61,49,32,116,61,49,32,112,61,57,56]⟩:ByteArray)] (ji7)).size≤9223372036854775807 then ((parse_Parse.f (t170++(rdS [(⟨#[116,97,115,107,32,48,32,99,61,49,32,100,61,49,32,116,61,49,32,112,61,57,57]⟩:ByteArray),(⟨#[116,97,115,107,32,57,56]⟩:ByteArray),(⟨#[116,97,115,107,32,57,56,32,99,61,49,32,100,61,49,32,116,61,49,32,112,61,57,56,32,120]⟩:ByteArray),(⟨#[116,97,115,107,32,57,56,32,99,61,48,49,32,100,61,49,32,116,61,49,32,112,61,57,56]⟩:ByteArray),(⟨#[116,97,115,107,115,32,57,56,32,99,61,49,32,100,61,49,32,116,61,49,32,112,61,57,56]⟩:ByteArray),(⟨#[116,97,115,107,32,57,56,32,99,61,50,32,100,61,49,32,116,61,49,32,112,61,57,56]⟩:ByteArray)] (ji7)))).bind fun bt172=>(if (t170++(rdS [(⟨#[116,97,115,107,32,48,32,99,61,49,32,100,61,49,32,116,61,49,32,112,61,57,57]⟩:ByteArray),(⟨#[116,97,115,107,32,57,56]⟩:ByteArray),(⟨#[116,97,115,107,32,57,56,32,99,61,49,32,100,61,49,32,116,61,49,32,112,61,57,56,32,120]⟩:ByteArray),(⟨#[116,97,115,107,32,57,56,32,99,61,48,49,32,100,61,49,32,116,61,49,32,112,61,57,56]⟩:ByteArray),(⟨#[116,97,115,107,115,32,57,56,32,99,61,49,32,100,61,49,32,116,61,49,32,112,61,57,56]⟩:ByteArray),(⟨#[116,97,115,107,32,57,56,32,99,61,50,32,100,61,49,32,116,61,49,32,112,61,57,56]⟩:ByteArray)] (ji7))).size+1≤9223372036854775807 then ((ostinatolaw07_short.f a2 40).bind fun t180=>(if ((t170++(rdS [(⟨#[116,97,115,107,32,48,32,99,61,49,32,100,61,49,32,116,61,49,32,112,61,57,57]⟩:ByteArray),(⟨#[116,97,115,107,32,57,56]⟩:ByteArray),(⟨#[116,97,115,107,32,57,56,32,99,61,49,32,100,61,49,32,116,61,49,32,112,61,57,56,32,120]⟩:ByteArray),(⟨#[116,97,115,107,32,57,56,32,99,61,48,49,32,100,61,49,32,116,61,49,32,112,61,57,56]⟩:ByteArray),(⟨#[116,97,115,107,115,32,57,56,32,99,61,49,32,100,61,49,32,116,61,49,32,112,61,57,56]⟩:ByteArray),(⟨#[116,97,115,107,32,57,56,32,99,61,50,32,100,61,49,32,116,61,49,32,112,61,57,56]⟩:ByteArray)] (ji7)))++(⟨#[10]⟩:ByteArray)).size+t180.size≤9223372036854775807 then ((parse_Parse.f (((t170++(rdS [(⟨#[116,97,115,107,32,48,32,99,61,49,32,100,61,49,32,116,61,49,32,112,61,57,57]⟩:ByteArray),(⟨#[116,97,115,107,32,57,56]⟩:ByteArray),(⟨#[116,97,115,107,32,57,56,32,99,61,49,32,100,61,49,32,116,61,49,32,112,61,57,56,32,120]⟩:ByteArray),(⟨#[116,97,115,107,32,57,56,32,99,61,48,49,32,100,61,49,32,116,61,49,32,112,61,57,56]⟩:ByteArray),(⟨#[116,97,115,107,115,32,57,56,32,99,61,49,32,100,61,49,32,116,61,49,32,112,61,57,56]⟩:ByteArray),(⟨#[116,97,115,107,32,57,56,32,99,61,50,32,100,61,49,32,116,61,49,32,112,61,57,56]⟩:ByteArray)] (ji7)))++(⟨#[10]⟩:ByteArray))++t180)).bind fun bt181=>(if t163=true then (if t170.toList=([]:List UInt8) then (some false) else (if bt172.2.2.2.2=0 then (some false) else (if bt172.2.2.2.1 ≥ (t170.size:Int) then (if bt172.2.2.2.1≤((t170++(rdS [(⟨#[116,97,115,107,32,48,32,99,61,49,32,100,61,49,32,116,61,49,32,112,61,57,57]⟩:ByteArray),(⟨#[116,97,115,107,32,57,56]⟩:ByteArray),(⟨#[116,97,115,107,32,57,56,32,99,61,49,32,100,61,49,32,116,61,49,32,112,61,57,56,32,120]⟩:ByteArray),(⟨#[116,97,115,107,32,57,56,32,99,61,48,49,32,100,61,49,32,116,61,49,32,112,61,57,56]⟩:ByteArray),(⟨#[116,97,115,107,115,32,57,56,32,99,61,49,32,100,61,49,32,116,61,49,32,112,61,57,56]⟩:ByteArray),(⟨#[116,97,115,107,32,57,56,32,99,61,50,32,100,61,49,32,116,61,49,32,112,61,57,56]⟩:ByteArray)] (ji7))).size:Int) then (if bt181.2.2.2.1=bt172.2.2.2.1 then (some (bt181.2.2.2.2 == bt172.2.2.2.2)) else (some false)) else (some false)) else (some false)))) else (some false))) else (none))) else (none))) else (none)) else (none)) else (none))=some true:=by first|(rw [hji7] at H;exact H)|(simp only [hji7] at H ⊢;exact H)
 (try rw [hji7] at A4)
 (try rw [hji7] at A5)
 (try rw [hji7] at A6)
 by_cases c8:0≤(ji7)
 ·rw [if_pos c8] at H
  have c8b0:decide (0≤(ji7))=true:=decide_eq_true c8
  clear c8
  by_cases c9:(ji7)<6
  ·rw [if_pos c9] at H
   have c9b0:decide ((ji7)<6)=true:=decide_eq_true c9
   clear c9
   by_cases c10:t170.size+(rdS [(⟨#[116,97,115,107,32,48,32,99,61,49,32,100,61,49,32,116,61,49,32,112,61,57,57]⟩:ByteArray),(⟨#[116,97,115,107,32,57,56]⟩:ByteArray),(⟨#[116,97,115,107,32,57,56,32,99,61,49,32,100,61,49,32,116,61,49,32,112,61,57,56,32,120]⟩:ByteArray),(⟨#[116,97,115,107,32,57,56,32,99,61,48,49,32,100,61,49,32,116,61,49,32,112,61,57,56]⟩:ByteArray),(⟨#[116,97,115,107,115,32,57,56,32,99,61,49,32,100,61,49,32,116,61,49,32,112,61,57,56]⟩:ByteArray),(⟨#[116,97,115,107,32,57,56,32,99,61,50,32,100,61,49,32,116,61,49,32,112,61,57,56]⟩:ByteArray)] (ji7)).size≤9223372036854775807
   ·rw [if_pos c10] at H
    have c10b0:=eq_true c10
    have c10b1:decide (t170.size+(rdS [(⟨#[116,97,115,107,32,48,32,99,61,49,32,100,61,49,32,116,61,49,32,112,61,57,57]⟩:ByteArray),(⟨#[116,97,115,107,32,57,56]⟩:ByteArray),(⟨#[116,97,115,107,32,57,56,32,99,61,49,32,100,61,49,32,116,61,49,32,112,61,57,56,32,120]⟩:ByteArray),(⟨#[116,97,115,107,32,57,56,32,99,61,48,49,32,100,61,49,32,116,61,49,32,112,61,57,56]⟩:ByteArray),(⟨#[116,97,115,107,115,32,57,56,32,99,61,49,32,100,61,49,32,116,61,49,32,112,61,57,56]⟩:ByteArray),(⟨#[116,97,115,107,32,57,56,32,99,61,50,32,100,61,49,32,116,61,49,32,112,61,57,56]⟩:ByteArray)] (ji7)).size≤9223372036854775807)=true:=decide_eq_true c10
    try have c10b2:(9223372036854775807<t170.size+(rdS [(⟨#[116,97,115,107,32,48,32,99,61,49,32,100,61,49,32,116,61,49,32,112,61,57,57]⟩:ByteArray),(⟨#[116,97,115,107,32,57,56]⟩:ByteArray),(⟨#[116,97,115,107,32,57,56,32,99,61,49,32,100,61,49,32,116,61,49,32,112,61,57,56,32,120]⟩:ByteArray),(⟨#[116,97,115,107,32,57,56,32,99,61,48,49,32,100,61,49,32,116,61,49,32,112,61,57,56]⟩:ByteArray),(⟨#[116,97,115,107,115,32,57,56,32,99,61,49,32,100,61,49,32,116,61,49,32,112,61,57,56]⟩:ByteArray),(⟨#[116,97,115,107,32,57,56,32,99,61,50,32,100,61,49,32,116,61,49,32,112,61,57,56]⟩:ByteArray)] (ji7)).size)=False:=eq_false (Nat.not_lt.2 c10)
    replace H:=Option.bind_eq_some_iff.mp H
    obtain⟨⟨t172,t173,t174,t177,t178⟩,A110,H⟩:=H
    replace H:(if (t170++(rdS [(⟨#[116,97,115,107,32,48,32,99,61,49,32,100,61,49,32,116,61,49,32,112,61,57,57]⟩:ByteArray),(⟨#[116,97,115,107,32,57,56]⟩:ByteArray),(⟨#[116,97,115,107,32,57,56,32,99,61,49,32,100,61,49,32,116,61,49,32,112,61,57,56,32,120]⟩:ByteArray),(⟨#[116,97,115,107,32,57,56,32,99,61,48,49,32,100,61,49,32,116,61,49,32,112,61,57,56]⟩:ByteArray),(⟨#[116,97,115,107,115,32,57,56,32,99,61,49,32,100,61,49,32,116,61,49,32,112,61,57,56]⟩:ByteArray),(⟨#[116,97,115,107,32,57,56,32,99,61,50,32,100,61,49,32,116,61,49,32,112,61,57,56]⟩:ByteArray)] (ji7))).size+1≤9223372036854775807 then ((ostinatolaw07_short.f a2 40).bind fun t180=>(if ((t170++(rdS [(⟨#[116,97,115,107,32,48,32,99,61,49,32,100,61,49,32,116,61,49,32,112,61,57,57]⟩:ByteArray),(⟨#[116,97,115,107,32,57,56]⟩:ByteArray),(⟨#[116,97,115,107,32,57,56,32,99,61,49,32,100,61,49,32,116,61,49,32,112,61,57,56,32,120]⟩:ByteArray),(⟨#[116,97,115,107,32,57,56,32,99,61,48,49,32,100,61,49,32,116,61,49,32,112,61,57,56]⟩:ByteArray),(⟨#[116,97,115,107,115,32,57,56,32,99,61,49,32,100,61,49,32,116,61,49,32,112,61,57,56]⟩:ByteArray),(⟨#[116,97,115,107,32,57,56,32,99,61,50,32,100,61,49,32,116,61,49,32,112,61,57,56]⟩:ByteArray)] (ji7)))++(⟨#[10]⟩:ByteArray)).size+t180.size≤9223372036854775807 then ((parse_Parse.f (((t170++(rdS [(⟨#[116,97,115,107,32,48,32,99,61,49,32,100,61,49,32,116,61,49,32,112,61,57,57]⟩:ByteArray),(⟨#[116,97,115,107,32,57,56]⟩:ByteArray),(⟨#[116,97,115,107,32,57,56,32,99,61,49,32,100,61,49,32,116,61,49,32,112,61,57,56,32,120]⟩:ByteArray),(⟨#[116,97,115,107,32,57,56,32,99,61,48,49,32,100,61,49,32,116,61,49,32,112,61,57,56]⟩:ByteArray),(⟨#[116,97,115,107,115,32,57,56,32,99,61,49,32,100,61,49,32,116,61,49,32,112,61,57,56]⟩:ByteArray),(⟨#[116,97,115,107,32,57,56,32,99,61,50,32,100,61,49,32,116,61,49,32,112,61,57,56]⟩:ByteArray)] (ji7)))++(⟨#[10]⟩:ByteArray))++t180)).bind fun bt181=>(if t163=true then (if t170.toList=([]:List UInt8) then (some false) else (if t178=0 then (some false) else (if t177 ≥ (t170.size:Int) then (if t177≤((t170++(rdS [(⟨#[116,97,115,107,32,48,32,99,61,49,32,100,61,49,32,116,61,49,32,112,61,57,57]⟩:ByteArray),(⟨#[116,97,115,107,32,57,56]⟩:ByteArray),(⟨#[116,97,115,107,32,57,56,32,99,61,49,32,100,61,49,32,116,61,49,32,112,61,57,56,32,120]⟩:ByteArray),(⟨#[116,97,115,107,32,57,56,32,99,61,48,49,32,100,61,49,32,116,61,49,32,112,61,57,56]⟩:ByteArray),(⟨#[116,97,115,107,115,32,57,56,32,99,61,49,32,100,61,49,32,116,61,49,32,112,61,57,56]⟩:ByteArray),(⟨#[116,97,115,107,32,57,56,32,99,61,50,32,100,61,49,32,116,61,49,32,112,61,57,56]⟩:ByteArray)] (ji7))).size:Int) then (if bt181.2.2.2.1=t177 then (some (bt181.2.2.2.2 == t178)) else (some false)) else (some false)) else (some false)))) else (some false))) else (none))) else (none))=some true:=H
    have A11:=qah.mk A110
    clear A110
    by_cases c12:(t170++(rdS [(⟨#[116,97,115,107,32,48,32,99,61,49,32,100,61,49,32,116,61,49,32,112,61,57,57]⟩:ByteArray),(⟨#[116,97,115,107,32,57,56]⟩:ByteArray),(⟨#[116,97,115,107,32,57,56,32,99,61,49,32,100,61,49,32,116,61,49,32,112,61,57,56,32,120]⟩:ByteArray),(⟨#[116,97,115,107,32,57,56,32,99,61,48,49,32,100,61,49,32,116,61,49,32,112,61,57,56]⟩:ByteArray),(⟨#[116,97,115,107,115,32,57,56,32,99,61,49,32,100,61,49,32,116,61,49,32,112,61,57,56]⟩:ByteArray),(⟨#[116,97,115,107,32,57,56,32,99,61,50,32,100,61,49,32,116,61,49,32,112,61,57,56]⟩:ByteArray)] (ji7))).size+1≤9223372036854775807
    ·rw [if_pos c12] at H
     have c12b0:=eq_true c12
     have c12b1:decide ((t170++(rdS [(⟨#[116,97,115,107,32,48,32,99,61,49,32,100,61,49,32,116,61,49,32,112,61,57,57]⟩:ByteArray),(⟨#[116,97,115,107,32,57,56]⟩:ByteArray),(⟨#[116,97,115,107,32,57,56,32,99,61,49,32,100,61,49,32,116,61,49,32,112,61,57,56,32,120]⟩:ByteArray),(⟨#[116,97,115,107,32,57,56,32,99,61,48,49,32,100,61,49,32,116,61,49,32,112,61,57,56]⟩:ByteArray),(⟨#[116,97,115,107,115,32,57,56,32,99,61,49,32,100,61,49,32,116,61,49,32,112,61,57,56]⟩:ByteArray),(⟨#[116,97,115,107,32,57,56,32,99,61,50,32,100,61,49,32,116,61,49,32,112,61,57,56]⟩:ByteArray)] (ji7))).size+1≤9223372036854775807)=true:=decide_eq_true c12
     try have c12b2:(9223372036854775807<(t170++(rdS [(⟨#[116,97,115,107,32,48,32,99,61,49,32,100,61,49,32,116,61,49,32,112,61,57,57]⟩:ByteArray),(⟨#[116,97,115,107,32,57,56]⟩:ByteArray),(⟨#[116,97,115,107,32,57,56,32,99,61,49,32,100,61,49,32,116,61,49,32,112,61,57,56,32,120]⟩:ByteArray),(⟨#[116,97,115,107,32,57,56,32,99,61,48,49,32,100,61,49,32,116,61,49,32,112,61,57,56]⟩:ByteArray),(⟨#[116,97,115,107,115,32,57,56,32,99,61,49,32,100,61,49,32,116,61,49,32,112,61,57,56]⟩:ByteArray),(⟨#[116,97,115,107,32,57,56,32,99,61,50,32,100,61,49,32,116,61,49,32,112,61,57,56]⟩:ByteArray)] (ji7))).size+1)=False:=eq_false (Nat.not_lt.2 c12)
     try have c12b4:(9223372036854775807<t170.size+(rdS [(⟨#[116,97,115,107,32,48,32,99,61,49,32,100,61,49,32,116,61,49,32,112,61,57,57]⟩:ByteArray),(⟨#[116,97,115,107,32,57,56]⟩:ByteArray),(⟨#[116,97,115,107,32,57,56,32,99,61,49,32,100,61,49,32,116,61,49,32,112,61,57,56,32,120]⟩:ByteArray),(⟨#[116,97,115,107,32,57,56,32,99,61,48,49,32,100,61,49,32,116,61,49,32,112,61,57,56]⟩:ByteArray),(⟨#[116,97,115,107,115,32,57,56,32,99,61,49,32,100,61,49,32,116,61,49,32,112,61,57,56]⟩:ByteArray),(⟨#[116,97,115,107,32,57,56,32,99,61,50,32,100,61,49,32,116,61,49,32,112,61,57,56]⟩:ByteArray)] (ji7)).size+1)=False:=eq_false (Nat.not_lt.2 (by have e:=c12;simp only [ByteArray.size_append,show (⟨#[116,97,115,107,115,32,57,56,32,99,61,49,32,100,61,49,32,116,61,49,32,112,61,57,56]⟩:ByteArray).size=25 from rfl,show (⟨#[116,97,115,107,32,57,56,32,99,61,48,49,32,100,61,49,32,116,61,49,32,112,61,57,56]⟩:ByteArray).size=25 from rfl,show (⟨#[116,97,115,107,32,57,56,32,99,61,49,32,100,61,49,32,116,61,49,32,112,61,57,56,32,120]⟩:ByteArray).size=26 from rfl,show (⟨#[116,97,115,107,32,57,56,32,99,61,50,32,100,61,49,32,116,61,49,32,112,61,57,56]⟩:ByteArray).size=24 from rfl,show (⟨#[116,97,115,107,32,57,56]⟩:ByteArray).size=7 from rfl] at e;omega))
     replace H:=Option.bind_eq_some_iff.mp H
     obtain⟨t180,A130,H⟩:=H
     replace H:(if ((t170++(rdS [(⟨#[116,97,115,107,32,48,32,99,61,49,32,100,61,49,32,116,61,49,32,112,61,57,57]⟩:ByteArray),(⟨#[116,97,115,107,32,57,56]⟩:ByteArray),(⟨#[116,97,115,107,32,57,56,32,99,61,49,32,100,61,49,32,116,61,49,32,112,61,57,56,32,120]⟩:ByteArray),(⟨#[116,97,115,107,32,57,56,32,99,61,48,49,32,100,61,49,32,116,61,49,32,112,61,57,56]⟩:ByteArray),(⟨#[116,97,115,107,115,32,57,56,32,99,61,49,32,100,61,49,32,116,61,49,32,112,61,57,56]⟩:ByteArray),(⟨#[116,97,115,107,32,57,56,32,99,61,50,32,100,61,49,32,116,61,49,32,112,61,57,56]⟩:ByteArray)] (ji7)))++(⟨#[10]⟩:ByteArray)).size+t180.size≤9223372036854775807 then ((parse_Parse.f (((t170++(rdS [(⟨#[116,97,115,107,32,48,32,99,61,49,32,100,61,49,32,116,61,49,32,112,61,57,57]⟩:ByteArray),(⟨#[116,97,115,107,32,57,56]⟩:ByteArray),(⟨#[116,97,115,107,32,57,56,32,99,61,49,32,100,61,49,32,116,61,49,32,112,61,57,56,32,120]⟩:ByteArray),(⟨#[116,97,115,107,32,57,56,32,99,61,48,49,32,100,61,49,32,116,61,49,32,112,61,57,56]⟩:ByteArray),(⟨#[116,97,115,107,115,32,57,56,32,99,61,49,32,100,61,49,32,116,61,49,32,112,61,57,56]⟩:ByteArray),(⟨#[116,97,115,107,32,57,56,32,99,61,50,32,100,61,49,32,116,61,49,32,112,61,57,56]⟩:ByteArray)] (ji7)))++(⟨#[10]⟩:ByteArray))++t180)).bind fun bt181=>(if t163=true then (if t170.toList=([]:List UInt8) then (some false) else (if t178=0 then (some false) else (if t177 ≥ (t170.size:Int) then (if t177≤((t170++(rdS [(⟨#[116,97,115,107,32,48,32,99,61,49,32,100,61,49,32,116,61,49,32,112,61,57,57]⟩:ByteArray),(⟨#[116,97,115,107,32,57,56]⟩:ByteArray),(⟨#[116,97,115,107,32,57,56,32,99,61,49,32,100,61,49,32,116,61,49,32,112,61,57,56,32,120]⟩:ByteArray),(⟨#[116,97,115,107,32,57,56,32,99,61,48,49,32,100,61,49,32,116,61,49,32,112,61,57,56]⟩:ByteArray),(⟨#[116,97,115,107,115,32,57,56,32,99,61,49,32,100,61,49,32,116,61,49,32,112,61,57,56]⟩:ByteArray),(⟨#[116,97,115,107,32,57,56,32,99,61,50,32,100,61,49,32,116,61,49,32,112,61,57,56]⟩:ByteArray)] (ji7))).size:Int) then (if bt181.2.2.2.1=t177 then (some (bt181.2.2.2.2 == t178)) else (some false)) else (some false)) else (some false)))) else (some false))) else (none))=some true:=H
     have A13:=qah.mk A130
     clear A130
     by_cases c14:((t170++(rdS [(⟨#[116,97,115,107,32,48,32,99,61,49,32,100,61,49,32,116,61,49,32,112,61,57,57]⟩:ByteArray),(⟨#[116,97,115,107,32,57,56]⟩:ByteArray),(⟨#[116,97,115,107,32,57,56,32,99,61,49,32,100,61,49,32,116,61,49,32,112,61,57,56,32,120]⟩:ByteArray),(⟨#[116,97,115,107,32,57,56,32,99,61,48,49,32,100,61,49,32,116,61,49,32,112,61,57,56]⟩:ByteArray),(⟨#[116,97,115,107,115,32,57,56,32,99,61,49,32,100,61,49,32,116,61,49,32,112,61,57,56]⟩:ByteArray),(⟨#[116,97,115,107,32,57,56,32,99,61,50,32,100,61,49,32,116,61,49,32,112,61,57,56]⟩:ByteArray)] (ji7)))++(⟨#[10]⟩:ByteArray)).size+t180.size≤9223372036854775807
     ·rw [if_pos c14] at H
      have c14b0:=eq_true c14
      have c14b1:decide (((t170++(rdS [(⟨#[116,97,115,107,32,48,32,99,61,49,32,100,61,49,32,116,61,49,32,112,61,57,57]⟩:ByteArray),(⟨#[116,97,115,107,32,57,56]⟩:ByteArray),(⟨#[116,97,115,107,32,57,56,32,99,61,49,32,100,61,49,32,116,61,49,32,112,61,57,56,32,120]⟩:ByteArray),(⟨#[116,97,115,107,32,57,56,32,99,61,48,49,32,100,61,49,32,116,61,49,32,112,61,57,56]⟩:ByteArray),(⟨#[116,97,115,107,115,32,57,56,32,99,61,49,32,100,61,49,32,116,61,49,32,112,61,57,56]⟩:ByteArray),(⟨#[116,97,115,107,32,57,56,32,99,61,50,32,100,61,49,32,116,61,49,32,112,61,57,56]⟩:ByteArray)] (ji7)))++(⟨#[10]⟩:ByteArray)).size+t180.size≤9223372036854775807)=true:=decide_eq_true c14
      try have c14b2:(9223372036854775807<((t170++(rdS [(⟨#[116,97,115,107,32,48,32,99,61,49,32,100,61,49,32,116,61,49,32,112,61,57,57]⟩:ByteArray),(⟨#[116,97,115,107,32,57,56]⟩:ByteArray),(⟨#[116,97,115,107,32,57,56,32,99,61,49,32,100,61,49,32,116,61,49,32,112,61,57,56,32,120]⟩:ByteArray),(⟨#[116,97,115,107,32,57,56,32,99,61,48,49,32,100,61,49,32,116,61,49,32,112,61,57,56]⟩:ByteArray),(⟨#[116,97,115,107,115,32,57,56,32,99,61,49,32,100,61,49,32,116,61,49,32,112,61,57,56]⟩:ByteArray),(⟨#[116,97,115,107,32,57,56,32,99,61,50,32,100,61,49,32,116,61,49,32,112,61,57,56]⟩:ByteArray)] (ji7)))++(⟨#[10]⟩:ByteArray)).size+t180.size)=False:=eq_false (Nat.not_lt.2 c14)
      try have c14b4:(9223372036854775807<t170.size+(rdS [(⟨#[116,97,115,107,32,48,32,99,61,49,32,100,61,49,32,116,61,49,32,112,61,57,57]⟩:ByteArray),(⟨#[116,97,115,107,32,57,56]⟩:ByteArray),(⟨#[116,97,115,107,32,57,56,32,99,61,49,32,100,61,49,32,116,61,49,32,112,61,57,56,32,120]⟩:ByteArray),(⟨#[116,97,115,107,32,57,56,32,99,61,48,49,32,100,61,49,32,116,61,49,32,112,61,57,56]⟩:ByteArray),(⟨#[116,97,115,107,115,32,57,56,32,99,61,49,32,100,61,49,32,116,61,49,32,112,61,57,56]⟩:ByteArray),(⟨#[116,97,115,107,32,57,56,32,99,61,50,32,100,61,49,32,116,61,49,32,112,61,57,56]⟩:ByteArray)] (ji7)).size+1+t180.size)=False:=eq_false (Nat.not_lt.2 (by have e:=c14;simp only [ByteArray.size_append,show (⟨#[10]⟩:ByteArray).size=1 from rfl,show (⟨#[116,97,115,107,115,32,57,56,32,99,61,49,32,100,61,49,32,116,61,49,32,112,61,57,56]⟩:ByteArray).size=25 from rfl,show (⟨#[116,97,115,107,32,57,56,32,99,61,48,49,32,100,61,49,32,116,61,49,32,112,61,57,56]⟩:ByteArray).size=25 from rfl,show (⟨#[116,97,115,107,32,57,56,32,99,61,49,32,100,61,49,32,116,61,49,32,112,61,57,56,32,120]⟩:ByteArray).size=26 from rfl,show (⟨#[116,97,115,107,32,57,56,32,99,61,50,32,100,61,49,32,116,61,49,32,112,61,57,56]⟩:ByteArray).size=24 from rfl,show (⟨#[116,97,115,107,32,57,56]⟩:ByteArray).size=7 from rfl] at e;omega))
      replace H:=Option.bind_eq_some_iff.mp H
      obtain⟨⟨t181,t182,t183,t186,t187⟩,A150,H⟩:=H
      replace H:(if t163=true then (if t170.toList=([]:List UInt8) then (some false) else (if t178=0 then (some false) else (if t177 ≥ (t170.size:Int) then (if t177≤((t170++(rdS [(⟨#[116,97,115,107,32,48,32,99,61,49,32,100,61,49,32,116,61,49,32,112,61,57,57]⟩:ByteArray),(⟨#[116,97,115,107,32,57,56]⟩:ByteArray),(⟨#[116,97,115,107,32,57,56,32,99,61,49,32,100,61,49,32,116,61,49,32,112,61,57,56,32,120]⟩:ByteArray),(⟨#[116,97,115,107,32,57,56,32,99,61,48,49,32,100,61,49,32,116,61,49,32,112,61,57,56]⟩:ByteArray),(⟨#[116,97,115,107,115,32,57,56,32,99,61,49,32,100,61,49,32,116,61,49,32,112,61,57,56]⟩:ByteArray),(⟨#[116,97,115,107,32,57,56,32,99,61,50,32,100,61,49,32,116,61,49,32,112,61,57,56]⟩:ByteArray)] (ji7))).size:Int) then (if t186=t177 then (some (t187 == t178)) else (some false)) else (some false)) else (some false)))) else (some false))=some true:=H
      have A15:=qah.mk A150
      clear A150
      by_cases c16:t163=true
      ·subst c16
       have H1:(if t170.toList=([]:List UInt8) then (some false) else (if t178=0 then (some false) else (if t177 ≥ (t170.size:Int) then (if t177≤((t170++(rdS [(⟨#[116,97,115,107,32,48,32,99,61,49,32,100,61,49,32,116,61,49,32,112,61,57,57]⟩:ByteArray),(⟨#[116,97,115,107,32,57,56]⟩:ByteArray),(⟨#[116,97,115,107,32,57,56,32,99,61,49,32,100,61,49,32,116,61,49,32,112,61,57,56,32,120]⟩:ByteArray),(⟨#[116,97,115,107,32,57,56,32,99,61,48,49,32,100,61,49,32,116,61,49,32,112,61,57,56]⟩:ByteArray),(⟨#[116,97,115,107,115,32,57,56,32,99,61,49,32,100,61,49,32,116,61,49,32,112,61,57,56]⟩:ByteArray),(⟨#[116,97,115,107,32,57,56,32,99,61,50,32,100,61,49,32,116,61,49,32,112,61,57,56]⟩:ByteArray)] (ji7))).size:Int) then (if t186=t177 then (some (t187 == t178)) else (some false)) else (some false)) else (some false))))=some true:=by rw [if_pos rfl] at H;exact H
       clear H
       have H:=H1
       clear H1
       by_cases c17:t170.toList=([]:List UInt8)
       ·rw [if_pos c17] at H
        have c17b0:(t170.toList == ([]:List UInt8))=true:=beq_iff_eq.mpr c17
        have c17b1:(t170.toList != ([]:List UInt8))=false:=bne_eq_false_iff_eq.mpr c17
        clear c17
        exact absurd (Option.some.inj H) (by decide)
       ·rw [if_neg c17] at H
        have c17b0:(t170.toList == ([]:List UInt8))=false:=beq_eq_false_iff_ne.mpr c17
        have c17b1:(t170.toList != ([]:List UInt8))=true:=bne_iff_ne.mpr c17
        by_cases c42:t178=0
        ·rw [if_pos c42] at H
         have c42b0:(t178 == 0)=true:=beq_iff_eq.mpr c42
         have c42b1:(t178 != 0)=false:=bne_eq_false_iff_eq.mpr c42
         clear c42
         exact absurd (Option.some.inj H) (by decide)
        ·rw [if_neg c42] at H
         have c42b0:(t178 == 0)=false:=beq_eq_false_iff_ne.mpr c42
         have c42b1:(t178 != 0)=true:=bne_iff_ne.mpr c42
         by_cases c67:t177 ≥ (t170.size:Int)
         ·rw [if_pos c67] at H
          have c67b0:decide ((t170.size:Int)≤t177)=true:=decide_eq_true c67
          clear c67
          by_cases c68:t177≤((t170++(rdS [(⟨#[116,97,115,107,32,48,32,99,61,49,32,100,61,49,32,116,61,49,32,112,61,57,57]⟩:ByteArray),(⟨#[116,97,115,107,32,57,56]⟩:ByteArray),(⟨#[116,97,115,107,32,57,56,32,99,61,49,32,100,61,49,32,116,61,49,32,112,61,57,56,32,120]⟩:ByteArray),(⟨#[116,97,115,107,32,57,56,32,99,61,48,49,32,100,61,49,32,116,61,49,32,112,61,57,56]⟩:ByteArray),(⟨#[116,97,115,107,115,32,57,56,32,99,61,49,32,100,61,49,32,116,61,49,32,112,61,57,56]⟩:ByteArray),(⟨#[116,97,115,107,32,57,56,32,99,61,50,32,100,61,49,32,116,61,49,32,112,61,57,56]⟩:ByteArray)] (ji7))).size:Int)
          ·rw [if_pos c68] at H
           have c68b0:decide (t177≤((t170++(rdS [(⟨#[116,97,115,107,32,48,32,99,61,49,32,100,61,49,32,116,61,49,32,112,61,57,57]⟩:ByteArray),(⟨#[116,97,115,107,32,57,56]⟩:ByteArray),(⟨#[116,97,115,107,32,57,56,32,99,61,49,32,100,61,49,32,116,61,49,32,112,61,57,56,32,120]⟩:ByteArray),(⟨#[116,97,115,107,32,57,56,32,99,61,48,49,32,100,61,49,32,116,61,49,32,112,61,57,56]⟩:ByteArray),(⟨#[116,97,115,107,115,32,57,56,32,99,61,49,32,100,61,49,32,116,61,49,32,112,61,57,56]⟩:ByteArray),(⟨#[116,97,115,107,32,57,56,32,99,61,50,32,100,61,49,32,116,61,49,32,112,61,57,56]⟩:ByteArray)] (ji7))).size:Int))=true:=decide_eq_true c68
           try have c68b4:decide (t177≤(t170.size:Int)+((rdS [(⟨#[116,97,115,107,32,48,32,99,61,49,32,100,61,49,32,116,61,49,32,112,61,57,57]⟩:ByteArray),(⟨#[116,97,115,107,32,57,56]⟩:ByteArray),(⟨#[116,97,115,107,32,57,56,32,99,61,49,32,100,61,49,32,116,61,49,32,112,61,57,56,32,120]⟩:ByteArray),(⟨#[116,97,115,107,32,57,56,32,99,61,48,49,32,100,61,49,32,116,61,49,32,112,61,57,56]⟩:ByteArray),(⟨#[116,97,115,107,115,32,57,56,32,99,61,49,32,100,61,49,32,116,61,49,32,112,61,57,56]⟩:ByteArray),(⟨#[116,97,115,107,32,57,56,32,99,61,50,32,100,61,49,32,116,61,49,32,112,61,57,56]⟩:ByteArray)] (ji7)).size:Int))=true:=decide_eq_true (by have e:=c68;simp only [ByteArray.size_append,show (⟨#[116,97,115,107,115,32,57,56,32,99,61,49,32,100,61,49,32,116,61,49,32,112,61,57,56]⟩:ByteArray).size=25 from rfl,show (⟨#[116,97,115,107,32,57,56,32,99,61,48,49,32,100,61,49,32,116,61,49,32,112,61,57,56]⟩:ByteArray).size=25 from rfl,show (⟨#[116,97,115,107,32,57,56,32,99,61,49,32,100,61,49,32,116,61,49,32,112,61,57,56,32,120]⟩:ByteArray).size=26 from rfl,show (⟨#[116,97,115,107,32,57,56,32,99,61,50,32,100,61,49,32,116,61,49,32,112,61,57,56]⟩:ByteArray).size=24 from rfl,show (⟨#[116,97,115,107,32,57,56]⟩:ByteArray).size=7 from rfl] at e;omega)
           clear c68
           by_cases c69:t186=t177
           ·rw [if_pos c69] at H
            have c69b0:(t186 == t177)=true:=beq_iff_eq.mpr c69
            have c69b1:(t186 != t177)=false:=bne_eq_false_iff_eq.mpr c69
            clear c69
            rw [← Option.some.inj H]
            clear H
            go_enter Tryd.func6,Tryd.ntmps6
            go_wp2_with (first|((with_reducible refine qaM (N:=3) rfl ?_);(try (refine gate_guard (by rfl) ?_;dsimp only));refine qaL ?hg (N:=3) ?hd (cs:=#[.int .i64 a0_0,.int .i64 a0_1,.slice A0_2 l0_2.length c0_2]) (t:=24) ?hr ?_;(case hd=>rfl);(case hg=>rfl);(case hr=>first|(go_simp;done)|(go_simp;rfl));intro gb162 hg w70 hbox hb;have n0_:=qah.mk (qat (by repeat (first|(with_reducible first|exact HB.out|apply qai|apply qag|apply qaj)|exact HB.out)) hb);have n1_:=qah.mk (hbox);have n2_:=qah.mk ((by rw [hg];exact (qam (by repeat (first|(with_reducible first|exact HB.out|apply qai|apply qag|apply qaj)|exact HB.out))):w.heap.size≤gb162));have n3_:=qah.mk ((by rw [hg];exact (qam (by repeat (first|(with_reducible first|exact HB.out|apply qai|apply qag|apply qaj)|exact HB.out))):w.heap.size≤gb162));clear HB;have HB:=n0_;have BK162:=n1_;have GW162:=n2_;have GE162:=n3_;clear n0_ n1_ n2_ n3_;clear hb hbox hg)|((with_reducible refine qaI (f:=8) rfl ?_);refine goesL_ (some 17) rfl rfl Tryd.func8 (by kernel_rfl) rfl #[] rfl (by (try simp only [List.map_toArray,List.map_cons,List.map_nil]);first|done|rfl|(simp only [List.length_drop,List.length_take];rfl)) ?_;(with_reducible refine (ostinatolaw07_awake.calls  true _ A4.out (Tabs.below HT.out (by repeat (first|(with_reducible first|exact HB.out|apply qai|apply qag|apply qaj|refine qaf ?_ GE162.out)|exact HB.out)))).mono ?_);rintro e w71 ⟨rfl,hb⟩;refine⟨_,rfl,?_⟩;have n0_:=qah.mk (qap (g:=gb162) (o:=.cells #[.int .i64 a0_0,.int .i64 a0_1,.slice A0_2 l0_2.length c0_2] 24 (0,0)) (by (with_reducible repeat (first|refine qab ?_ _|refine qac ?_|refine qaa ?_ _));exact BK162.out) hb);have n1_:=qah.mk (qat (by repeat (first|(with_reducible first|exact HB.out|apply qai|apply qag|apply qaj|refine qaf ?_ GE162.out)|exact HB.out)) hb);clear BK162;clear HB;have BK162:=n0_;have HB:=n1_;clear n0_ n1_;(try clear hb);(try clear hb2);(try clear hk);(try clear hi))|((with_reducible refine qaM (N:=8) rfl ?_);(try (refine gate_guard (by rfl) ?_;dsimp only));refine qaL ?hg (N:=8) ?hd (cs:=#[.string (⟨#[]⟩:ByteArray),.string (⟨#[]⟩:ByteArray),.string (⟨#[]⟩:ByteArray),.string (⟨#[]⟩:ByteArray),.string (⟨#[]⟩:ByteArray),.string (⟨#[]⟩:ByteArray)]) (t:=46) ?hr ?_;(case hd=>rfl);(case hg=>rfl);(case hr=>first|(go_simp;done)|(go_simp;rfl));intro gb164 hg w72 hbox hb;have n0_:=qah.mk (qap (g:=gb162) (o:=.cells #[.int .i64 a0_0,.int .i64 a0_1,.slice A0_2 l0_2.length c0_2] 24 (0,0)) (by (with_reducible repeat (first|refine qab ?_ _|refine qac ?_|refine qaa ?_ _));exact BK162.out) hb);have n1_:=qah.mk (qat (by repeat (first|(with_reducible first|exact HB.out|apply qai|apply qag|apply qaj|refine qaf ?_ GE162.out)|exact HB.out)) hb);have n2_:=qah.mk (hbox);have n3_:=qah.mk ((by rw [hg];exact (qam (by repeat (first|(with_reducible first|exact HB.out|apply qai|apply qag|apply qaj|refine qaf ?_ GE162.out)|exact HB.out))):w.heap.size≤gb164));have n4_:=qah.mk ((by rw [hg];exact (qam (by repeat (first|(with_reducible first|exact HB.out|apply qai|apply qag|apply qaj|refine qaf ?_ GE162.out)|exact HB.out))):w.heap.size≤gb164));have n5_:=qah.mk ((by rw [hg];exact Nat.ne_of_lt (qaw (g:=gb162) (o:=.cells #[.int .i64 a0_0,.int .i64 a0_1,.slice A0_2 l0_2.length c0_2] 24 (0,0)) (by (with_reducible repeat (first|refine qab ?_ _|refine qac ?_|refine qaa ?_ _));exact BK162.out)):gb162≠gb164));have n6_:=qah.mk ((by rw [hg];exact Nat.ne_of_gt (qaw (g:=gb162) (o:=.cells #[.int .i64 a0_0,.int .i64 a0_1,.slice A0_2 l0_2.length c0_2] 24 (0,0)) (by (with_reducible repeat (first|refine qab ?_ _|refine qac ?_|refine qaa ?_ _));exact BK162.out)):gb164≠gb162));clear BK162;clear HB;have BK162:=n0_;have HB:=n1_;have BK164:=n2_;have GW164:=n3_;have GE164:=n4_;have NB162_164:=n5_;have NB164_162:=n6_;clear n0_ n1_ n2_ n3_ n4_ n5_ n6_;clear hb hbox hg;have hnb73:=NB164_162.out;have hnc73:=NB162_164.out;have hcz74_0:w72.cell? ⟨gb164,0,none⟩=some (.string (⟨#[]⟩:ByteArray)):=(qad BK164.out 0).trans rfl;have hcz74_1:w72.cell? ⟨gb164,1,none⟩=some (.string (⟨#[]⟩:ByteArray)):=(qad BK164.out 1).trans rfl;have hcz74_2:w72.cell? ⟨gb164,2,none⟩=some (.string (⟨#[]⟩:ByteArray)):=(qad BK164.out 2).trans rfl;have hcz74_3:w72.cell? ⟨gb164,3,none⟩=some (.string (⟨#[]⟩:ByteArray)):=(qad BK164.out 3).trans rfl;have hcz74_4:w72.cell? ⟨gb164,4,none⟩=some (.string (⟨#[]⟩:ByteArray)):=(qad BK164.out 4).trans rfl;have hcz74_5:w72.cell? ⟨gb164,5,none⟩=some (.string (⟨#[]⟩:ByteArray)):=(qad BK164.out 5).trans rfl;have hfz74_0:=qae BK164.out 0;have hfz74_1:=qae BK164.out 1;have hfz74_2:=qae BK164.out 2;have hfz74_3:=qae BK164.out 3;have hfz74_4:=qae BK164.out 4;have hfz74_5:=qae BK164.out 5)|((with_reducible refine gate_store (t:=46) (p:=8) rfl ?_);refine store_event (t:=46) (p:=8) (v:=?vo_w75) (w1:=((((((w72.setCell ⟨gb164,0,none⟩ (.string (⟨#[116,97,115,107,32,48,32,99,61,49,32,100,61,49,32,116,61,49,32,112,61,57,57]⟩:ByteArray))).setCell ⟨gb164,1,none⟩ (.string (⟨#[116,97,115,107,32,57,56]⟩:ByteArray))).setCell ⟨gb164,2,none⟩ (.string (⟨#[116,97,115,107,32,57,56,32,99,61,49,32,100,61,49,32,116,61,49,32,112,61,57,56,32,120]⟩:ByteArray))).setCell ⟨gb164,3,none⟩ (.string (⟨#[116,97,115,107,32,57,56,32,99,61,48,49,32,100,61,49,32,116,61,49,32,112,61,57,56]⟩:ByteArray))).setCell ⟨gb164,4,none⟩ (.string (⟨#[116,97,115,107,115,32,57,56,32,99,61,49,32,100,61,49,32,116,61,49,32,112,61,57,56]⟩:ByteArray))).setCell ⟨gb164,5,none⟩ (.string (⟨#[116,97,115,107,32,57,56,32,99,61,50,32,100,61,49,32,116,61,49,32,112,61,57,56]⟩:ByteArray)))) ?hg ?ho ?hn ?hr ?_;(case ho=>rfl);(case hg=>rfl);(case hn=>rfl);(case hr=>first|(go_simp;done)|(go_simp;rfl));intro w75 hw;have n0_:qah (w75.heap[gb162]? = some (.cells #[.int .i64 a0_0,.int .i64 a0_1,.slice A0_2 l0_2.length c0_2] 24 (0,0))):=⟨(by rw [hw];exact (by (with_reducible repeat (first|refine qab ?_ _|refine qac ?_|refine qaa ?_ _));refine qan ?_ NB162_164.out _;(with_reducible repeat (first|refine qab ?_ _|refine qac ?_|refine qaa ?_ _));refine qan ?_ NB162_164.out _;(with_reducible repeat (first|refine qab ?_ _|refine qac ?_|refine qaa ?_ _));refine qan ?_ NB162_164.out _;(with_reducible repeat (first|refine qab ?_ _|refine qac ?_|refine qaa ?_ _));refine qan ?_ NB162_164.out _;(with_reducible repeat (first|refine qab ?_ _|refine qac ?_|refine qaa ?_ _));refine qan ?_ NB162_164.out _;(with_reducible repeat (first|refine qab ?_ _|refine qac ?_|refine qaa ?_ _));refine qan ?_ NB162_164.out _;(with_reducible repeat (first|refine qab ?_ _|refine qac ?_|refine qaa ?_ _));exact BK162.out))⟩;have n1_:qah (w75.heap[gb164]? = some (.cells #[.string (⟨#[116,97,115,107,32,48,32,99,61,49,32,100,61,49,32,116,61,49,32,112,61,57,57]⟩:ByteArray),.string (⟨#[116,97,115,107,32,57,56]⟩:ByteArray),.string (⟨#[116,97,115,107,32,57,56,32,99,61,49,32,100,61,49,32,116,61,49,32,112,61,57,56,32,120]⟩:ByteArray),.string (⟨#[116,97,115,107,32,57,56,32,99,61,48,49,32,100,61,49,32,116,61,49,32,112,61,57,56]⟩:ByteArray),.string (⟨#[116,97,115,107,115,32,57,56,32,99,61,49,32,100,61,49,32,116,61,49,32,112,61,57,56]⟩:ByteArray),.string (⟨#[116,97,115,107,32,57,56,32,99,61,50,32,100,61,49,32,116,61,49,32,112,61,57,56]⟩:ByteArray)] 46 (0,0))):=⟨(by rw [hw];exact (by (with_reducible repeat (first|refine qab ?_ _|refine qac ?_|refine qaa ?_ _));refine qao (cs:=#[.string (⟨#[116,97,115,107,32,48,32,99,61,49,32,100,61,49,32,116,61,49,32,112,61,57,57]⟩:ByteArray),.string (⟨#[116,97,115,107,32,57,56]⟩:ByteArray),.string (⟨#[116,97,115,107,32,57,56,32,99,61,49,32,100,61,49,32,116,61,49,32,112,61,57,56,32,120]⟩:ByteArray),.string (⟨#[116,97,115,107,32,57,56,32,99,61,48,49,32,100,61,49,32,116,61,49,32,112,61,57,56]⟩:ByteArray),.string (⟨#[116,97,115,107,115,32,57,56,32,99,61,49,32,100,61,49,32,116,61,49,32,112,61,57,56]⟩:ByteArray),.string (⟨#[]⟩:ByteArray)]) ?_ 5 _ rfl;(with_reducible repeat (first|refine qab ?_ _|refine qac ?_|refine qaa ?_ _));refine qao (cs:=#[.string (⟨#[116,97,115,107,32,48,32,99,61,49,32,100,61,49,32,116,61,49,32,112,61,57,57]⟩:ByteArray),.string (⟨#[116,97,115,107,32,57,56]⟩:ByteArray),.string (⟨#[116,97,115,107,32,57,56,32,99,61,49,32,100,61,49,32,116,61,49,32,112,61,57,56,32,120]⟩:ByteArray),.string (⟨#[116,97,115,107,32,57,56,32,99,61,48,49,32,100,61,49,32,116,61,49,32,112,61,57,56]⟩:ByteArray),.string (⟨#[]⟩:ByteArray),.string (⟨#[]⟩:ByteArray)]) ?_ 4 _ rfl;(with_reducible repeat (first|refine qab ?_ _|refine qac ?_|refine qaa ?_ _));refine qao (cs:=#[.string (⟨#[116,97,115,107,32,48,32,99,61,49,32,100,61,49,32,116,61,49,32,112,61,57,57]⟩:ByteArray),.string (⟨#[116,97,115,107,32,57,56]⟩:ByteArray),.string (⟨#[116,97,115,107,32,57,56,32,99,61,49,32,100,61,49,32,116,61,49,32,112,61,57,56,32,120]⟩:ByteArray),.string (⟨#[]⟩:ByteArray),.string (⟨#[]⟩:ByteArray),.string (⟨#[]⟩:ByteArray)]) ?_ 3 _ rfl;(with_reducible repeat (first|refine qab ?_ _|refine qac ?_|refine qaa ?_ _));refine qao (cs:=#[.string (⟨#[116,97,115,107,32,48,32,99,61,49,32,100,61,49,32,116,61,49,32,112,61,57,57]⟩:ByteArray),.string (⟨#[116,97,115,107,32,57,56]⟩:ByteArray),.string (⟨#[]⟩:ByteArray),.string (⟨#[]⟩:ByteArray),.string (⟨#[]⟩:ByteArray),.string (⟨#[]⟩:ByteArray)]) ?_ 2 _ rfl;(with_reducible repeat (first|refine qab ?_ _|refine qac ?_|refine qaa ?_ _));refine qao (cs:=#[.string (⟨#[116,97,115,107,32,48,32,99,61,49,32,100,61,49,32,116,61,49,32,112,61,57,57]⟩:ByteArray),.string (⟨#[]⟩:ByteArray),.string (⟨#[]⟩:ByteArray),.string (⟨#[]⟩:ByteArray),.string (⟨#[]⟩:ByteArray),.string (⟨#[]⟩:ByteArray)]) ?_ 1 _ rfl;(with_reducible repeat (first|refine qab ?_ _|refine qac ?_|refine qaa ?_ _));refine qao (cs:=#[.string (⟨#[]⟩:ByteArray),.string (⟨#[]⟩:ByteArray),.string (⟨#[]⟩:ByteArray),.string (⟨#[]⟩:ByteArray),.string (⟨#[]⟩:ByteArray),.string (⟨#[]⟩:ByteArray)]) ?_ 0 _ rfl;(with_reducible repeat (first|refine qab ?_ _|refine qac ?_|refine qaa ?_ _));exact BK164.out))⟩;have n2_:qah (Below w.heap.size w w75):=⟨(by rw [hw];exact (by repeat (first|(with_reducible first|exact HB.out|apply qai|apply qag|apply qaj|refine qaf ?_ GE162.out|refine qaf ?_ GE164.out)|exact HB.out)))⟩;clear hw;clear BK162;clear BK164;clear HB;have BK162:=n0_;have BK164:=n1_;have HB:=n2_;clear n0_ n1_ n2_;have hcz76_0:w75.cell? ⟨gb162,0,none⟩=some (.int .i64 a0_0):=(qad BK162.out 0).trans rfl;have hcz76_1:w75.cell? ⟨gb162,1,none⟩=some (.int .i64 a0_1):=(qad BK162.out 1).trans rfl;have hcz76_2:w75.cell? ⟨gb162,2,none⟩=some (.slice A0_2 l0_2.length c0_2):=(qad BK162.out 2).trans rfl;have hfz76_0:=qae BK162.out 0;have hfz76_1:=qae BK162.out 1;have hfz76_2:=qae BK162.out 2)|((with_reducible refine qaI (f:=11) rfl ?_);refine goesL_ (some 20) rfl rfl Tryd.func11 (by kernel_rfl) rfl #[.agg #[.int .i64 a0_0,.int .i64 a0_1,.slice A0_2 l0_2.length c0_2]] rfl (by (try simp only [List.map_toArray,List.map_cons,List.map_nil]);first|done|rfl|(simp only [List.length_drop,List.length_take];rfl)) ?_;(with_reducible refine (ostinatolaw07_Sys_made.calls k a0_0 a0_1 (fun k_=>k_<w.heap.size) _ _ l0_2 t165 t166 t167 _ ?side1 A5.out).mono ?_);(case side1=>exact Kd.V_mk HC0_2.out (Kd.F_below (Kd.C_F k60_heap HR0_2.out) (by repeat (first|(with_reducible first|exact HB.out|apply qai|apply qag|apply qaj|refine qaf ?_ GE162.out|refine qaf ?_ GE164.out)|exact HB.out))));rintro e w77 ⟨v168,rfl,ho0,hb⟩;refine⟨_,rfl,?_⟩;have n0_:=qah.mk (Kd.N_lower (Kd.N_mono (ok':=fun k_=>k_≠gb162∧k_≠gb164) ho0 (fun k_ hk_=>⟨Or.elim hk_ (fun hs_=>fun e_=>Nat.not_le.2 hs_ (by rw [e_];exact GW162.out)) (fun hn_=>(Kd.freshB (g:=gb162) (o:=.cells #[.int .i64 a0_0,.int .i64 a0_1,.slice A0_2 l0_2.length c0_2] 24 (0,0)) (by (with_reducible repeat (first|refine qab ?_ _|refine qac ?_|refine qaa ?_ _));exact BK162.out) k_ hn_)),Or.elim hk_ (fun hs_=>fun e_=>Nat.not_le.2 hs_ (by rw [e_];exact GW164.out)) (fun hn_=>(Kd.freshB (g:=gb164) (o:=.cells #[.string (⟨#[116,97,115,107,32,48,32,99,61,49,32,100,61,49,32,116,61,49,32,112,61,57,57]⟩:ByteArray),.string (⟨#[116,97,115,107,32,57,56]⟩:ByteArray),.string (⟨#[116,97,115,107,32,57,56,32,99,61,49,32,100,61,49,32,116,61,49,32,112,61,57,56,32,120]⟩:ByteArray),.string (⟨#[116,97,115,107,32,57,56,32,99,61,48,49,32,100,61,49,32,116,61,49,32,112,61,57,56]⟩:ByteArray),.string (⟨#[116,97,115,107,115,32,57,56,32,99,61,49,32,100,61,49,32,116,61,49,32,112,61,57,56]⟩:ByteArray),.string (⟨#[116,97,115,107,32,57,56,32,99,61,50,32,100,61,49,32,116,61,49,32,112,61,57,56]⟩:ByteArray)] 46 (0,0)) (by (with_reducible repeat (first|refine qab ?_ _|refine qac ?_|refine qaa ?_ _));exact BK164.out) k_ hn_))⟩)) (qam (by repeat (first|(with_reducible first|exact HB.out|apply qai|apply qag|apply qaj|refine qaf ?_ GE162.out|refine qaf ?_ GE164.out)|exact HB.out))));have n1_:=qah.mk (qap (g:=gb162) (o:=.cells #[.int .i64 a0_0,.int .i64 a0_1,.slice A0_2 l0_2.length c0_2] 24 (0,0)) (by (with_reducible repeat (first|refine qab ?_ _|refine qac ?_|refine qaa ?_ _));exact BK162.out) hb);have n2_:=qah.mk (qap (g:=gb164) (o:=.cells #[.string (⟨#[116,97,115,107,32,48,32,99,61,49,32,100,61,49,32,116,61,49,32,112,61,57,57]⟩:ByteArray),.string (⟨#[116,97,115,107,32,57,56]⟩:ByteArray),.string (⟨#[116,97,115,107,32,57,56,32,99,61,49,32,100,61,49,32,116,61,49,32,112,61,57,56,32,120]⟩:ByteArray),.string (⟨#[116,97,115,107,32,57,56,32,99,61,48,49,32,100,61,49,32,116,61,49,32,112,61,57,56]⟩:ByteArray),.string (⟨#[116,97,115,107,115,32,57,56,32,99,61,49,32,100,61,49,32,116,61,49,32,112,61,57,56]⟩:ByteArray),.string (⟨#[116,97,115,107,32,57,56,32,99,61,50,32,100,61,49,32,116,61,49,32,112,61,57,56]⟩:ByteArray)] 46 (0,0)) (by (with_reducible repeat (first|refine qab ?_ _|refine qac ?_|refine qaa ?_ _));exact BK164.out) hb);have n3_:=qah.mk (qat (by repeat (first|(with_reducible first|exact HB.out|apply qai|apply qag|apply qaj|refine qaf ?_ GE162.out|refine qaf ?_ GE164.out)|exact HB.out)) hb);clear BK162;clear BK164;clear HB;have HO169:=n0_;have BK162:=n1_;have BK164:=n2_;have HB:=n3_;clear n0_ n1_ n2_ n3_;(try clear hb);(try clear hb2);(try clear hk);(try clear hi);(try clear ho0);obtain⟨Ao78,co78,eo78⟩:=Kd.N_slice HO169.out;subst eo78)|((with_reducible refine qaI (f:=15) rfl ?_);refine goesL_ (some 21) rfl rfl Tryd.func15 (by kernel_rfl) rfl #[.agg #[.int .i64 t165,.int .i64 t166,.slice Ao78 t167.length co78]] rfl (by (try simp only [List.map_toArray,List.map_cons,List.map_nil]);first|done|rfl|(simp only [List.length_drop,List.length_take];rfl)) ?_;(with_reducible refine (parse_Print.calls t165 t166 _ _ t167 t170 _ ?side1 ?side2 A6.out (Tabs.below HT.out (by repeat (first|(with_reducible first|exact HB.out|apply qai|apply qag|apply qaj|refine qaf ?_ GE162.out|refine qaf ?_ GE164.out)|exact HB.out)))).mono ?_);(case side1=>repeat (first|exact (Kd.N_reads' HO169.out).2.2|(with_reducible refine Kd.C_alloc ?_ _)|(with_reducible refine Kd.C_drewN ?_ _)|(with_reducible refine Kd.C_drew ?_)));(case side2=>exact (Kd.N_reads' HO169.out).2.1);rintro e w79 ⟨rfl,hb⟩;refine⟨_,rfl,?_⟩;have n0_:=qah.mk (Kd.N_below (by (with_reducible repeat (first|apply Kd.N_alloc|apply Kd.N_drewN|apply Kd.N_drew));exact HO169.out) hb);have n1_:=qah.mk (qap (g:=gb162) (o:=.cells #[.int .i64 a0_0,.int .i64 a0_1,.slice A0_2 l0_2.length c0_2] 24 (0,0)) (by (with_reducible repeat (first|refine qab ?_ _|refine qac ?_|refine qaa ?_ _));exact BK162.out) hb);have n2_:=qah.mk (qap (g:=gb164) (o:=.cells #[.string (⟨#[116,97,115,107,32,48,32,99,61,49,32,100,61,49,32,116,61,49,32,112,61,57,57]⟩:ByteArray),.string (⟨#[116,97,115,107,32,57,56]⟩:ByteArray),.string (⟨#[116,97,115,107,32,57,56,32,99,61,49,32,100,61,49,32,116,61,49,32,112,61,57,56,32,120]⟩:ByteArray),.string (⟨#[116,97,115,107,32,57,56,32,99,61,48,49,32,100,61,49,32,116,61,49,32,112,61,57,56]⟩:ByteArray),.string (⟨#[116,97,115,107,115,32,57,56,32,99,61,49,32,100,61,49,32,116,61,49,32,112,61,57,56]⟩:ByteArray),.string (⟨#[116,97,115,107,32,57,56,32,99,61,50,32,100,61,49,32,116,61,49,32,112,61,57,56]⟩:ByteArray)] 46 (0,0)) (by (with_reducible repeat (first|refine qab ?_ _|refine qac ?_|refine qaa ?_ _));exact BK164.out) hb);have n3_:=qah.mk (qat (by repeat (first|(with_reducible first|exact HB.out|apply qai|apply qag|apply qaj|refine qaf ?_ GE162.out|refine qaf ?_ GE164.out)|exact HB.out)) hb);clear HO169;clear BK162;clear BK164;clear HB;have HO169:=n0_;have BK162:=n1_;have BK164:=n2_;have HB:=n3_;clear n0_ n1_ n2_ n3_;(try clear hb);(try clear hb2);(try clear hk);(try clear hi);have hcz80_0:w79.cell? ⟨gb164,0,none⟩=some (.string (⟨#[116,97,115,107,32,48,32,99,61,49,32,100,61,49,32,116,61,49,32,112,61,57,57]⟩:ByteArray)):=(qad BK164.out 0).trans rfl;have hcz80_1:w79.cell? ⟨gb164,1,none⟩=some (.string (⟨#[116,97,115,107,32,57,56]⟩:ByteArray)):=(qad BK164.out 1).trans rfl;have hcz80_2:w79.cell? ⟨gb164,2,none⟩=some (.string (⟨#[116,97,115,107,32,57,56,32,99,61,49,32,100,61,49,32,116,61,49,32,112,61,57,56,32,120]⟩:ByteArray)):=(qad BK164.out 2).trans rfl;have hcz80_3:w79.cell? ⟨gb164,3,none⟩=some (.string (⟨#[116,97,115,107,32,57,56,32,99,61,48,49,32,100,61,49,32,116,61,49,32,112,61,57,56]⟩:ByteArray)):=(qad BK164.out 3).trans rfl;have hcz80_4:w79.cell? ⟨gb164,4,none⟩=some (.string (⟨#[116,97,115,107,115,32,57,56,32,99,61,49,32,100,61,49,32,116,61,49,32,112,61,57,56]⟩:ByteArray)):=(qad BK164.out 4).trans rfl;have hcz80_5:w79.cell? ⟨gb164,5,none⟩=some (.string (⟨#[116,97,115,107,32,57,56,32,99,61,50,32,100,61,49,32,116,61,49,32,112,61,57,56]⟩:ByteArray)):=(qad BK164.out 5).trans rfl;have hfz80_0:=qae BK164.out 0;have hfz80_1:=qae BK164.out 1;have hfz80_2:=qae BK164.out 2;have hfz80_3:=qae BK164.out 3;have hfz80_4:=qae BK164.out 4;have hfz80_5:=qae BK164.out 5;have p171:0≤(ji7:Int):=of_decide_eq_true (by first|(with_reducible assumption)|assumption);have q171:ji7<(6:Int):=of_decide_eq_true (by first|(with_reducible assumption)|assumption);have hx171:w79.cell? ⟨gb164,(ji7).toNat,none⟩=some (.string (rdS [(⟨#[116,97,115,107,32,48,32,99,61,49,32,100,61,49,32,116,61,49,32,112,61,57,57]⟩:ByteArray),(⟨#[116,97,115,107,32,57,56]⟩:ByteArray),(⟨#[116,97,115,107,32,57,56,32,99,61,49,32,100,61,49,32,116,61,49,32,112,61,57,56,32,120]⟩:ByteArray),(⟨#[116,97,115,107,32,57,56,32,99,61,48,49,32,100,61,49,32,116,61,49,32,112,61,57,56]⟩:ByteArray),(⟨#[116,97,115,107,115,32,57,56,32,99,61,49,32,100,61,49,32,116,61,49,32,112,61,57,56]⟩:ByteArray),(⟨#[116,97,115,107,32,57,56,32,99,61,50,32,100,61,49,32,116,61,49,32,112,61,57,56]⟩:ByteArray)] ji7)):=arrReadS (xs:=[(⟨#[116,97,115,107,32,48,32,99,61,49,32,100,61,49,32,116,61,49,32,112,61,57,57]⟩:ByteArray),(⟨#[116,97,115,107,32,57,56]⟩:ByteArray),(⟨#[116,97,115,107,32,57,56,32,99,61,49,32,100,61,49,32,116,61,49,32,112,61,57,56,32,120]⟩:ByteArray),(⟨#[116,97,115,107,32,57,56,32,99,61,48,49,32,100,61,49,32,116,61,49,32,112,61,57,56]⟩:ByteArray),(⟨#[116,97,115,107,115,32,57,56,32,99,61,49,32,100,61,49,32,116,61,49,32,112,61,57,56]⟩:ByteArray),(⟨#[116,97,115,107,32,57,56,32,99,61,50,32,100,61,49,32,116,61,49,32,112,61,57,56]⟩:ByteArray)]) BK164.out ji7 p171 q171;replace p171:=eq_true p171;replace q171:=eq_true q171)|((with_reducible refine qaI (f:=12) rfl ?_);refine goesL_ (some 32) rfl rfl Tryd.func12 (by kernel_rfl) rfl #[.string (t170++(rdS [(⟨#[116,97,115,107,32,48,32,99,61,49,32,100,61,49,32,116,61,49,32,112,61,57,57]⟩:ByteArray),(⟨#[116,97,115,107,32,57,56]⟩:ByteArray),(⟨#[116,97,115,107,32,57,56,32,99,61,49,32,100,61,49,32,116,61,49,32,112,61,57,56,32,120]⟩:ByteArray),(⟨#[116,97,115,107,32,57,56,32,99,61,48,49,32,100,61,49,32,116,61,49,32,112,61,57,56]⟩:ByteArray),(⟨#[116,97,115,107,115,32,57,56,32,99,61,49,32,100,61,49,32,116,61,49,32,112,61,57,56]⟩:ByteArray),(⟨#[116,97,115,107,32,57,56,32,99,61,50,32,100,61,49,32,116,61,49,32,112,61,57,56]⟩:ByteArray)] (ji7)))] rfl (by (try simp only [List.map_toArray,List.map_cons,List.map_nil]);first|done|(simp only [hji7];rfl)|rfl|(simp only [List.length_drop,List.length_take];rfl)) ?_;(with_reducible refine (parse_Parse.calls (t170++(rdS [(⟨#[116,97,115,107,32,48,32,99,61,49,32,100,61,49,32,116,61,49,32,112,61,57,57]⟩:ByteArray),(⟨#[116,97,115,107,32,57,56]⟩:ByteArray),(⟨#[116,97,115,107,32,57,56,32,99,61,49,32,100,61,49,32,116,61,49,32,112,61,57,56,32,120]⟩:ByteArray),(⟨#[116,97,115,107,32,57,56,32,99,61,48,49,32,100,61,49,32,116,61,49,32,112,61,57,56]⟩:ByteArray),(⟨#[116,97,115,107,115,32,57,56,32,99,61,49,32,100,61,49,32,116,61,49,32,112,61,57,56]⟩:ByteArray),(⟨#[116,97,115,107,32,57,56,32,99,61,50,32,100,61,49,32,116,61,49,32,112,61,57,56]⟩:ByteArray)] (ji7))) t172 t173 t174 t177 t178 _ A11.out (Tabs.below HT.out (by repeat (first|(with_reducible first|exact HB.out|apply qai|apply qag|apply qaj|refine qaf ?_ GE162.out|refine qaf ?_ GE164.out)|exact HB.out)))).mono ?_);rintro e w81 ⟨v175,rfl,ho0,hb⟩;refine⟨_,rfl,?_⟩;have n0_:=qah.mk (Kd.N_elder' (by (with_reducible repeat (first|apply Kd.N_alloc|apply Kd.N_drewN|apply Kd.N_drew));exact HO169.out) (Kd.S_base ho0) hb);have n1_:=qah.mk (Kd.N_lower (Kd.N_mono (ok':=fun k_=>some k_≠(.slice Ao78 t167.length co78:Value).ownBlock∧k_≠gb162∧k_≠gb164) (Kd.S_N (Kd.S_bound ho0)) (fun k_ hk_=>⟨(Kd.fresh' (Kd.N_lt (by (with_reducible repeat (first|apply Kd.N_alloc|apply Kd.N_drewN|apply Kd.N_drew));exact HO169.out)) k_ hk_.2.1),(Kd.freshB (g:=gb162) (o:=.cells #[.int .i64 a0_0,.int .i64 a0_1,.slice A0_2 l0_2.length c0_2] 24 (0,0)) (by (with_reducible repeat (first|refine qab ?_ _|refine qac ?_|refine qaa ?_ _));exact BK162.out) k_ hk_.2.1),(Kd.freshB (g:=gb164) (o:=.cells #[.string (⟨#[116,97,115,107,32,48,32,99,61,49,32,100,61,49,32,116,61,49,32,112,61,57,57]⟩:ByteArray),.string (⟨#[116,97,115,107,32,57,56]⟩:ByteArray),.string (⟨#[116,97,115,107,32,57,56,32,99,61,49,32,100,61,49,32,116,61,49,32,112,61,57,56,32,120]⟩:ByteArray),.string (⟨#[116,97,115,107,32,57,56,32,99,61,48,49,32,100,61,49,32,116,61,49,32,112,61,57,56]⟩:ByteArray),.string (⟨#[116,97,115,107,115,32,57,56,32,99,61,49,32,100,61,49,32,116,61,49,32,112,61,57,56]⟩:ByteArray),.string (⟨#[116,97,115,107,32,57,56,32,99,61,50,32,100,61,49,32,116,61,49,32,112,61,57,56]⟩:ByteArray)] 46 (0,0)) (by (with_reducible repeat (first|refine qab ?_ _|refine qac ?_|refine qaa ?_ _));exact BK164.out) k_ hk_.2.1)⟩)) (qam (by repeat (first|(with_reducible first|exact HB.out|apply qai|apply qag|apply qaj|refine qaf ?_ GE162.out|refine qaf ?_ GE164.out)|exact HB.out))));have n2_:=qah.mk (qap (g:=gb162) (o:=.cells #[.int .i64 a0_0,.int .i64 a0_1,.slice A0_2 l0_2.length c0_2] 24 (0,0)) (by (with_reducible repeat (first|refine qab ?_ _|refine qac ?_|refine qaa ?_ _));exact BK162.out) hb);have n3_:=qah.mk (qap (g:=gb164) (o:=.cells #[.string (⟨#[116,97,115,107,32,48,32,99,61,49,32,100,61,49,32,116,61,49,32,112,61,57,57]⟩:ByteArray),.string (⟨#[116,97,115,107,32,57,56]⟩:ByteArray),.string (⟨#[116,97,115,107,32,57,56,32,99,61,49,32,100,61,49,32,116,61,49,32,112,61,57,56,32,120]⟩:ByteArray),.string (⟨#[116,97,115,107,32,57,56,32,99,61,48,49,32,100,61,49,32,116,61,49,32,112,61,57,56]⟩:ByteArray),.string (⟨#[116,97,115,107,115,32,57,56,32,99,61,49,32,100,61,49,32,116,61,49,32,112,61,57,56]⟩:ByteArray),.string (⟨#[116,97,115,107,32,57,56,32,99,61,50,32,100,61,49,32,116,61,49,32,112,61,57,56]⟩:ByteArray)] 46 (0,0)) (by (with_reducible repeat (first|refine qab ?_ _|refine qac ?_|refine qaa ?_ _));exact BK164.out) hb);have n4_:=qah.mk (qat (by repeat (first|(with_reducible first|exact HB.out|apply qai|apply qag|apply qaj|refine qaf ?_ GE162.out|refine qaf ?_ GE164.out)|exact HB.out)) hb);clear HO169;clear BK162;clear BK164;clear HB;have HO169:=n0_;have HO176:=n1_;have BK162:=n2_;have BK164:=n3_;have HB:=n4_;clear n0_ n1_ n2_ n3_ n4_;(try clear hb);(try clear hb2);(try clear hk);(try clear hi);(try clear ho0))|((with_reducible refine qaM (N:=11) rfl ?_);(try (refine gate_guard (by rfl) ?_;dsimp only));refine qaL ?hg (N:=11) ?hd (cs:=#[.int .i64 0,.int .i64 0,.slice none 0 0]) (t:=32) ?hr ?_;(case hd=>rfl);(case hg=>rfl);(case hr=>first|(go_simp;done)|(go_simp;rfl));intro gb179 hg w82 hbox hb;have n0_:=qah.mk (Kd.N_below (Kd.N_elderB (by (with_reducible repeat (first|apply Kd.N_alloc|apply Kd.N_drewN|apply Kd.N_drew));exact HO169.out) gb179 (Nat.le_of_eq hg.symm)) hb);have n1_:=qah.mk (Kd.N_below (Kd.N_elderB (by (with_reducible repeat (first|apply Kd.N_alloc|apply Kd.N_drewN|apply Kd.N_drew));exact HO176.out) gb179 (Nat.le_of_eq hg.symm)) hb);have n2_:=qah.mk (qap (g:=gb162) (o:=.cells #[.int .i64 a0_0,.int .i64 a0_1,.slice A0_2 l0_2.length c0_2] 24 (0,0)) (by (with_reducible repeat (first|refine qab ?_ _|refine qac ?_|refine qaa ?_ _));exact BK162.out) hb);have n3_:=qah.mk (qap (g:=gb164) (o:=.cells #[.string (⟨#[116,97,115,107,32,48,32,99,61,49,32,100,61,49,32,116,61,49,32,112,61,57,57]⟩:ByteArray),.string (⟨#[116,97,115,107,32,57,56]⟩:ByteArray),.string (⟨#[116,97,115,107,32,57,56,32,99,61,49,32,100,61,49,32,116,61,49,32,112,61,57,56,32,120]⟩:ByteArray),.string (⟨#[116,97,115,107,32,57,56,32,99,61,48,49,32,100,61,49,32,116,61,49,32,112,61,57,56]⟩:ByteArray),.string (⟨#[116,97,115,107,115,32,57,56,32,99,61,49,32,100,61,49,32,116,61,49,32,112,61,57,56]⟩:ByteArray),.string (⟨#[116,97,115,107,32,57,56,32,99,61,50,32,100,61,49,32,116,61,49,32,112,61,57,56]⟩:ByteArray)] 46 (0,0)) (by (with_reducible repeat (first|refine qab ?_ _|refine qac ?_|refine qaa ?_ _));exact BK164.out) hb);have n4_:=qah.mk (qat (by repeat (first|(with_reducible first|exact HB.out|apply qai|apply qag|apply qaj|refine qaf ?_ GE162.out|refine qaf ?_ GE164.out)|exact HB.out)) hb);have n5_:=qah.mk (hbox);have n6_:=qah.mk ((by rw [hg];exact (qam (by repeat (first|(with_reducible first|exact HB.out|apply qai|apply qag|apply qaj|refine qaf ?_ GE162.out|refine qaf ?_ GE164.out)|exact HB.out))):w.heap.size≤gb179));have n7_:=qah.mk ((by rw [hg];exact (qam (by repeat (first|(with_reducible first|exact HB.out|apply qai|apply qag|apply qaj|refine qaf ?_ GE162.out|refine qaf ?_ GE164.out)|exact HB.out))):w.heap.size≤gb179));have n8_:=qah.mk ((by rw [hg];exact Nat.ne_of_lt (qaw (g:=gb162) (o:=.cells #[.int .i64 a0_0,.int .i64 a0_1,.slice A0_2 l0_2.length c0_2] 24 (0,0)) (by (with_reducible repeat (first|refine qab ?_ _|refine qac ?_|refine qaa ?_ _));exact BK162.out)):gb162≠gb179));have n9_:=qah.mk ((by rw [hg];exact Nat.ne_of_gt (qaw (g:=gb162) (o:=.cells #[.int .i64 a0_0,.int .i64 a0_1,.slice A0_2 l0_2.length c0_2] 24 (0,0)) (by (with_reducible repeat (first|refine qab ?_ _|refine qac ?_|refine qaa ?_ _));exact BK162.out)):gb179≠gb162));have n10_:=qah.mk ((by rw [hg];exact Nat.ne_of_lt (qaw (g:=gb164) (o:=.cells #[.string (⟨#[116,97,115,107,32,48,32,99,61,49,32,100,61,49,32,116,61,49,32,112,61,57,57]⟩:ByteArray),.string (⟨#[116,97,115,107,32,57,56]⟩:ByteArray),.string (⟨#[116,97,115,107,32,57,56,32,99,61,49,32,100,61,49,32,116,61,49,32,112,61,57,56,32,120]⟩:ByteArray),.string (⟨#[116,97,115,107,32,57,56,32,99,61,48,49,32,100,61,49,32,116,61,49,32,112,61,57,56]⟩:ByteArray),.string (⟨#[116,97,115,107,115,32,57,56,32,99,61,49,32,100,61,49,32,116,61,49,32,112,61,57,56]⟩:ByteArray),.string (⟨#[116,97,115,107,32,57,56,32,99,61,50,32,100,61,49,32,116,61,49,32,112,61,57,56]⟩:ByteArray)] 46 (0,0)) (by (with_reducible repeat (first|refine qab ?_ _|refine qac ?_|refine qaa ?_ _));exact BK164.out)):gb164≠gb179));have n11_:=qah.mk ((by rw [hg];exact Nat.ne_of_gt (qaw (g:=gb164) (o:=.cells #[.string (⟨#[116,97,115,107,32,48,32,99,61,49,32,100,61,49,32,116,61,49,32,112,61,57,57]⟩:ByteArray),.string (⟨#[116,97,115,107,32,57,56]⟩:ByteArray),.string (⟨#[116,97,115,107,32,57,56,32,99,61,49,32,100,61,49,32,116,61,49,32,112,61,57,56,32,120]⟩:ByteArray),.string (⟨#[116,97,115,107,32,57,56,32,99,61,48,49,32,100,61,49,32,116,61,49,32,112,61,57,56]⟩:ByteArray),.string (⟨#[116,97,115,107,115,32,57,56,32,99,61,49,32,100,61,49,32,116,61,49,32,112,61,57,56]⟩:ByteArray),.string (⟨#[116,97,115,107,32,57,56,32,99,61,50,32,100,61,49,32,116,61,49,32,112,61,57,56]⟩:ByteArray)] 46 (0,0)) (by (with_reducible repeat (first|refine qab ?_ _|refine qac ?_|refine qaa ?_ _));exact BK164.out)):gb179≠gb164));clear HO169;clear HO176;clear BK162;clear BK164;clear HB;have HO169:=n0_;have HO176:=n1_;have BK162:=n2_;have BK164:=n3_;have HB:=n4_;have BK179:=n5_;have GW179:=n6_;have GE179:=n7_;have NB162_179:=n8_;have NB179_162:=n9_;have NB164_179:=n10_;have NB179_164:=n11_;clear n0_ n1_ n2_ n3_ n4_ n5_ n6_ n7_ n8_ n9_ n10_ n11_;clear hb hbox hg;have hnb83:=NB179_162.out;have hnc83:=NB162_179.out;have hnb84:=NB179_164.out;have hnc84:=NB164_179.out;have hcz85_0:w82.cell? ⟨gb179,0,none⟩=some (.int .i64 0):=(qad BK179.out 0).trans rfl;have hcz85_1:w82.cell? ⟨gb179,1,none⟩=some (.int .i64 0):=(qad BK179.out 1).trans rfl;have hcz85_2:w82.cell? ⟨gb179,2,none⟩=some (.slice none 0 0):=(qad BK179.out 2).trans rfl;have hfz85_0:=qae BK179.out 0;have hfz85_1:=qae BK179.out 1;have hfz85_2:=qae BK179.out 2;obtain⟨Ao86,co86,eo86⟩:=Kd.N_slice HO176.out;subst eo86)|((with_reducible refine qaI (f:=9) rfl ?_);refine goesL_ (some 40) rfl rfl Tryd.func9 (by kernel_rfl) rfl #[.string a2,.int .i64 40] rfl (by (try simp only [List.map_toArray,List.map_cons,List.map_nil]);first|done|rfl|(simp only [List.length_drop,List.length_take];rfl)) ?_;(with_reducible refine (ostinatolaw07_short.calls a2 40 t180 _ A13.out).mono ?_);rintro e w' ⟨rfl,⟨nd,rfl⟩⟩;refine⟨_,rfl,?_⟩)|((with_reducible refine qaI (f:=12) rfl ?_);refine goesL_ (some 42) rfl rfl Tryd.func12 (by kernel_rfl) rfl #[.string (((t170++(rdS [(⟨#[116,97,115,107,32,48,32,99,61,49,32,100,61,49,32,116,61,49,32,112,61,57,57]⟩:ByteArray),(⟨#[116,97,115,107,32,57,56]⟩:ByteArray),(⟨#[116,97,115,107,32,57,56,32,99,61,49,32,100,61,49,32,116,61,49,32,112,61,57,56,32,120]⟩:ByteArray),(⟨#[116,97,115,107,32,57,56,32,99,61,48,49,32,100,61,49,32,116,61,49,32,112,61,57,56]⟩:ByteArray),(⟨#[116,97,115,107,115,32,57,56,32,99,61,49,32,100,61,49,32,116,61,49,32,112,61,57,56]⟩:ByteArray),(⟨#[116,97,115,107,32,57,56,32,99,61,50,32,100,61,49,32,116,61,49,32,112,61,57,56]⟩:ByteArray)] (ji7)))++(⟨#[10]⟩:ByteArray))++t180)] rfl (by (try simp only [List.map_toArray,List.map_cons,List.map_nil]);first|done|(simp only [hji7];rfl)|rfl|(simp only [List.length_drop,List.length_take];rfl)) ?_;(with_reducible refine (parse_Parse.calls (((t170++(rdS [(⟨#[116,97,115,107,32,48,32,99,61,49,32,100,61,49,32,116,61,49,32,112,61,57,57]⟩:ByteArray),(⟨#[116,97,115,107,32,57,56]⟩:ByteArray),(⟨#[116,97,115,107,32,57,56,32,99,61,49,32,100,61,49,32,116,61,49,32,112,61,57,56,32,120]⟩:ByteArray),(⟨#[116,97,115,107,32,57,56,32,99,61,48,49,32,100,61,49,32,116,61,49,32,112,61,57,56]⟩:ByteArray),(⟨#[116,97,115,107,115,32,57,56,32,99,61,49,32,100,61,49,32,116,61,49,32,112,61,57,56]⟩:ByteArray),(⟨#[116,97,115,107,32,57,56,32,99,61,50,32,100,61,49,32,116,61,49,32,112,61,57,56]⟩:ByteArray)] (ji7)))++(⟨#[10]⟩:ByteArray))++t180) t181 t182 t183 t186 t187 _ A15.out (Tabs.below HT.out (by repeat (first|(with_reducible first|exact HB.out|apply qai|apply qag|apply qaj|refine qaf ?_ GE162.out|refine qaf ?_ GE164.out|refine qaf ?_ GE179.out)|exact HB.out)))).mono ?_);rintro e w87 ⟨v184,rfl,ho0,hb⟩;refine⟨_,rfl,?_⟩;have n0_:=qah.mk (Kd.N_elder' (by (with_reducible repeat (first|apply Kd.N_alloc|apply Kd.N_drewN|apply Kd.N_drew));exact (Kd.N_mono (Kd.N_far (p:=⟨gb179,2,none⟩) (Kd.N_far (p:=⟨gb179,1,none⟩) (Kd.N_far (p:=⟨gb179,0,none⟩) (Kd.N_mono HO169.out (fun k_ hk=>(⟨hk,hk.2⟩:_∧k_≠gb179))) (fun _ hk=>hk.2) (.int .i64 t172)) (fun _ hk=>hk.2) (.int .i64 t173)) (fun _ hk=>hk.2) (.slice Ao86 t174.length co86)) (fun _ h_=>h_.1))) (Kd.S_base ho0) hb);have n1_:=qah.mk (Kd.N_elder' (by (with_reducible repeat (first|apply Kd.N_alloc|apply Kd.N_drewN|apply Kd.N_drew));exact (Kd.N_mono (Kd.N_far (p:=⟨gb179,2,none⟩) (Kd.N_far (p:=⟨gb179,1,none⟩) (Kd.N_far (p:=⟨gb179,0,none⟩) (Kd.N_mono HO176.out (fun k_ hk=>(⟨hk,hk.2⟩:_∧k_≠gb179))) (fun _ hk=>hk.2) (.int .i64 t172)) (fun _ hk=>hk.2) (.int .i64 t173)) (fun _ hk=>hk.2) (.slice Ao86 t174.length co86)) (fun _ h_=>h_.1))) (Kd.S_base ho0) hb);have n2_:=qah.mk (Kd.N_lower (Kd.N_mono (ok':=fun k_=>some k_≠(.slice Ao78 t167.length co78:Value).ownBlock∧some k_≠(.slice Ao86 t174.length co86:Value).ownBlock∧k_≠gb162∧k_≠gb164∧k_≠gb179) (Kd.S_N (Kd.S_bound ho0)) (fun k_ hk_=>⟨(Kd.fresh' (Kd.N_lt (by (with_reducible repeat (first|apply Kd.N_alloc|apply Kd.N_drewN|apply Kd.N_drew));exact (Kd.N_mono (Kd.N_far (p:=⟨gb179,2,none⟩) (Kd.N_far (p:=⟨gb179,1,none⟩) (Kd.N_far (p:=⟨gb179,0,none⟩) (Kd.N_mono HO169.out (fun k_ hk=>(⟨hk,hk.2⟩:_∧k_≠gb179))) (fun _ hk=>hk.2) (.int .i64 t172)) (fun _ hk=>hk.2) (.int .i64 t173)) (fun _ hk=>hk.2) (.slice Ao86 t174.length co86)) (fun _ h_=>h_.1)))) k_ hk_.2.1),(Kd.fresh' (Kd.N_lt (by (with_reducible repeat (first|apply Kd.N_alloc|apply Kd.N_drewN|apply Kd.N_drew));exact (Kd.N_mono (Kd.N_far (p:=⟨gb179,2,none⟩) (Kd.N_far (p:=⟨gb179,1,none⟩) (Kd.N_far (p:=⟨gb179,0,none⟩) (Kd.N_mono HO176.out (fun k_ hk=>(⟨hk,hk.2⟩:_∧k_≠gb179))) (fun _ hk=>hk.2) (.int .i64 t172)) (fun _ hk=>hk.2) (.int .i64 t173)) (fun _ hk=>hk.2) (.slice Ao86 t174.length co86)) (fun _ h_=>h_.1)))) k_ hk_.2.1),(Kd.freshB (g:=gb162) (o:=.cells #[.int .i64 a0_0,.int .i64 a0_1,.slice A0_2 l0_2.length c0_2] 24 (0,0)) (by (with_reducible repeat (first|refine qab ?_ _|refine qac ?_|refine qaa ?_ _));refine qan ?_ NB162_179.out _;(with_reducible repeat (first|refine qab ?_ _|refine qac ?_|refine qaa ?_ _));refine qan ?_ NB162_179.out _;(with_reducible repeat (first|refine qab ?_ _|refine qac ?_|refine qaa ?_ _));refine qan ?_ NB162_179.out _;(with_reducible repeat (first|refine qab ?_ _|refine qac ?_|refine qaa ?_ _));exact BK162.out) k_ hk_.2.1),(Kd.freshB (g:=gb164) (o:=.cells #[.string (⟨#[116,97,115,107,32,48,32,99,61,49,32,100,61,49,32,116,61,49,32,112,61,57,57]⟩:ByteArray),.string (⟨#[116,97,115,107,32,57,56]⟩:ByteArray),.string (⟨#[116,97,115,107,32,57,56,32,99,61,49,32,100,61,49,32,116,61,49,32,112,61,57,56,32,120]⟩:ByteArray),.string (⟨#[116,97,115,107,32,57,56,32,99,61,48,49,32,100,61,49,32,116,61,49,32,112,61,57,56]⟩:ByteArray),.string (⟨#[116,97,115,107,115,32,57,56,32,99,61,49,32,100,61,49,32,116,61,49,32,112,61,57,56]⟩:ByteArray),.string (⟨#[116,97,115,107,32,57,56,32,99,61,50,32,100,61,49,32,116,61,49,32,112,61,57,56]⟩:ByteArray)] 46 (0,0)) (by (with_reducible repeat (first|refine qab ?_ _|refine qac ?_|refine qaa ?_ _));refine qan ?_ NB164_179.out _;(with_reducible repeat (first|refine qab ?_ _|refine qac ?_|refine qaa ?_ _));refine qan ?_ NB164_179.out _;(with_reducible repeat (first|refine qab ?_ _|refine qac ?_|refine qaa ?_ _));refine qan ?_ NB164_179.out _;(with_reducible repeat (first|refine qab ?_ _|refine qac ?_|refine qaa ?_ _));exact BK164.out) k_ hk_.2.1),(Kd.freshB (g:=gb179) (o:=.cells #[.int .i64 t172,.int .i64 t173,.slice Ao86 t174.length co86] 32 (0,0)) (by (with_reducible repeat (first|refine qab ?_ _|refine qac ?_|refine qaa ?_ _));refine qao (cs:=#[.int .i64 t172,.int .i64 t173,.slice none 0 0]) ?_ 2 _ rfl;(with_reducible repeat (first|refine qab ?_ _|refine qac ?_|refine qaa ?_ _));refine qao (cs:=#[.int .i64 t172,.int .i64 0,.slice none 0 0]) ?_ 1 _ rfl;(with_reducible repeat (first|refine qab ?_ _|refine qac ?_|refine qaa ?_ _));refine qao (cs:=#[.int .i64 0,.int .i64 0,.slice none 0 0]) ?_ 0 _ rfl;(with_reducible repeat (first|refine qab ?_ _|refine qac ?_|refine qaa ?_ _));exact BK179.out) k_ hk_.2.1)⟩)) (qam (by repeat (first|(with_reducible first|exact HB.out|apply qai|apply qag|apply qaj|refine qaf ?_ GE162.out|refine qaf ?_ GE164.out|refine qaf ?_ GE179.out)|exact HB.out))));have n3_:=qah.mk (qap (g:=gb162) (o:=.cells #[.int .i64 a0_0,.int .i64 a0_1,.slice A0_2 l0_2.length c0_2] 24 (0,0)) (by (with_reducible repeat (first|refine qab ?_ _|refine qac ?_|refine qaa ?_ _));refine qan ?_ NB162_179.out _;(with_reducible repeat (first|refine qab ?_ _|refine qac ?_|refine qaa ?_ _));refine qan ?_ NB162_179.out _;(with_reducible repeat (first|refine qab ?_ _|refine qac ?_|refine qaa ?_ _));refine qan ?_ NB162_179.out _;(with_reducible repeat (first|refine qab ?_ _|refine qac ?_|refine qaa ?_ _));exact BK162.out) hb);have n4_:=qah.mk (qap (g:=gb164) (o:=.cells #[.string (⟨#[116,97,115,107,32,48,32,99,61,49,32,100,61,49,32,116,61,49,32,112,61,57,57]⟩:ByteArray),.string (⟨#[116,97,115,107,32,57,56]⟩:ByteArray),.string (⟨#[116,97,115,107,32,57,56,32,99,61,49,32,100,61,49,32,116,61,49,32,112,61,57,56,32,120]⟩:ByteArray),.string (⟨#[116,97,115,107,32,57,56,32,99,61,48,49,32,100,61,49,32,116,61,49,32,112,61,57,56]⟩:ByteArray),.string (⟨#[116,97,115,107,115,32,57,56,32,99,61,49,32,100,61,49,32,116,61,49,32,112,61,57,56]⟩:ByteArray),.string (⟨#[116,97,115,107,32,57,56,32,99,61,50,32,100,61,49,32,116,61,49,32,112,61,57,56]⟩:ByteArray)] 46 (0,0)) (by (with_reducible repeat (first|refine qab ?_ _|refine qac ?_|refine qaa ?_ _));refine qan ?_ NB164_179.out _;(with_reducible repeat (first|refine qab ?_ _|refine qac ?_|refine qaa ?_ _));refine qan ?_ NB164_179.out _;(with_reducible repeat (first|refine qab ?_ _|refine qac ?_|refine qaa ?_ _));refine qan ?_ NB164_179.out _;(with_reducible repeat (first|refine qab ?_ _|refine qac ?_|refine qaa ?_ _));exact BK164.out) hb);have n5_:=qah.mk (qap (g:=gb179) (o:=.cells #[.int .i64 t172,.int .i64 t173,.slice Ao86 t174.length co86] 32 (0,0)) (by (with_reducible repeat (first|refine qab ?_ _|refine qac ?_|refine qaa ?_ _));refine qao (cs:=#[.int .i64 t172,.int .i64 t173,.slice none 0 0]) ?_ 2 _ rfl;(with_reducible repeat (first|refine qab ?_ _|refine qac ?_|refine qaa ?_ _));refine qao (cs:=#[.int .i64 t172,.int .i64 0,.slice none 0 0]) ?_ 1 _ rfl;(with_reducible repeat (first|refine qab ?_ _|refine qac ?_|refine qaa ?_ _));refine qao (cs:=#[.int .i64 0,.int .i64 0,.slice none 0 0]) ?_ 0 _ rfl;(with_reducible repeat (first|refine qab ?_ _|refine qac ?_|refine qaa ?_ _));exact BK179.out) hb);have n6_:=qah.mk (qat (by repeat (first|(with_reducible first|exact HB.out|apply qai|apply qag|apply qaj|refine qaf ?_ GE162.out|refine qaf ?_ GE164.out|refine qaf ?_ GE179.out)|exact HB.out)) hb);clear HO169;clear HO176;clear BK162;clear BK164;clear BK179;clear HB;have HO169:=n0_;have HO176:=n1_;have HO185:=n2_;have BK162:=n3_;have BK164:=n4_;have BK179:=n5_;have HB:=n6_;clear n0_ n1_ n2_ n3_ n4_ n5_ n6_;(try clear hb);(try clear hb2);(try clear hk);(try clear hi);(try clear ho0))|((with_reducible refine qaM (N:=14) rfl ?_);(try (refine gate_guard (by rfl) ?_;dsimp only));refine qaL ?hg (N:=14) ?hd (cs:=#[.int .i64 0,.int .i64 0,.slice none 0 0]) (t:=32) ?hr ?_;(case hd=>rfl);(case hg=>rfl);(case hr=>first|(go_simp;done)|(go_simp;rfl));intro gb188 hg w88 hbox hb;have n0_:=qah.mk (Kd.N_below (Kd.N_elderB (by (with_reducible repeat (first|apply Kd.N_alloc|apply Kd.N_drewN|apply Kd.N_drew));exact HO169.out) gb188 (Nat.le_of_eq hg.symm)) hb);have n1_:=qah.mk (Kd.N_below (Kd.N_elderB (by (with_reducible repeat (first|apply Kd.N_alloc|apply Kd.N_drewN|apply Kd.N_drew));exact HO176.out) gb188 (Nat.le_of_eq hg.symm)) hb);have n2_:=qah.mk (Kd.N_below (Kd.N_elderB (by (with_reducible repeat (first|apply Kd.N_alloc|apply Kd.N_drewN|apply Kd.N_drew));exact HO185.out) gb188 (Nat.le_of_eq hg.symm)) hb);have n3_:=qah.mk (qap (g:=gb162) (o:=.cells #[.int .i64 a0_0,.int .i64 a0_1,.slice A0_2 l0_2.length c0_2] 24 (0,0)) (by (with_reducible repeat (first|refine qab ?_ _|refine qac ?_|refine qaa ?_ _));exact BK162.out) hb);have n4_:=qah.mk (qap (g:=gb164) (o:=.cells #[.string (⟨#[116,97,115,107,32,48,32,99,61,49,32,100,61,49,32,116,61,49,32,112,61,57,57]⟩:ByteArray),.string (⟨#[116,97,115,107,32,57,56]⟩:ByteArray),.string (⟨#[116,97,115,107,32,57,56,32,99,61,49,32,100,61,49,32,116,61,49,32,112,61,57,56,32,120]⟩:ByteArray),.string (⟨#[116,97,115,107,32,57,56,32,99,61,48,49,32,100,61,49,32,116,61,49,32,112,61,57,56]⟩:ByteArray),.string (⟨#[116,97,115,107,115,32,57,56,32,99,61,49,32,100,61,49,32,116,61,49,32,112,61,57,56]⟩:ByteArray),.string (⟨#[116,97,115,107,32,57,56,32,99,61,50,32,100,61,49,32,116,61,49,32,112,61,57,56]⟩:ByteArray)] 46 (0,0)) (by (with_reducible repeat (first|refine qab ?_ _|refine qac ?_|refine qaa ?_ _));exact BK164.out) hb);have n5_:=qah.mk (qap (g:=gb179) (o:=.cells #[.int .i64 t172,.int .i64 t173,.slice Ao86 t174.length co86] 32 (0,0)) (by (with_reducible repeat (first|refine qab ?_ _|refine qac ?_|refine qaa ?_ _));exact BK179.out) hb);have n6_:=qah.mk (qat (by repeat (first|(with_reducible first|exact HB.out|apply qai|apply qag|apply qaj|refine qaf ?_ GE162.out|refine qaf ?_ GE164.out|refine qaf ?_ GE179.out)|exact HB.out)) hb);have n7_:=qah.mk (hbox);have n8_:=qah.mk ((by rw [hg];exact (qam (by repeat (first|(with_reducible first|exact HB.out|apply qai|apply qag|apply qaj|refine qaf ?_ GE162.out|refine qaf ?_ GE164.out|refine qaf ?_ GE179.out)|exact HB.out))):w.heap.size≤gb188));have n9_:=qah.mk ((by rw [hg];exact (qam (by repeat (first|(with_reducible first|exact HB.out|apply qai|apply qag|apply qaj|refine qaf ?_ GE162.out|refine qaf ?_ GE164.out|refine qaf ?_ GE179.out)|exact HB.out))):w.heap.size≤gb188));have n10_:=qah.mk ((by rw [hg];exact Nat.ne_of_lt (qaw (g:=gb162) (o:=.cells #[.int .i64 a0_0,.int .i64 a0_1,.slice A0_2 l0_2.length c0_2] 24 (0,0)) (by (with_reducible repeat (first|refine qab ?_ _|refine qac ?_|refine qaa ?_ _));exact BK162.out)):gb162≠gb188));have n11_:=qah.mk ((by rw [hg];exact Nat.ne_of_gt (qaw (g:=gb162) (o:=.cells #[.int .i64 a0_0,.int .i64 a0_1,.slice A0_2 l0_2.length c0_2] 24 (0,0)) (by (with_reducible repeat (first|refine qab ?_ _|refine qac ?_|refine qaa ?_ _));exact BK162.out)):gb188≠gb162));have n12_:=qah.mk ((by rw [hg];exact Nat.ne_of_lt (qaw (g:=gb164) (o:=.cells #[.string (⟨#[116,97,115,107,32,48,32,99,61,49,32,100,61,49,32,116,61,49,32,112,61,57,57]⟩:ByteArray),.string (⟨#[116,97,115,107,32,57,56]⟩:ByteArray),.string (⟨#[116,97,115,107,32,57,56,32,99,61,49,32,100,61,49,32,116,61,49,32,112,61,57,56,32,120]⟩:ByteArray),.string (⟨#[116,97,115,107,32,57,56,32,99,61,48,49,32,100,61,49,32,116,61,49,32,112,61,57,56]⟩:ByteArray),.string (⟨#[116,97,115,107,115,32,57,56,32,99,61,49,32,100,61,49,32,116,61,49,32,112,61,57,56]⟩:ByteArray),.string (⟨#[116,97,115,107,32,57,56,32,99,61,50,32,100,61,49,32,116,61,49,32,112,61,57,56]⟩:ByteArray)] 46 (0,0)) (by (with_reducible repeat (first|refine qab ?_ _|refine qac ?_|refine qaa ?_ _));exact BK164.out)):gb164≠gb188));have n13_:=qah.mk ((by rw [hg];exact Nat.ne_of_gt (qaw (g:=gb164) (o:=.cells #[.string (⟨#[116,97,115,107,32,48,32,99,61,49,32,100,61,49,32,116,61,49,32,112,61,57,57]⟩:ByteArray),.string (⟨#[116,97,115,107,32,57,56]⟩:ByteArray),.string (⟨#[116,97,115,107,32,57,56,32,99,61,49,32,100,61,49,32,116,61,49,32,112,61,57,56,32,120]⟩:ByteArray),.string (⟨#[116,97,115,107,32,57,56,32,99,61,48,49,32,100,61,49,32,116,61,49,32,112,61,57,56]⟩:ByteArray),.string (⟨#[116,97,115,107,115,32,57,56,32,99,61,49,32,100,61,49,32,116,61,49,32,112,61,57,56]⟩:ByteArray),.string (⟨#[116,97,115,107,32,57,56,32,99,61,50,32,100,61,49,32,116,61,49,32,112,61,57,56]⟩:ByteArray)] 46 (0,0)) (by (with_reducible repeat (first|refine qab ?_ _|refine qac ?_|refine qaa ?_ _));exact BK164.out)):gb188≠gb164));have n14_:=qah.mk ((by rw [hg];exact Nat.ne_of_lt (qaw (g:=gb179) (o:=.cells #[.int .i64 t172,.int .i64 t173,.slice Ao86 t174.length co86] 32 (0,0)) (by (with_reducible repeat (first|refine qab ?_ _|refine qac ?_|refine qaa ?_ _));exact BK179.out)):gb179≠gb188));have n15_:=qah.mk ((by rw [hg];exact Nat.ne_of_gt (qaw (g:=gb179) (o:=.cells #[.int .i64 t172,.int .i64 t173,.slice Ao86 t174.length co86] 32 (0,0)) (by (with_reducible repeat (first|refine qab ?_ _|refine qac ?_|refine qaa ?_ _));exact BK179.out)):gb188≠gb179));clear HO169;clear HO176;clear HO185;clear BK162;clear BK164;clear BK179;clear HB;have HO169:=n0_;have HO176:=n1_;have HO185:=n2_;have BK162:=n3_;have BK164:=n4_;have BK179:=n5_;have HB:=n6_;have BK188:=n7_;have GW188:=n8_;have GE188:=n9_;have NB162_188:=n10_;have NB188_162:=n11_;have NB164_188:=n12_;have NB188_164:=n13_;have NB179_188:=n14_;have NB188_179:=n15_;clear n0_ n1_ n2_ n3_ n4_ n5_ n6_ n7_ n8_ n9_ n10_ n11_ n12_ n13_ n14_ n15_;clear hb hbox hg;have hnb89:=NB188_162.out;have hnc89:=NB162_188.out;have hnb90:=NB188_164.out;have hnc90:=NB164_188.out;have hnb91:=NB188_179.out;have hnc91:=NB179_188.out;have hcz92_0:w88.cell? ⟨gb188,0,none⟩=some (.int .i64 0):=(qad BK188.out 0).trans rfl;have hcz92_1:w88.cell? ⟨gb188,1,none⟩=some (.int .i64 0):=(qad BK188.out 1).trans rfl;have hcz92_2:w88.cell? ⟨gb188,2,none⟩=some (.slice none 0 0):=(qad BK188.out 2).trans rfl;have hfz92_0:=qae BK188.out 0;have hfz92_1:=qae BK188.out 1;have hfz92_2:=qae BK188.out 2;obtain⟨Ao93,co93,eo93⟩:=Kd.N_slice HO185.out;subst eo93))
            go_ret
            exact⟨by first|rfl|(simp [qaA,qaz]<;>rfl)|(simp [bneNil,bneNilU]<;>rfl)|(simp only [← hji7];first|rfl|(simp [qaA,qaz]<;>rfl))|(simp [*,qaA,qaz]<;>rfl),by repeat (first|(with_reducible first|exact HB.out|apply qai|apply qag|apply qaj|refine qaf ?_ GE162.out|refine qaf ?_ GE164.out|refine qaf ?_ GE179.out|refine qaf ?_ GE188.out)|exact HB.out)⟩
           ·rw [if_neg c69] at H
            have c69b0:(t186 == t177)=false:=beq_eq_false_iff_ne.mpr c69
            have c69b1:(t186 != t177)=true:=bne_iff_ne.mpr c69
            exact absurd (Option.some.inj H) (by decide)
          ·rw [if_neg c68] at H
           have c68b0:decide (t177≤((t170++(rdS [(⟨#[116,97,115,107,32,48,32,99,61,49,32,100,61,49,32,116,61,49,32,112,61,57,57]⟩:ByteArray),(⟨#[116,97,115,107,32,57,56]⟩:ByteArray),(⟨#[116,97,115,107,32,57,56,32,99,61,49,32,100,61,49,32,116,61,49,32,112,61,57,56,32,120]⟩:ByteArray),(⟨#[116,97,115,107,32,57,56,32,99,61,48,49,32,100,61,49,32,116,61,49,32,112,61,57,56]⟩:ByteArray),(⟨#[116,97,115,107,115,32,57,56,32,99,61,49,32,100,61,49,32,116,61,49,32,112,61,57,56]⟩:ByteArray),(⟨#[116,97,115,107,32,57,56,32,99,61,50,32,100,61,49,32,116,61,49,32,112,61,57,56]⟩:ByteArray)] (ji7))).size:Int))=false:=decide_eq_false c68
           try have c68b4:decide (t177≤(t170.size:Int)+((rdS [(⟨#[116,97,115,107,32,48,32,99,61,49,32,100,61,49,32,116,61,49,32,112,61,57,57]⟩:ByteArray),(⟨#[116,97,115,107,32,57,56]⟩:ByteArray),(⟨#[116,97,115,107,32,57,56,32,99,61,49,32,100,61,49,32,116,61,49,32,112,61,57,56,32,120]⟩:ByteArray),(⟨#[116,97,115,107,32,57,56,32,99,61,48,49,32,100,61,49,32,116,61,49,32,112,61,57,56]⟩:ByteArray),(⟨#[116,97,115,107,115,32,57,56,32,99,61,49,32,100,61,49,32,116,61,49,32,112,61,57,56]⟩:ByteArray),(⟨#[116,97,115,107,32,57,56,32,99,61,50,32,100,61,49,32,116,61,49,32,112,61,57,56]⟩:ByteArray)] (ji7)).size:Int))=false:=decide_eq_false (by have e:=c68;simp only [ByteArray.size_append,show (⟨#[116,97,115,107,115,32,57,56,32,99,61,49,32,100,61,49,32,116,61,49,32,112,61,57,56]⟩:ByteArray).size=25 from rfl,show (⟨#[116,97,115,107,32,57,56,32,99,61,48,49,32,100,61,49,32,116,61,49,32,112,61,57,56]⟩:ByteArray).size=25 from rfl,show (⟨#[116,97,115,107,32,57,56,32,99,61,49,32,100,61,49,32,116,61,49,32,112,61,57,56,32,120]⟩:ByteArray).size=26 from rfl,show (⟨#[116,97,115,107,32,57,56,32,99,61,50,32,100,61,49,32,116,61,49,32,112,61,57,56]⟩:ByteArray).size=24 from rfl,show (⟨#[116,97,115,107,32,57,56]⟩:ByteArray).size=7 from rfl] at e;omega)
           clear c68
           exact absurd (Option.some.inj H) (by decide)
         ·rw [if_neg c67] at H
          have c67b0:decide ((t170.size:Int)≤t177)=false:=decide_eq_false c67
          clear c67
          exact absurd (Option.some.inj H) (by decide)
      ·replace c16:=Bool.eq_false_iff.mpr c16
       subst c16
       have H1:(some false)=some true:=by rw [if_neg (show ¬ (false=true) by decide)] at H;exact H
       clear H
       have H:=H1
       clear H1
       exact absurd (Option.some.inj H) (by decide)
     ·rw [if_neg c14] at H
      exact absurd H (by simp)
    ·rw [if_neg c12] at H
     exact absurd H (by simp)
   ·rw [if_neg c10] at H
    exact absurd H (by simp)
  ·rw [if_neg c9] at H
   exact absurd H (by simp)
 ·rw [if_neg c8] at H
  exact absurd H (by simp)
end
end Go.Proofs.YtcfknijdhmildaaDoor.PParseFirst
end
section
namespace Go.Proofs.YtcfknijdhmildaaDoor.PParseFirst
open Go.RowKit Go.Proofs.YtcfknijdhmildaaDoorW.PrintWords Go.Proofs.YtcfknijdhmildaaDoorW.PrintLast Go.Proofs.YtcfknijdhmildaaDoorW.PrintMore
attribute [local go_sem] max2_int min2_int max_two min_two max_three min_three max_four min_four
set_option linter.unusedVariables false
set_option linter.unusedSimpArgs false
noncomputable section
end
end Go.Proofs.YtcfknijdhmildaaDoor.PParseFirst
end
section
namespace Go.Proofs.YtcfknijdhmildaaDoor.PParseFirst
open Go.RowKit Go.Lib Go.Proofs.YtcfknijdhmildaaDoorW.PrintWords
theorem awake_f:ostinatolaw07_awake.f=some true:=rfl
theorem parse_f {s:ByteArray} (hs:s.size≤65536) {S R at_ e:Int} {L:List Tk} (h:parseP s=(S,R,L,at_,e)):parse_Parse.f s=some (S,R,L.map tkTo,at_,e):=by
 unfold parse_Parse.f
 rw [if_pos hs,h]
theorem tkOf_tkTo (L:List Tk):(L.map tkTo).map tkOf=L:=by
 rw [List.map_map]
 exact List.map_id' L
theorem print_f {sets rel:Int} {L:List Tk} (h:checkE sets rel L=0) (hs:∀ x ∈ L,x.ch.length≤1000000∧x.us.length≤1000000∧x.c≤9223372036854775807):parse_Print.f sets rel (L.map tkTo)=some (printT sets rel L):=by
 have hl:=(checkE_small h).2.2.2
 unfold parse_Print.f
 rw [if_pos,tkOf_tkTo,if_pos h]
 unfold prnOk
 rw [List.length_map]
 simp only [Bool.and_eq_true,decide_eq_true_eq]
 refine⟨by omega,List.all_eq_true.2 (fun y hy=>?_)⟩
 obtain⟨x,hx,rfl⟩:=List.mem_map.1 hy
 obtain⟨a,b,c⟩:=hs x hx
 simp only [Bool.and_eq_true,decide_eq_true_eq]
 exact⟨⟨a,b⟩,c⟩
end Go.Proofs.YtcfknijdhmildaaDoor.PParseFirst
end
section
namespace Go.Proofs.YtcfknijdhmildaaDoor.PParseFirst
open Go.RowKit Go.Proofs.YtcfknijdhmildaaDoorW.PrintWords
theorem rest_f (n b:Int) (h0:0<b) (h1:b≤1000000):ostinatoref05_rest.f n b=some (n % b):=by
 unfold ostinatoref05_rest.f
 rw [if_neg (by omega),rest_wrapP n b h0 h1]
structure GoodTask (i:Nat) (sets:Int) (t:S52):Prop where
 id:t.f0=(i:Int)+1
 c1:1≤t.f1
 cd:t.f1≤t.f2
 dt:t.f2≤t.f3
 t4:4≤t.f3
 t24:t.f3≤24
 p1:10≤t.f4
 p99:t.f4≤90+i
 pi:t.f4 % 10=i
 chl:t.f5.length≤25
 ch1:∀ y ∈ t.f5,1≤y
 chs:t.f5=[]∨t.f5.sum=t.f1
 usl:t.f6.length≤5
 us:∀ u ∈ t.f6,0≤u∧u<sets
structure GoodSys (sets reload:Int) (l:List S52):Prop where
 s1:1≤sets
 s8:sets≤8
 r0:0≤reload
 r3:reload≤3
 l1:1≤l.length
 l6:l.length≤6
 task:∀ (i:Nat) (h:i<l.length),GoodTask i sets l[i]
theorem task_l1 (s:Int) (hs:1≤s∧s≤8) (c0 c1 c2 c3 c4:Int) (U:List Int) (t0 t1 t2 t3 t4:Int) (t5:List Int):∀ (d g:Nat) (us:List Int),g+d=5→us.length=g→(∀ u ∈ us,0≤u∧u<s) →
  ∃ us',Ev (fun k=>ostinatoref05_Num_task.l1 k s (g:Int) c0 c1 c2 c3 c4 U t0 t1 t2 t3 t4 t5 us) (t0,t1,t2,t3,t4,t5,us')∧us'.length≤5∧∀ u ∈ us',0≤u∧u<s:=by
 intro d
 induction d with
 |zero=>
  intro g us hg hl hu
  obtain rfl:g=5:=by omega
  refine⟨us,Ev.step (fun k=>by rw [ostinatoref05_Num_task.l1]) ?_,by omega,hu⟩
  exact Ev.ite_ (fun _=>Ev.ifn (by decide) (Ev.now _)) (fun _=>Ev.now _)
 |succ d ih=>
  intro g us hg hl hu
  by_cases hU:(g:Int)<(U.length:Int)
  ·have hr:=rest_f (rd U g) s (by omega) (by omega)
   obtain⟨us',h1,h2,h3⟩:=ih (g+1) (us++[rd U g % s]) (by omega) (by simp [hl]) (fun u hu'=>by
    rcases List.mem_append.1 hu' with h|h
    ·exact hu u h
    ·simp at h;subst h;exact⟨Int.emod_nonneg _ (by omega),Int.emod_lt_of_pos _ (by omega)⟩)
   refine⟨us',Ev.step (fun k=>by rw [ostinatoref05_Num_task.l1]) ?_,h2,h3⟩
   refine Ev.ifp hU (Ev.ifp (by omega) (Ev.ifp (by omega) (Ev.bindS hr (Ev.ifp (by omega) ?_))))
   rw [wrap64_succ g (by omega)]
   exact h1
  ·exact⟨us,Ev.step (fun k=>by rw [ostinatoref05_Num_task.l1]) (Ev.ifn hU (Ev.now _)),by omega,hu⟩
theorem task_l0 (s:Int) (hs:1≤s∧s≤8) (c:Nat) (hc:1≤c∧c≤24) (c0 c1 c2 c3 c4:Int) (U:List Int) (t0 t1 t2 t3 t4:Int):∀ (d i f:Nat) (ch:List Int),i+d=c→f<i→ch.length<i→(∀ y ∈ ch,1≤y)→ch.sum=(f:Int)→(f=0→ch=[]) →
  ∃ ch' us',Ev (fun k=>ostinatoref05_Num_task.l0 k s (c:Int) (f:Int) (i:Int) c0 c1 c2 c3 c4 U t0 t1 t2 t3 t4 ch) (t0,t1,t2,t3,t4,ch',us')∧ch'.length≤25∧(∀ y ∈ ch',1≤y)∧(ch' = []∨ch'.sum=(c:Int))∧us'.length≤5∧∀ u ∈ us',0≤u∧u<s:=by
 intro d
 induction d with
 |zero=>
  intro i f ch hi hf hl hy hsum h0
  obtain rfl:i=c:=by omega
  have ej:∀ t5 us',Ev (fun k=>ostinatoref05_Num_task.l1 k s ((0:Nat):Int) c0 c1 c2 c3 c4 U t0 t1 t2 t3 t4 t5 []) (t0,t1,t2,t3,t4,t5,us')→Ev (fun k=>ostinatoref05_Num_task.j1 k s c0 c1 c2 c3 c4 U t0 t1 t2 t3 t4 t5) (t0,t1,t2,t3,t4,t5,us'):=fun t5 us' h=>Ev.step (fun k=>by rw [ostinatoref05_Num_task.j1];rfl) h
  by_cases hf0:(f:Int) > 0
  ·obtain⟨us',h1,h2,h3⟩:=task_l1 s hs c0 c1 c2 c3 c4 U t0 t1 t2 t3 t4 (ch++[wrap64 ((i:Int) - f)]) 5 0 [] rfl rfl (fun u hu=>by cases hu)
   refine⟨_,us',Ev.step (fun k=>by rw [ostinatoref05_Num_task.l0]) (Ev.ifn (by omega) (Ev.ifp hf0 (Ev.ifp (by omega) (ej _ _ h1)))),by simp;omega,?_,.inr ?_,h2,h3⟩
   ·intro y hm
    rcases List.mem_append.1 hm with h|h
    ·exact hy y h
    ·simp at h;subst h;rw [qaG (by omega) (by omega)];omega
   ·rw [List.sum_append,hsum,qaG (by omega) (by omega)];simp;omega
  ·obtain⟨us',h1,h2,h3⟩:=task_l1 s hs c0 c1 c2 c3 c4 U t0 t1 t2 t3 t4 ch 5 0 [] rfl rfl (fun u hu=>by cases hu)
   exact⟨_,us',Ev.step (fun k=>by rw [ostinatoref05_Num_task.l0]) (Ev.ifn (by omega) (Ev.ifn hf0 (ej _ _ h1))),by omega,hy,.inl (h0 (by omega)),h2,h3⟩
 |succ d ih=>
  intro i f ch hi hf hl hy hsum h0
  by_cases hb:bits .and .i64 (shr .i64 c4 (IntKind.u64.wrap (i:Int))) 1=1
  ·obtain⟨ch',us',h1,h2⟩:=ih (i+1) i (ch++[wrap64 ((i:Int) - f)]) (by omega) (by omega) (by simp;omega) (fun y hm=>by
    rcases List.mem_append.1 hm with h|h
    ·exact hy y h
    ·simp at h;subst h;rw [qaG (by omega) (by omega)];omega) (by rw [List.sum_append,hsum,qaG (by omega) (by omega)];simp;omega) (fun h=>by omega)
   refine⟨ch',us',Ev.step (fun k=>by rw [ostinatoref05_Num_task.l0]) (Ev.ifp (by omega) (Ev.ifp (u64_nonneg _) (Ev.ifp hb (Ev.ifp (by omega) ?_)))),h2⟩
   rw [wrap64_succ i (by omega)]
   exact h1
  ·obtain⟨ch',us',h1,h2⟩:=ih (i+1) f ch (by omega) (by omega) (by omega) hy hsum h0
   refine⟨ch',us',Ev.step (fun k=>by rw [ostinatoref05_Num_task.l0]) (Ev.ifp (by omega) (Ev.ifp (u64_nonneg _) (Ev.ifn hb ?_))),h2⟩
   rw [wrap64_succ i (by omega)]
   exact h1
theorem per_rng (j:Int) (h0:0≤j) (h8:j<8):4≤rd [4,5,6,8,10,12,20,24] j∧rd [4,5,6,8,10,12,20,24] j≤24:=by
 obtain⟨n,rfl⟩:∃ n:Nat,j=n:=⟨j.toNat,by omega⟩
 have h:n=0∨n=1∨n=2∨n=3∨n=4∨n=5∨n=6∨n=7:=by omega
 rcases h with rfl|rfl|rfl|rfl|rfl|rfl|rfl|rfl<;>decide
theorem task_f (nC nD nT nP nK:Int) (U:List Int) (i:Nat) (hi:i≤5) (s:Int) (hs:1≤s∧s≤8) :
  ∃ x:S52,Ev (fun k=>ostinatoref05_Num_task.f k nC nD nT nP nK U (i:Int) s) (x.f0,x.f1,x.f2,x.f3,x.f4,x.f5,x.f6)∧GoodTask i s x:=by
 obtain⟨j0,j8⟩:=and7_rng nT
 obtain⟨p4,p24⟩:=per_rng _ j0 j8
 obtain⟨T,hT⟩:∃ T,rd [4,5,6,8,10,12,20,24] (bits .and .i64 nT 7)=T:=⟨_,rfl⟩
 have hD:=rest_f nD T (by omega) (by omega)
 have d0:=Int.emod_nonneg nD (show T≠0 by omega)
 have d1:=Int.emod_lt_of_pos nD (show 0<T by omega)
 obtain⟨D,hDv⟩:∃ D,nD % T=D:=⟨_,rfl⟩
 rw [hDv] at hD d0 d1
 have hC:=rest_f nC (1+D) (by omega) (by omega)
 have e0:=Int.emod_nonneg nC (show 1+D≠0 by omega)
 have e1:=Int.emod_lt_of_pos nC (show 0<1+D by omega)
 obtain⟨C,hCv⟩:∃ C,nC % (1+D)=C:=⟨_,rfl⟩
 rw [hCv] at hC e0 e1
 have hP:=rest_f nP 9 (by omega) (by omega)
 have q0:=Int.emod_nonneg nP (show (9:Int)≠0 by omega)
 have q1:=Int.emod_lt_of_pos nP (show (0:Int)<9 by omega)
 obtain⟨p,hpv⟩:∃ p,nP % 9=p:=⟨_,rfl⟩
 rw [hpv] at hP q0 q1
 obtain⟨cn,hcn⟩:∃ c:Nat,1+C=c:=⟨(1+C).toNat,by omega⟩
 obtain⟨ch',us',h1,h2,h3,h4,h5,h6⟩:=task_l0 s hs cn (by omega) nC nD nT nP nK U ((i:Int)+1) (cn:Int) (1+D) T (10 * (1+p)+i) (cn - 1) 1 0 [] (by omega) (by decide) (by decide) (fun y hy=>by cases hy) rfl (fun _=>rfl)
 refine⟨⟨(i:Int)+1,cn,1+D,T,10 * (1+p)+i,ch',us'⟩,?_,⟨rfl,by show (1:Int)≤cn;omega,by show (cn:Int)≤1+D;omega,by show 1+D≤T;omega,by show 4≤T;omega,by show T≤24;omega,by show 10≤10 * (1+p)+(i:Int);omega,by show 10 * (1+p)+(i:Int)≤90+i;omega,by show (10 * (1+p)+(i:Int)) % 10=i;omega,h2,h3,h4,h5,h6⟩⟩
 show Ev _ ((i:Int)+1,(cn:Int),1+D,T,10 * (1+p)+(i:Int),ch',us')
 unfold ostinatoref05_Num_task.f
 rw [hT]
 refine Ev.ifp j0 (Ev.ifp j8 (Ev.bindS hD ?_))
 rw [qaG (show -9223372036854775808≤1+D by omega) (by omega)]
 refine Ev.bindS hC (Ev.bindS hP ?_)
 rw [hcn,qaG (show -9223372036854775808≤(cn:Int) by omega) (by omega),qaG (show -9223372036854775808≤(i:Int)+1 by omega) (by omega),qaG (show -9223372036854775808≤1+p by omega) (by omega),qaG (show -9223372036854775808≤10 * (1+p) by omega) (by omega),qaG (show -9223372036854775808≤10 * (1+p)+(i:Int) by omega) (by omega)]
 exact h1
theorem good_default (s:Int):GoodTask 0 s (⟨1,1,4,4,10,[],[]⟩:S52):=
 ⟨rfl,Int.le_refl _,(by decide:(1:Int)≤4),Int.le_refl _,Int.le_refl _,(by decide:(4:Int)≤24),Int.le_refl _,(by decide:(10:Int)≤90+((0:Nat):Int)),rfl,Nat.zero_le _,fun y hy=>(by cases hy),.inl rfl,Nat.zero_le _,fun y hy=>(by cases hy)⟩
theorem made_l0 (a b:Int) (M:List S59) (s:Int) (hs:1≤s∧s≤8) (rl:Int) (hrl:0≤rl∧rl≤3):∀ (d i:Nat) (acc:List S52),i+d=6→acc.length=i→(∀ (j:Nat) (h:j<acc.length),GoodTask j s acc[j]) →
  ∃ L,Ev (fun k=>ostinatoref05_System_Made.l0 k (i:Int) a b M s rl acc) (s,rl,L)∧GoodSys s rl L:=by
 have hend:∀ (i:Nat) (acc:List S52),i≤6→acc.length=i→(∀ (j:Nat) (h:j<acc.length),GoodTask j s acc[j])→∃ L,Ev (fun _=>if (acc.length:Int)=0 then (some (s,rl,(([(⟨1,1,4,4,10,([]:List Int),([]:List Int)⟩:S52)]:List (S52))))) else (some (s,rl,acc))) (s,rl,L)∧GoodSys s rl L:=by
  intro i acc hi hl hg
  by_cases h0:(acc.length:Int)=0
  ·refine⟨_,Ev.ifp h0 (Ev.now _),⟨hs.1,hs.2,hrl.1,hrl.2,by decide,by decide,fun j hj=>?_⟩⟩
   obtain rfl:j=0:=by simpa using hj
   exact good_default s
  ·exact⟨_,Ev.ifn h0 (Ev.now _),⟨hs.1,hs.2,hrl.1,hrl.2,by omega,by omega,hg⟩⟩
 intro d
 induction d with
 |zero=>
  intro i acc hi hl hg
  obtain⟨L,h1,h2⟩:=hend i acc (by omega) hl hg
  refine⟨L,Ev.step (fun k=>by rw [ostinatoref05_System_Made.l0]) (Ev.ite_ (fun _=>Ev.ifn (by omega) h1) (fun _=>h1)),h2⟩
 |succ d ih=>
  intro i acc hi hl hg
  by_cases hM:(i:Int)<(M.length:Int)
  ·obtain⟨x,hx,hgx⟩:=task_f ((qay M i).f0) ((qay M i).f1) ((qay M i).f2) ((qay M i).f3) ((qay M i).f4) ((qay M i).f5) i (by omega) s hs
   obtain⟨L,h1,h2⟩:=ih (i+1) (acc++[x]) (by omega) (by simp [hl]) (fun j hj=>by
    by_cases hji:j<acc.length
    ·rw [List.getElem_append_left hji];exact hg j hji
    ·have:j=acc.length:=by simp at hj;omega
     subst this
     rw [List.getElem_append_right (Nat.le_refl _)]
     simp [hl]
     exact hgx)
   refine⟨L,Ev.step (fun k=>by rw [ostinatoref05_System_Made.l0]) (Ev.ifp hM (Ev.ifp (by omega) (Ev.ifp (by omega) (Ev.bind hx ?_)))),h2⟩
   refine Ev.ifp (by omega) ?_
   rw [wrap64_succ i (by omega)]
   exact h1
  ·obtain⟨L,h1,h2⟩:=hend i acc (by omega) hl hg
   exact⟨L,Ev.step (fun k=>by rw [ostinatoref05_System_Made.l0]) (Ev.ifn hM h1),h2⟩
theorem Made_f (a b:Int) (M:List S59):∃ s rl L,Ev (fun k=>ostinatoref05_System_Made.f k a b M) (s,rl,L)∧GoodSys s rl L:=by
 have hr:=rest_f a 8 (by decide) (by decide)
 have h0:=Int.emod_nonneg a (show (8:Int)≠0 by decide)
 have h1:=Int.emod_lt_of_pos a (show (0:Int)<8 by decide)
 obtain⟨v,hv⟩:∃ v,a % 8=v:=⟨_,rfl⟩
 rw [hv] at hr h0 h1
 obtain⟨r0,r3⟩:=and3_rng b
 obtain⟨L,h2,h3⟩:=made_l0 a b M (1+v) (by omega) (bits .and .i64 b 3) (by omega) 6 0 [] rfl rfl (fun j hj=>by simp at hj)
 refine⟨1+v,_,L,?_,h3⟩
 unfold ostinatoref05_System_Made.f
 refine Ev.bindS hr ?_
 rw [qaG (by omega) (by omega)]
 exact h2
theorem lawmade_l0 (a b:Int) (l:List S60) (a2 b2:Int):∀ (d i:Nat) (acc:List S59),i+d=6→acc.length=i→∃ s rl L,Ev (fun k=>ostinatolaw07_Sys_made.l0 k (i:Int) a b l a2 b2 acc) (s,rl,L)∧GoodSys s rl L:=by
 intro d
 induction d with
 |zero=>
  intro i acc hi hl
  obtain⟨s,rl,L,h1,h2⟩:=Made_f a2 b2 acc
  refine⟨s,rl,L,Ev.step (fun k=>by rw [ostinatolaw07_Sys_made.l0]) (Ev.ite_ (fun _=>Ev.ifn (by omega) (Ev.bind h1 (Ev.now _))) (fun _=>Ev.bind h1 (Ev.now _))),h2⟩
 |succ d ih=>
  intro i acc hi hl
  by_cases hM:(i:Int)<(l.length:Int)
  ·obtain⟨s,rl,L,h1,h2⟩:=ih (i+1) (acc++[(⟨(qav l i).f0,(qav l i).f1,(qav l i).f2,(qav l i).f3,(qav l i).f4,(qav l i).f5⟩:S59)]) (by omega) (by simp [hl])
   refine⟨s,rl,L,Ev.step (fun k=>by rw [ostinatolaw07_Sys_made.l0]) (Ev.ifp hM (Ev.ifp (by omega) (Ev.ifp (by omega) (Ev.ifp (by omega) ?_)))),h2⟩
   rw [wrap64_succ i (by omega)]
   exact h1
  ·obtain⟨s,rl,L,h1,h2⟩:=Made_f a2 b2 acc
   exact⟨s,rl,L,Ev.step (fun k=>by rw [ostinatolaw07_Sys_made.l0]) (Ev.ifn hM (Ev.bind h1 (Ev.now _))),h2⟩
theorem lawmade_f (a b:Int) (l:List S60):∃ s rl L,Ev (fun k=>ostinatolaw07_Sys_made.f k a b l) (s,rl,L)∧GoodSys s rl L:=by
 unfold ostinatolaw07_Sys_made.f
 exact lawmade_l0 a b l a b 6 0 [] rfl rfl
end Go.Proofs.YtcfknijdhmildaaDoor.PParseFirst
end
section
namespace Go.Proofs.YtcfknijdhmildaaDoor
open Go.RowKit Go.Shelf Go.Lib Go.Proofs.YtcfknijdhmildaaDoorW.PrintWords
theorem lnStep_app (A B:List (List Wd)) (x:Wd) (h:B≠[]):lnStep (A++B) x=A++lnStep B x:=by
 obtain⟨B',g,rfl⟩:∃ B' g,B=B'++[g]:=⟨B.dropLast,B.getLast h,(List.dropLast_concat_getLast h).symm⟩
 unfold lnStep
 rw [← List.append_assoc]
 simp only [List.getLast?_concat,List.dropLast_concat]
 split<;>simp
theorem lns_app (X:List Wd):∀ (n:Nat) (Y:List Wd),Y.length=n→(∀ x ∈ X,∀ y ∈ Y,x.q≠y.q)→lns (X++Y)=lns X++lns Y:=by
 intro n
 induction n with
 |zero=>intro Y h _;rw [List.eq_nil_of_length_eq_zero h];simp [lns]
 |succ n ih=>
  intro Y0 hn h
  rcases List.eq_nil_or_concat Y0 with rfl|⟨Y,y,rfl⟩
  ·simp [lns]
  ·rw [List.concat_eq_append] at hn h ⊢
   have hn':Y.length=n:=by simpa using hn
   have h1:=ih Y hn' (fun x hx z hz=>h x hx z (List.mem_append_left _ hz))
   by_cases hY:Y=[]
   ·subst hY
    have h2:=lns_other (l:=X) (x:=y) (fun x hx=>h x hx y (by simp))
    rw [List.nil_append,h2]
    rfl
   ·obtain⟨G,g,z,h2,_⟩:=lns_last Y hY
    rw [← List.append_assoc,lns_snoc,h1,lns_snoc]
    exact lnStep_app _ _ _ (by rw [h2];simp)
theorem lns_single (q:Int):∀ (n:Nat) (X:List Wd),X.length=n+1→(∀ x ∈ X,x.q=q)→lns X=[X]:=by
 intro n
 induction n with
 |zero=>
  intro X h _
  match X,h with
  |[x],_=>rfl
 |succ n ih=>
  intro X0 hn h
  rcases List.eq_nil_or_concat X0 with rfl|⟨X,y,rfl⟩
  ·simp at hn
  ·rw [List.concat_eq_append] at hn h ⊢
   have hn':X.length=n+1:=by simpa using hn
   have h1:=ih X hn' (fun x hx=>h x (List.mem_append_left _ hx))
   have hne:X≠[]:=by intro e;subst e;simp at hn'
   obtain⟨G,g,z,h2,h3⟩:=lns_last X hne
   have h4:=lns_same h2 (x:=y) (by rw [h z (List.mem_append_left _ (List.mem_of_getLast? h3)),h y (by simp)])
   rw [h1] at h2
   have h5:G=[]∧X=g++[z]:=by
    cases G with
    |nil=>exact⟨rfl,by simpa using h2⟩
    |cons a G=>simp at h2
   rw [h4,h5.1,← h5.2]
   rfl
def lnsB (q i:Nat) (s:List UInt8):List (List Wd):=lns (scan q false none i s)
def tx (l:List Wd):List ByteArray:=l.map (·.t)
def wds (b:List UInt8):List ByteArray:=tx (scan 0 false none 0 b)
theorem tx_scan (q i:Nat) (b:List UInt8):tx (scan q false none i b)=wds b:=by
 have h:=scan_shift i q b 0 false none 0
 simp only [moved,Nat.zero_add] at h
 unfold wds tx
 rw [h,List.map_map]
 rfl
theorem scan_nil_iff (q i:Nat) (b:List UInt8):scan q false none i b=[]↔wds b=[]:=by
 rw [← tx_scan q i b]
 unfold tx
 rw [List.map_eq_nil_iff]
theorem lnsB_last (q i:Nat) (b:List UInt8) (h:(10:UInt8) ∉ b):lnsB q i b=if wds b=[] then [] else [scan q false none i b]:=by
 by_cases hb:wds b=[]
 ·rw [if_pos hb]
  unfold lnsB
  rw [(scan_nil_iff q i b).2 hb]
  rfl
 ·rw [if_neg hb]
  refine lns_single q ((scan q false none i b).length - 1) _ ?_ (scan_line b q false none i h)
  have:scan q false none i b≠[]:=fun e=>hb ((scan_nil_iff q i b).1 e)
  have:=List.length_pos_iff.2 this
  omega
theorem lnsB_line (q i:Nat) (b r:List UInt8) (h:(10:UInt8) ∉ b) :
  lnsB q i (b++10::r)=(if wds b=[] then [] else [scan q false none i b])++lnsB (q+1) (i+b.length+1) r:=by
 rw [← lnsB_last q i b h]
 unfold lnsB
 rw [scan_app,List.count_eq_zero.2 h]
 refine lns_app _ _ _ rfl (fun x hx y hy=>?_)
 have h1:=scan_line b q false none i h x hx
 have h2:=(scan_bd r (q+1+0) false none (i+b.length+1) (fun _ _ e=>by cases e) y hy).2.1
 omega
def linesB (Bs:List (List UInt8)):List UInt8:=Bs.flatMap (·++[10])
theorem linesB_cons (b:List UInt8) (Bs:List (List UInt8)) (r:List UInt8):linesB (b::Bs)++r=b++10::(linesB Bs++r):=by simp [linesB]
theorem linesB_len (b:List UInt8) (Bs:List (List UInt8)):(linesB (b::Bs)).length=b.length+1+(linesB Bs).length:=by simp [linesB];omega
theorem lnsB_lines:∀ (Bs:List (List UInt8)),(∀ b ∈ Bs,(10:UInt8) ∉ b)→∀ (q i:Nat) (r:List UInt8),
  ∃ G,lnsB q i (linesB Bs++r)=G++lnsB (q+Bs.length) (i+(linesB Bs).length) r∧G.map tx=(Bs.map wds).filter (fun w=>!w.isEmpty):=by
 intro Bs
 induction Bs with
 |nil=>intro _ q i r;exact⟨[],rfl,rfl⟩
 |cons b Bs ih=>
  intro h q i r
  obtain⟨G,h1,h2⟩:=ih (fun c hc=>h c (List.mem_cons_of_mem _ hc)) (q+1) (i+b.length+1) r
  have e1:q+1+Bs.length=q+(b::Bs).length:=by simp;omega
  have e2:i+b.length+1+(linesB Bs).length=i+(linesB (b::Bs)).length:=by rw [linesB_len];omega
  rw [e1,e2] at h1
  rw [linesB_cons,lnsB_line q i b _ (h b List.mem_cons_self),h1]
  by_cases hb:wds b=[]
  ·refine⟨G,by rw [if_pos hb];rfl,?_⟩
   rw [h2,List.map_cons,List.filter_cons_of_neg (by simp [hb])]
  ·refine⟨scan q false none i b::G,by rw [if_neg hb];simp,?_⟩
   rw [List.map_cons,List.map_cons,tx_scan,List.filter_cons_of_pos (by simpa using hb),h2]
theorem lns_text (s:ByteArray):lns (textW s)=lnsB 1 0 s.data.toList:=by rw [textW_scan];rfl
def Pw (w:List UInt8):Prop:=∀ c ∈ w,c≠10∧c≠35∧ws c=false
theorem scan_in (q:Nat) (r:List UInt8):∀ (w:List UInt8),Pw w→∀ (p:Nat) (t:List UInt8) (i:Nat),scan q false (some (p,t)) i (w++r)=scan q false (some (p,t++w)) (i+w.length) r:=by
 intro w
 induction w with
 |nil=>intro _ p t i;simp
 |cons c w ih=>
  intro h p t i
  obtain⟨h1,h2,h3⟩:=h c List.mem_cons_self
  have e:=ih (fun d hd=>h d (List.mem_cons_of_mem _ hd)) p (t++[c]) (i+1)
  simp only [List.cons_append,scan]
  rw [if_neg h1,if_neg (by simp [h2]),if_neg (by simp [h3])]
  simp only [grow]
  rw [e,List.append_assoc]
  simp only [List.singleton_append,List.length_cons]
  rw [show i+1+w.length=i+(w.length+1) by omega]
theorem scan_word (q i:Nat) (w r:List UInt8) (hw:Pw w) (hn:w≠[]):scan q false none i (w++r)=scan q false (some (i,w)) (i+w.length) r:=by
 cases w with
 |nil=>exact absurd rfl hn
 |cons c w=>
  obtain⟨h1,h2,h3⟩:=hw c List.mem_cons_self
  simp only [List.cons_append,scan]
  rw [if_neg h1,if_neg (by simp [h2]),if_neg (by simp [h3])]
  simp only [grow]
  rw [scan_in q r w (fun d hd=>hw d (List.mem_cons_of_mem _ hd)),List.singleton_append]
  simp only [List.length_cons]
  rw [show i+1+w.length=i+(w.length+1) by omega]
theorem scan_blanks (q:Nat) (r:List UInt8):∀ (s:List UInt8),(∀ c ∈ s,ws c=true)→∀ (i:Nat),scan q false none i (s++r)=scan q false none (i+s.length) r:=by
 intro s
 induction s with
 |nil=>intro _ i;rfl
 |cons c s ih=>
  intro h i
  have h1:=h c List.mem_cons_self
  have c10:c≠10:=by rintro rfl;revert h1;decide
  have c35:c≠35:=by rintro rfl;revert h1;decide
  simp only [List.cons_append,scan]
  rw [if_neg c10,if_neg (by simp [c35]),if_pos h1,ih (fun d hd=>h d (List.mem_cons_of_mem _ hd))]
  simp only [emit,List.nil_append,List.length_cons]
  rw [show i+1+s.length=i+(s.length+1) by omega]
theorem scan_sep (q p i:Nat) (t s r:List UInt8) (hs:∀ c ∈ s,ws c=true) (hn:s≠[]):scan q false (some (p,t)) i (s++r)=⟨p,q,⟨t.toArray⟩⟩::scan q false none (i+s.length) r:=by
 cases s with
 |nil=>exact absurd rfl hn
 |cons c s=>
  have h1:=hs c List.mem_cons_self
  have c10:c≠10:=by rintro rfl;revert h1;decide
  have c35:c≠35:=by rintro rfl;revert h1;decide
  simp only [List.cons_append,scan]
  rw [if_neg c10,if_neg (by simp [c35]),if_pos h1,scan_blanks q r s (fun d hd=>hs d (List.mem_cons_of_mem _ hd))]
  simp only [emit,List.cons_append,List.nil_append,List.length_cons]
  rw [show i+1+s.length=i+(s.length+1) by omega]
def Tail (r:List UInt8):Prop:=∀ q p t i,scan q false (some (p,t)) i r=[⟨p,q,⟨t.toArray⟩⟩]
theorem tail_nil:Tail []:=fun _ _ _ _=>rfl
theorem tx_words (s:List UInt8) (hs:∀ c ∈ s,ws c=true) (hn:s≠[]) (r:List UInt8) (hr:Tail r):∀ (W:List (List UInt8)),W≠[]→(∀ w ∈ W,w≠[]∧Pw w)→∀ q i,tx (scan q false none i (Lib.join W s++r))=W.map (fun w=>⟨w.toArray⟩):=by
 intro W
 induction W with
 |nil=>intro h;exact absurd rfl h
 |cons w W ih=>
  intro _ h q i
  obtain⟨h1,h2⟩:=h w List.mem_cons_self
  cases W with
  |nil=>
   rw [Lib.join_one,scan_word q i w r h2 h1,hr]
   rfl
  |cons v W=>
   have e:Lib.join (w::v::W) s++r=w++(s++(Lib.join (v::W) s++r)):=by simp [Lib.join,List.intercalate,List.append_assoc]
   rw [e,scan_word q i w _ h2 h1,scan_sep q i _ w s _ hs hn]
   have:=ih (by simp) (fun x hx=>h x (List.mem_cons_of_mem _ hx)) q (i+w.length+s.length)
   unfold tx at this ⊢
   rw [List.map_cons,this]
   rfl
theorem wds_join (s:List UInt8) (hs:∀ c ∈ s,ws c=true) (hn:s≠[]) (r:List UInt8) (hr:Tail r) (W:List ByteArray) (hW:W≠[]) (h:∀ w ∈ W,w.data.toList≠[]∧Pw w.data.toList):wds (Lib.join (W.map (·.data.toList)) s++r)=W:=by
 have h1:=tx_words s hs hn r hr (W.map (·.data.toList)) (by simpa using hW) (fun w hw=>by
  obtain⟨v,hv,rfl⟩:=List.mem_map.1 hw
  exact h v hv) 0 0
 unfold wds
 rw [h1,List.map_map]
 conv=>rhs;rw [← List.map_id W]
 refine List.map_congr_left (fun w _=>?_)
 rfl
theorem itoa_pw (n:Int) (h:0≤n):itoa n≠[]∧∀ c ∈ itoa n,isD c:=by
 have e:itoa n=decDigits n.toNat:=by unfold itoa;rw [if_neg (by omega)]
 rw [e]
 exact⟨(dec_num _).2.2.1,(dec_num _).2.1⟩
theorem isD_pw {c:UInt8} (h:isD c):c≠10∧c≠35∧ws c=false:=by
 unfold isD at h
 refine⟨?_,?_,?_⟩
 ·rintro rfl;revert h;decide
 ·rintro rfl;revert h;decide
 ·by_cases h2:ws c=true
  ·unfold ws at h2
   simp at h2
   rcases h2 with rfl|rfl
   ·revert h;decide
   ·revert h;decide
  ·simpa using h2
theorem digB_pw {n:Int} (h:0≤n):(digB n).data.toList≠[]∧Pw (digB n).data.toList:=by
 rw [digB_data]
 exact⟨(itoa_pw n h).1,fun c hc=>isD_pw ((itoa_pw n h).2 c hc)⟩
theorem nameW_pw {name v:ByteArray} (hn:Pw name.data.toList) (hv:Pw v.data.toList):(nameW name v).data.toList≠[]∧Pw (nameW name v).data.toList:=by
 rw [nameW_data]
 refine⟨by simp,fun c hc=>?_⟩
 rcases List.mem_append.1 hc with hc|hc
 ·exact hn c hc
 ·rcases List.mem_cons.1 hc with rfl|hc
  ·decide
  ·exact hv c hc
theorem joinP_pw {l:List Int} (h:∀ y ∈ l,0≤y):Pw (joinP l).data.toList:=by
 have key:∀ (L:List (List UInt8)),(∀ x ∈ L,Pw x)→Pw (Lib.join L [44]):=by
  intro L
  induction L with
  |nil=>intro _ c hc;simp [Lib.join] at hc
  |cons x L ih=>
   intro hL c hc
   cases L with
   |nil=>rw [Lib.join_one] at hc;exact hL x List.mem_cons_self c hc
   |cons y L=>
    have e:Lib.join (x::y::L) [44]=x++44::Lib.join (y::L) [44]:=by simp [Lib.join,List.intercalate]
    rw [e] at hc
    rcases List.mem_append.1 hc with hc|hc
    ·exact hL x List.mem_cons_self c hc
    ·rcases List.mem_cons.1 hc with rfl|hc
     ·decide
     ·exact ih (fun z hz=>hL z (List.mem_cons_of_mem _ hz)) c hc
 have e:(joinP l).data.toList=Lib.join (l.map itoa) [44]:=by simp [joinP]
 rw [e]
 refine key _ (fun x hx=>?_)
 obtain⟨n,hn,rfl⟩:=List.mem_map.1 hx
 exact fun c hc=>isD_pw ((itoa_pw n (h n hn)).2 c hc)
def Sml (x:Tk):Prop:=(1≤x.id∧x.id≤99)∧(1≤x.p∧x.p≤99)∧(1≤x.c∧x.c≤x.d∧x.d≤x.t∧x.t≤1073741824)∧(∀ y ∈ x.ch,1≤y∧y≤1073741824)∧(∀ y ∈ x.us,0≤y∧y<256)
theorem Sml.of {x:Tk} {sets:Int} (hs:sets≤256) (h:rightE x.id x.c x.d x.t x.p x.ch x.us sets=0):Sml x:=by
 obtain⟨h1,h2,h3,_,h5,_,h7⟩:=rightE_small hs h
 exact⟨h1,h2,h3,h5,h7⟩
theorem taskW_pw {x:Tk} (h:Sml x):∀ w ∈ taskW x,w.data.toList≠[]∧Pw w.data.toList:=by
 obtain⟨h1,h2,h3,h4,h5⟩:=h
 have n0:Pw (⟨#[116,97,115,107]⟩:ByteArray).data.toList:=by unfold Pw;decide
 have n1:Pw (⟨#[99]⟩:ByteArray).data.toList:=by unfold Pw;decide
 have n2:Pw (⟨#[100]⟩:ByteArray).data.toList:=by unfold Pw;decide
 have n3:Pw (⟨#[116]⟩:ByteArray).data.toList:=by unfold Pw;decide
 have n4:Pw (⟨#[112]⟩:ByteArray).data.toList:=by unfold Pw;decide
 have n5:Pw (⟨#[99,104,117,110,107,115]⟩:ByteArray).data.toList:=by unfold Pw;decide
 have n6:Pw (⟨#[117,115,101]⟩:ByteArray).data.toList:=by unfold Pw;decide
 have d0:=digB_pw (n:=x.id) (by omega)
 have d1:=digB_pw (n:=x.c) (by omega)
 have d2:=digB_pw (n:=x.d) (by omega)
 have d3:=digB_pw (n:=x.t) (by omega)
 have d4:=digB_pw (n:=x.p) (by omega)
 have j5:=joinP_pw (l:=x.ch) (fun y hy=>by have:=h4 y hy;omega)
 have j6:=joinP_pw (l:=x.us) (fun y hy=>by have:=h5 y hy;omega)
 intro w hw
 unfold taskW at hw
 rcases List.mem_append.1 hw with hw|hw
 ·simp only [List.mem_cons,List.not_mem_nil,or_false] at hw
  rcases hw with rfl|rfl|rfl|rfl|rfl|rfl
  ·exact⟨by decide,n0⟩
  ·exact d0
  ·exact nameW_pw n1 d1.2
  ·exact nameW_pw n2 d2.2
  ·exact nameW_pw n3 d3.2
  ·exact nameW_pw n4 d4.2
 ·rcases List.mem_append.1 hw with hw|hw
  ·split at hw
   ·simp only [List.mem_cons,List.not_mem_nil,or_false] at hw
    rw [hw]
    exact nameW_pw n5 j5
   ·cases hw
  ·split at hw
   ·simp only [List.mem_cons,List.not_mem_nil,or_false] at hw
    rw [hw]
    exact nameW_pw n6 j6
   ·cases hw
theorem taskW_ne (x:Tk):taskW x≠[]:=by unfold taskW;simp
theorem lineP_join (x:Tk):(lineP x).data.toList=Lib.join ((taskW x).map (·.data.toList)) [32]:=by
 unfold lineP lineC lineN taskW
 by_cases h1:0<x.ch.length
 ·by_cases h2:0<x.us.length
  ·simp [h1,h2,nameW,Lib.join,List.intercalate,ByteArray.data_append]
  ·simp [h1,h2,nameW,Lib.join,List.intercalate,ByteArray.data_append]
 ·by_cases h2:0<x.us.length
  ·simp [h1,h2,nameW,Lib.join,List.intercalate,ByteArray.data_append]
  ·simp [h1,h2,nameW,Lib.join,List.intercalate,ByteArray.data_append]
def headW (sets rel:Int):List ByteArray:=[⟨#[99,97,99,104,101]⟩,digB sets,digB rel]
def headL (sets rel:Int):List UInt8:=Lib.join ((headW sets rel).map (·.data.toList)) [32]
theorem headT_lines (sets rel:Int):(headT sets rel).data.toList=headL sets rel++[10]:=by
 simp [headT,headL,headW,Lib.join,List.intercalate,ByteArray.data_append]
theorem headW_pw {sets rel:Int} (h1:0≤sets) (h2:0≤rel):∀ w ∈ headW sets rel,w.data.toList≠[]∧Pw w.data.toList:=by
 intro w hw
 unfold headW at hw
 simp only [List.mem_cons,List.not_mem_nil,or_false] at hw
 rcases hw with rfl|rfl|rfl
 ·exact⟨by decide,by unfold Pw;decide⟩
 ·exact digB_pw h1
 ·exact digB_pw h2
theorem join_no10 (s:List UInt8) (hs:(10:UInt8) ∉ s):∀ (W:List (List UInt8)),(∀ w ∈ W,Pw w)→(10:UInt8) ∉ Lib.join W s:=by
 intro W
 induction W with
 |nil=>intro _ hc;simp [Lib.join] at hc
 |cons x L ih=>
  intro hL hc
  cases L with
  |nil=>rw [Lib.join_one] at hc;exact (hL x List.mem_cons_self 10 hc).1 rfl
  |cons y L=>
   have e:Lib.join (x::y::L) s=x++(s++Lib.join (y::L) s):=by simp [Lib.join,List.intercalate]
   rw [e] at hc
   rcases List.mem_append.1 hc with hc|hc
   ·exact (hL x List.mem_cons_self 10 hc).1 rfl
   ·rcases List.mem_append.1 hc with hc|hc
    ·exact hs hc
    ·exact ih (fun z hz=>hL z (List.mem_cons_of_mem _ hz)) hc
def prnL (sets rel:Int) (L:List Tk):List (List UInt8):=headL sets rel::L.map (fun x=>(lineP x).data.toList)
theorem goT_lines:∀ (L:List Tk),(∀ x ∈ L,lineT x=lineP x)→∀ h,(goT h L).data.toList=h.data.toList++linesB (L.map (fun x=>(lineP x).data.toList)):=by
 intro L
 induction L with
 |nil=>intro _ h;simp [goT,linesB]
 |cons x L ih=>
  intro hL h
  rw [goT,ih (fun y hy=>hL y (List.mem_cons_of_mem _ hy)),hL x List.mem_cons_self]
  simp [linesB,ByteArray.data_append]
theorem rightE_more {x:Tk} {sets:Int} (hs:sets≤256) (h:rightE x.id x.c x.d x.t x.p x.ch x.us sets=0):lineT x=lineP x:=by
 unfold lineT
 rw [if_pos]
 unfold rightE at h ⊢
 split at h
 ·rename_i h1
  split at h
  ·rename_i h2
   split at h
   ·rename_i h3
    split at h
    ·rename_i h4
     have h5:x.us.any (farB 256)=false:=by
      refine List.any_eq_false.2 (fun y hy=>?_)
      have:=List.any_eq_false.1 h4.2 y hy
      unfold farB at this ⊢
      simp at this ⊢
      omega
     rw [if_pos h1,if_pos h2,if_pos h3,if_pos ⟨h4.1,h5⟩]
    ·cases h
   ·cases h
  ·cases h
 ·cases h
theorem checkGo_all {sets:Int}:∀ (L:List Tk) (last:Int) (met:List Int),checkGo sets last met L=0→∀ x ∈ L,rightE x.id x.c x.d x.t x.p x.ch x.us sets=0:=by
 intro L
 induction L with
 |nil=>intro _ _ _ x hx;cases hx
 |cons y L ih=>
  intro last met h x hx
  rw [checkGo] at h
  split at h
  ·rename_i h1
   split at h
   ·cases h
   ·split at h
    ·cases h
    ·rcases List.mem_cons.1 hx with rfl|hx
     ·exact h1
     ·exact ih _ _ h x hx
  ·rename_i h1;exact absurd h h1
theorem checkGo_take {sets:Int}:∀ (L M:List Tk) (last:Int) (met:List Int),checkGo sets last met (L++M)=0→checkGo sets last met L=0:=by
 intro L
 induction L with
 |nil=>intro _ _ _ _;rfl
 |cons y L ih=>
  intro M last met h
  rw [List.cons_append,checkGo] at h
  rw [checkGo]
  split at h
  ·rename_i h1
   split at h
   ·cases h
   ·rename_i h2
    split at h
    ·cases h
    ·rename_i h3
     rw [if_pos h1,if_neg h2,if_neg h3]
     exact ih M _ _ h
  ·rename_i h1;exact absurd h h1
theorem checkE_says {sets rel:Int} {L:List Tk} (h:checkE sets rel L=0):(0≤sets∧sets≤256)∧(0≤rel∧rel≤1000)∧L≠[]∧(∀ x ∈ L,Sml x∧lineT x=lineP x)∧∀ M N,L=M++N→M≠[]→checkE sets rel M=0:=by
 have hs:=checkE_small h
 obtain⟨s1,s2,s3,s4⟩:=hs
 unfold checkE at h
 split at h
 ·rename_i h1
  refine⟨s1,s2,by intro e;rw [e] at s3;exact absurd s3 (by decide),fun x hx=>?_,fun M N e hM=>?_⟩
  ·have hx:=checkGo_all L _ _ h x hx
   exact⟨Sml.of s1.2 hx,rightE_more s1.2 hx⟩
  ·subst e
   unfold checkE
   rw [List.length_append] at s4
   have hl:=List.length_pos_iff.2 hM
   rw [if_pos ⟨h1.1,h1.2.1,by omega⟩,if_pos (by omega)]
   exact checkGo_take M N _ _ h
 ·cases h
theorem printT_lines {sets rel:Int} {L:List Tk} (h:checkE sets rel L=0):(printT sets rel L).data.toList=linesB (prnL sets rel L):=by
 obtain⟨_,_,_,h4,_⟩:=checkE_says h
 unfold printT
 rw [goT_lines L (fun x hx=>(h4 x hx).2),headT_lines]
 simp [prnL,linesB]
def prnW (sets rel:Int) (L:List Tk):List (List ByteArray):=headW sets rel::L.map taskW
theorem goP_good {sets rel size:Int}:∀ (L:List Tk) (G:List (List Wd)) (acc:List Tk) (rest:List (List Wd)),G.map tx=L.map taskW→(∀ x ∈ L,Sml x)→(∀ M N,L=M++N→M≠[]→checkE sets rel (acc++M)=0)→goP sets rel size acc (G++rest)=goP sets rel size (acc++L) rest:=by
 intro L
 induction L with
 |nil=>
  intro G acc rest h _ _
  rw [List.map_eq_nil_iff.1 h]
  simp
 |cons x L ih=>
  intro G acc rest h hS hC
  cases G with
  |nil=>cases h
  |cons g G=>
   simp only [List.map_cons,List.cons.injEq] at h
   have hg:taskG g=.ok x:=taskG_words h.1 (hS x List.mem_cons_self)
   have hc:=hC [x] L rfl (by simp)
   rw [List.cons_append,goP,hg]
   simp only
   rw [if_pos hc,ih G (acc++[x]) rest h.2 (fun y hy=>hS y (List.mem_cons_of_mem _ hy)) (fun M N e hM=>by
    rw [List.append_assoc]
    exact hC (x::M) N (by rw [e];rfl) (by simp))]
   simp
theorem parse_lines {sets rel size:Int} {L:List Tk} (h:checkE sets rel L=0) {G rest:List (List Wd)} (hG:G.map tx=prnW sets rel L) {s:ByteArray} (hs:lns (textW s)=G++rest) (hz:(s.size:Int)=size):parseP s=goP sets rel size L rest:=by
 obtain⟨h1,h2,h3,h4,h5⟩:=checkE_says h
 unfold prnW at hG
 cases G with
 |nil=>cases hG
 |cons g G=>
  simp only [List.map_cons,List.cons.injEq] at hG
  have hh:headG g=.ok (sets,rel):=headG_words hG.1 h1 h2
  unfold parseP
  rw [hs,List.cons_append]
  simp only
  rw [hh]
  simp only
  rw [hz]
  have:=goP_good (sets:=sets) (rel:=rel) (size:=size) L G [] rest hG.2 (fun x hx=>(h4 x hx).1) (fun M N e hM=>by rw [List.nil_append];exact h5 M N e hM)
  rw [this,List.nil_append]
theorem prnL_wds {sets rel:Int} {L:List Tk} (h:checkE sets rel L=0):(∀ b ∈ prnL sets rel L,(10:UInt8) ∉ b)∧(prnL sets rel L).map wds=prnW sets rel L∧((prnL sets rel L).map wds).filter (fun w=>!w.isEmpty)=prnW sets rel L:=by
 obtain⟨h1,h2,h3,h4,h5⟩:=checkE_says h
 have e32:∀ c ∈ ([32]:List UInt8),ws c=true:=by decide
 have hh:=headW_pw h1.1 h2.1
 have kh:wds (headL sets rel)=headW sets rel:=by
  have:=wds_join [32] e32 (by simp) [] tail_nil (headW sets rel) (by simp [headW]) hh
  rwa [List.append_nil] at this
 have kt:∀ x ∈ L,wds (lineP x).data.toList=taskW x:=fun x hx=>by
  have:=wds_join [32] e32 (by simp) [] tail_nil (taskW x) (taskW_ne x) (taskW_pw (h4 x hx).1)
  rwa [List.append_nil,← lineP_join] at this
 have km:(prnL sets rel L).map wds=prnW sets rel L:=by
  unfold prnL prnW
  rw [List.map_cons,kh,List.map_map]
  congr 1
  exact List.map_congr_left (fun x hx=>kt x hx)
 refine⟨fun b hb=>?_,km,?_⟩
 ·unfold prnL at hb
  rcases List.mem_cons.1 hb with rfl|hb
  ·refine join_no10 [32] (by decide) _ (fun w hw=>?_)
   obtain⟨v,hv,rfl⟩:=List.mem_map.1 hw
   exact (hh v hv).2
  ·obtain⟨x,hx,rfl⟩:=List.mem_map.1 hb
   rw [lineP_join]
   refine join_no10 [32] (by decide) _ (fun w hw=>?_)
   obtain⟨v,hv,rfl⟩:=List.mem_map.1 hw
   exact (taskW_pw (h4 x hx).1 v hv).2
 ·rw [km]
  refine List.filter_eq_self.2 (fun w hw=>?_)
  unfold prnW at hw
  rcases List.mem_cons.1 hw with rfl|hw
  ·rfl
  ·obtain⟨x,hx,rfl⟩:=List.mem_map.1 hw
   have:=taskW_ne x
   cases ht:taskW x with
   |nil=>exact absurd ht this
   |cons a l=>rfl
end Go.Proofs.YtcfknijdhmildaaDoor
end
section
namespace Go.Proofs.YtcfknijdhmildaaDoor.PParseFirst
open Go.RowKit Go.Shelf Go.Lib Go.Proofs.YtcfknijdhmildaaDoorW.PrintWords
theorem sum_nonneg:∀ l:List Int,(∀ y ∈ l,1≤y)→0≤l.sum:=by
 intro l
 induction l with
 |nil=>intro _;simp
 |cons x r ih=>
  intro h
  have h1:=h x List.mem_cons_self
  have h2:=ih (fun y hy=>h y (List.mem_cons_of_mem _ hy))
  rw [List.sum_cons]
  omega
theorem chunkL_sum:∀ (l:List Int) (z:Int),(∀ y ∈ l,1≤y)→0≤z→chunkL (l.sum+z) l=some z:=by
 intro l
 induction l with
 |nil=>intro z _ _;simp [chunkL]
 |cons x r ih=>
  intro z h hz
  have h1:=h x List.mem_cons_self
  have h2:=sum_nonneg r (fun y hy=>h y (List.mem_cons_of_mem _ hy))
  have h3:=ih z (fun y hy=>h y (List.mem_cons_of_mem _ hy)) hz
  rw [chunkL,List.sum_cons,if_pos ⟨h1,by omega⟩,show x+r.sum+z - x=r.sum+z by omega]
  exact h3
theorem good_right {i:Nat} (hi:i<6) {sets:Int} {t:S52} (h:GoodTask i sets t):rightE t.f0 t.f1 t.f2 t.f3 t.f4 t.f5 t.f6 sets=0:=by
 have h1:=h.id
 have h2:=h.c1
 have h3:=h.cd
 have h4:=h.dt
 have h5:=h.t24
 have h6:=h.p1
 have h7:=h.p99
 have hc:chunksB t.f1 t.f5=true:=by
  unfold chunksB
  rcases h.chs with e|e
  ·rw [e];simp [chunkL,chunkFin]
  ·have:=chunkL_sum t.f5 0 h.ch1 (by omega)
   rw [Int.add_zero,e] at this
   rw [this]
   have hl:=h.chl
   have e1:decide (t.f5.length≤64)=true:=decide_eq_true (by omega)
   unfold chunkFin
   simp [e1]
 have hu:t.f6.length≤64∧t.f6.any (farB sets)=false:=by
  refine⟨by have:=h.usl;omega,List.any_eq_false.2 (fun y hy=>?_)⟩
  have:=h.us y hy
  unfold farB
  simp
  omega
 unfold rightE inB
 rw [if_pos ⟨decide_eq_true (by omega),decide_eq_true (by omega)⟩,if_pos ⟨decide_eq_true (by omega),decide_eq_true (by omega),by omega⟩,if_pos hc,if_pos hu]
theorem good_go {sets rel:Int} {l:List S52} (h:GoodSys sets rel l):∀ (n i:Nat),i+n=l.length→checkGo sets (i:Int) (((l.map tkOf).take i).map (·.p)) ((l.map tkOf).drop i)=0:=by
 have h6:=h.l6
 intro n
 induction n with
 |zero=>
  intro i hi
  rw [List.drop_eq_nil_of_le (by simp;omega)]
  rfl
 |succ n ih=>
  intro i hi
  have hil:i<l.length:=by omega
  have hil':i<(l.map tkOf).length:=by simpa using hil
  have hg:=h.task i hil
  have he:(l.map tkOf)[i]=tkOf l[i]:=by simp
  have hr:=good_right (by omega) hg
  rw [checkGo_step hil',he]
  have hr':rightE (tkOf l[i]).id (tkOf l[i]).c (tkOf l[i]).d (tkOf l[i]).t (tkOf l[i]).p (tkOf l[i]).ch (tkOf l[i]).us sets=0:=hr
  rw [if_pos hr']
  have hid:(tkOf l[i]).id=(i:Int)+1:=hg.id
  rw [if_neg (by omega)]
  have hp:(tkOf l[i]).p ∉ ((l.map tkOf).take i).map (·.p):=by
   intro hm
   rw [List.mem_map] at hm
   obtain⟨y,hy,hyp⟩:=hm
   obtain⟨j,hj,hjy⟩:=List.mem_iff_getElem.1 hy
   rw [List.length_take] at hj
   have hjl:j<l.length:=by omega
   have hji:j<i:=by omega
   have e:y=tkOf l[j]:=by rw [← hjy];simp
   have hgj:=h.task j hjl
   have q1:l[j].f4 % 10=(j:Int):=hgj.pi
   have q2:l[i].f4 % 10=(i:Int):=hg.pi
   rw [e] at hyp
   have q3:l[j].f4=l[i].f4:=hyp
   rw [q3] at q1
   omega
  rw [if_neg hp]
  have hn:=ih (i+1) (by omega)
  have htk:((l.map tkOf).take (i+1)).map (·.p)=((l.map tkOf).take i).map (·.p)++[(tkOf l[i]).p]:=by
   rw [List.take_add_one,List.getElem?_eq_getElem hil',List.map_append,he];rfl
  rw [htk,Int.natCast_succ,← hid] at hn
  exact hn
theorem goT_ge (L:List Tk):∀ h,h.size≤(goT h L).size:=by
 induction L with
 |nil=>intro h;exact Nat.le_refl _
 |cons x r ih=>
  intro h
  have h1:=ih ((h++lineT x)++⟨#[10]⟩)
  simp only [ByteArray.size_append,goT] at h1 ⊢
  omega
theorem good_check {sets rel:Int} {l:List S52} (h:GoodSys sets rel l):checkE sets rel (l.map tkOf)=0∧0<(printT sets rel (l.map tkOf)).size∧(printT sets rel (l.map tkOf)).size≤20000:=by
 have h1:=h.s1
 have h2:=h.s8
 have h3:=h.r0
 have h4:=h.r3
 have h5:=h.l1
 have h6:=h.l6
 refine⟨?_,?_,?_⟩
 ·have hg:=good_go h l.length 0 (by omega)
  unfold checkE inB
  rw [if_pos ⟨decide_eq_true (by omega),decide_eq_true (by omega),by rw [List.length_map];omega⟩,if_pos (by rw [List.length_map];omega)]
  simpa using hg
 ·have hh:6≤(headT sets rel).size:=by
   have z0:(⟨#[99,97,99,104,101,32]⟩:ByteArray).size=6:=rfl
   unfold headT
   simp only [ByteArray.size_append]
   omega
  have:=goT_ge (l.map tkOf) (headT sets rel)
  unfold printT
  omega
 ·have hh:=headT_size sets rel (by omega) (by omega)
  have:=goT_size (l.map tkOf) (headT sets rel)
  rw [List.length_map] at this
  unfold printT
  omega
theorem good_small {sets rel:Int} {l:List S52} (h:GoodSys sets rel l):∀ x ∈ l.map tkOf,x.ch.length≤1000000∧x.us.length≤1000000∧x.c≤9223372036854775807:=by
 intro x hx
 obtain⟨y,hy,rfl⟩:=List.mem_map.1 hx
 obtain⟨j,hj,rfl⟩:=List.mem_iff_getElem.1 hy
 have hg:=h.task j hj
 have a1:=hg.chl
 have a2:=hg.usl
 have a3:=hg.cd
 have a4:=hg.dt
 have a5:=hg.t24
 exact⟨by show l[j].f5.length≤_;omega,by show l[j].f6.length≤_;omega,by show l[j].f1≤_;omega⟩
end Go.Proofs.YtcfknijdhmildaaDoor.PParseFirst
end
section
namespace Go.Proofs.YtcfknijdhmildaaDoor
open Go.RowKit Go.Shelf Go.Lib Go.Proofs.YtcfknijdhmildaaDoorW.PrintWords
theorem emit_end {q i:Nat} {cur:Option (Nat × List UInt8)} (h:∀ p t,cur=some (p,t)→p+t.length=i):∀ x ∈ emit q cur,0≤x.p∧x.p+(x.t.size:Int)≤(i:Int):=by
 intro x hx
 cases cur with
 |none=>simp [emit] at hx
 |some c=>
  obtain⟨p,t⟩:=c
  have h1:=h p t rfl
  simp [emit] at hx
  subst hx
  refine⟨by simp,?_⟩
  show (p:Int)+(t.toArray.size:Int)≤(i:Int)
  rw [List.size_toArray]
  omega
theorem scan_end:∀ (l:List UInt8) (q:Nat) (off:Bool) (cur:Option (Nat × List UInt8)) (i:Nat),(∀ p t,cur=some (p,t)→p+t.length=i)→∀ x ∈ scan q off cur i l,0≤x.p∧x.p+(x.t.size:Int)≤((i+l.length:Nat):Int):=by
 intro l
 induction l with
 |nil=>intro q off cur i h x hx;exact emit_end h x hx
 |cons c l ih=>
  intro q off cur i h x hx
  have hem:x ∈ emit q cur→0≤x.p∧x.p+(x.t.size:Int)≤((i+(c::l).length:Nat):Int):=fun he=>by
   have:=emit_end h x he
   simp only [List.length_cons]
   omega
  have hn:∀ (p:Nat) (t:List UInt8),(none:Option (Nat × List UInt8))=some (p,t)→p+t.length=i+1:=fun _ _ e=>by cases e
  have hl:i+1+l.length=i+(c::l).length:=by simp;omega
  simp only [scan] at hx
  split at hx
  ·rcases List.mem_append.1 hx with hx|hx
   ·exact hem hx
   ·rw [← hl];exact ih _ _ _ _ hn x hx
  ·split at hx
   ·rcases List.mem_append.1 hx with hx|hx
    ·exact hem hx
    ·rw [← hl];exact ih _ _ _ _ hn x hx
   ·split at hx
    ·rcases List.mem_append.1 hx with hx|hx
     ·exact hem hx
     ·rw [← hl];exact ih _ _ _ _ hn x hx
    ·rw [← hl]
     refine ih _ _ _ _ (fun p t e=>?_) x hx
     cases cur with
     |none=>simp [grow] at e;rw [← e.1,← e.2];simp
     |some d=>
      obtain⟨p',t'⟩:=d
      have:=h p' t' rfl
      simp [grow] at e
      rw [← e.1,← e.2]
      simp
      omega
theorem text_end (s:ByteArray):∀ x ∈ textW s,0≤x.p∧x.p+(x.t.size:Int)≤(s.size:Int):=by
 intro x hx
 rw [textW_scan] at hx
 have:=scan_end s.data.toList 1 false none 0 (fun _ _ h=>by cases h) x hx
 rw [Nat.zero_add,← Lib.size_eq] at this
 exact this
theorem wrongP_at {g:List Wd} {n:Int} (h:∀ x ∈ g,0≤x.p∧x.p+(x.t.size:Int)≤n) (hn:0≤n∧n≤9223372036854775807) (k:Nat):0≤wrongP g k∧wrongP g k≤n:=by
 unfold wrongP
 cases hx:g[k]? with
 |some x=>
  have:=h x (List.mem_of_getElem? hx)
  simp only
  omega
 |none=>
  simp only
  unfold endP
  cases hy:g.getLast? with
  |none=>exact⟨Int.le_refl _,hn.1⟩
  |some y=>
   have:=h y (List.mem_of_getLast? hy)
   simp only
   rw [qaG (by omega) (by omega)]
   omega
theorem taskG_wrong {g:List Wd} {p:Int} (h:taskG g=.error p):∃ k,p=wrongP g k:=by
 unfold taskG at h
 repeat' split at h
 all_goals first|(injection h with h;exact⟨_,h.symm⟩)|cases h
theorem headG_wrong {g:List Wd} {p:Int} (h:headG g=.error p):∃ k,p=wrongP g k:=by
 unfold headG at h
 repeat' split at h
 all_goals first|(injection h with h;exact⟨_,h.symm⟩)|cases h
theorem goP_says {sets rel size:Int} (h0:0≤size∧size≤9223372036854775807):∀ (r:List (List Wd)) (acc:List Tk),(∀ g ∈ r,∀ x ∈ g,0≤x.p∧x.p+(x.t.size:Int)≤size)→(acc=[]∨checkE sets rel acc=0) →
  (∃ L,goP sets rel size acc r=(sets,rel,L,size,0)∧L≠[]∧checkE sets rel L=0∧L.length=acc.length+r.length)∨∃ at_ e,goP sets rel size acc r=(0,0,[],at_,e)∧e≠0∧0≤at_∧at_≤size:=by
 intro r
 induction r with
 |nil=>
  intro acc _ ha
  unfold goP
  by_cases hl:acc.length=0
  ·rw [if_pos hl];exact .inr ⟨size,1,rfl,by decide,h0.1,Int.le_refl _⟩
  ·rw [if_neg hl]
   rcases ha with rfl|ha
   ·exact absurd rfl hl
   ·exact .inl ⟨acc,rfl,fun e=>hl (by rw [e];rfl),ha,rfl⟩
 |cons g r ih=>
  intro acc hb ha
  have hg:=hb g List.mem_cons_self
  unfold goP
  cases ht:taskG g with
  |error p=>
   obtain⟨k,rfl⟩:=taskG_wrong ht
   have:=wrongP_at hg h0 k
   exact .inr ⟨_,10,rfl,by decide,this.1,this.2⟩
  |ok x=>
   simp only
   by_cases hc:checkE sets rel (acc++[x])=0
   ·rw [if_pos hc]
    rcases ih (acc++[x]) (fun y hy=>hb y (List.mem_cons_of_mem _ hy)) (.inr hc) with ⟨L,h1,h2,h3,h4⟩|h1
    ·exact .inl ⟨L,h1,h2,h3,by rw [h4];simp;omega⟩
    ·exact .inr h1
   ·rw [if_neg hc]
    refine .inr ⟨_,_,rfl,hc,?_⟩
    cases g with
    |nil=>exact⟨Int.le_refl _,h0.1⟩
    |cons y g=>
     have:=hg y List.mem_cons_self
     show 0≤y.p∧y.p≤size
     omega
theorem parseP_says (s:ByteArray) (hs:s.size≤65536) :
  (∃ sets rel L g G,parseP s=(sets,rel,L,(s.size:Int),0)∧L≠[]∧checkE sets rel L=0∧lns (textW s)=g::G∧headG g=.ok (sets,rel)∧L.length=G.length) ∨
  ∃ at_ e,parseP s=(0,0,[],at_,e)∧e≠0∧0≤at_∧at_≤(s.size:Int):=by
 have hb:∀ g ∈ lns (textW s),∀ x ∈ g,0≤x.p∧x.p+(x.t.size:Int)≤(s.size:Int):=fun g hg x hx=>text_end s x (lns_mem _ g hg x hx)
 have h0:(0:Int)≤(s.size:Int)∧(s.size:Int)≤9223372036854775807:=by omega
 unfold parseP
 cases hl:lns (textW s) with
 |nil=>exact .inr ⟨_,_,rfl,by decide,h0.1,Int.le_refl _⟩
 |cons g G=>
  rw [hl] at hb
  simp only
  cases hh:headG g with
  |error p=>
   obtain⟨k,rfl⟩:=headG_wrong hh
   have:=wrongP_at (hb g List.mem_cons_self) h0 k
   exact .inr ⟨_,_,rfl,by decide,this.1,this.2⟩
  |ok x=>
   simp only
   rcases goP_says (sets:=x.1) (rel:=x.2) h0 G [] (fun y hy=>hb y (List.mem_cons_of_mem _ hy)) (.inl rfl) with ⟨L,h1,h2,h3,h4⟩|⟨a,e,h1,h2,h3⟩
   ·exact .inl ⟨x.1,x.2,L,g,G,h1,h2,h3,rfl,hh,by rw [h4];simp⟩
   ·exact .inr ⟨a,e,h1,h2,h3⟩
end Go.Proofs.YtcfknijdhmildaaDoor
end
section
set_option linter.unusedVariables false
namespace Go.Proofs.YtcfknijdhmildaaDoor.PParseFirst
open Go.RowKit Go.Lib Go.Proofs.YtcfknijdhmildaaDoorW.PrintWords
theorem taskG_ok {g:List Wd} {x:Tk} (h:taskG g=.ok x):nextP g 0=⟨#[116,97,115,107]⟩∧(numP (nextP g 1) 99).2=true∧(namedP (nextP g 2) ⟨#[99]⟩ 1073741824).2=true ∧
  rowK (nextP g (rowK (nextP g 6) ⟨#[99,104,117,110,107,115]⟩ 6)) ⟨#[117,115,101]⟩ (rowK (nextP g 6) ⟨#[99,104,117,110,107,115]⟩ 6)=g.length ∧
  x.id=(numP (nextP g 1) 99).1∧x.c=(namedP (nextP g 2) ⟨#[99]⟩ 1073741824).1∧x.d=(namedP (nextP g 3) ⟨#[100]⟩ 1073741824).1:=by
 unfold taskG at h
 repeat' split at h
 all_goals first|cases h
 refine⟨by assumption,by assumption,by assumption,by assumption,rfl,rfl,rfl⟩
def BadT (B:ByteArray):Prop:=(10:UInt8) ∉ B.data.toList∧B.size≤30∧wds B.data.toList≠[] ∧
 ∀ W x,tx W=wds B.data.toList→taskG W=.ok x→∀ s rl L,checkE s rl (L++[x])≠0
theorem right_of {s rl:Int} {L:List Tk} {x:Tk} (h:checkE s rl (L++[x])=0):Sml x:=(checkE_says h).2.2.2.1 x (by simp) |>.1
theorem nextP_tx {W:List Wd} {T:List ByteArray} (h:tx W=T) (k:Nat):nextP W k=(T[k]?).getD ByteArray.empty:=by
 rw [qaH,← h]
 rfl
theorem bad0:BadT ⟨#[116,97,115,107,32,48,32,99,61,49,32,100,61,49,32,116,61,49,32,112,61,57,57]⟩:=by
 refine⟨by decide,by decide,by decide,fun W x hW hx s rl L hc=>?_⟩
 have h1:=(taskG_ok hx).2.2.2.2.1
 have n1:nextP W 1=digB 0:=by rw [nextP_tx hW];kernel_rfl
 rw [n1,numP_dig (by decide) (by decide)] at h1
 have:=(right_of hc).1
 simp only at h1
 omega
theorem bad1:BadT ⟨#[116,97,115,107,32,57,56]⟩:=by
 refine⟨by decide,by decide,by decide,fun W x hW hx s rl L hc=>?_⟩
 have h1:=(taskG_ok hx).2.2.1
 have n2:nextP W 2=ByteArray.empty:=by rw [nextP_tx hW];kernel_rfl
 have g5:(namedP ByteArray.empty ⟨#[99]⟩ 1073741824).2=false:=by unfold namedP;rw [pairV_empty];rfl
 rw [n2,g5] at h1
 cases h1
theorem bad2:BadT ⟨#[116,97,115,107,32,57,56,32,99,61,49,32,100,61,49,32,116,61,49,32,112,61,57,56,32,120]⟩:=by
 refine⟨by decide,by decide,by decide,fun W x hW hx s rl L hc=>?_⟩
 have h1:=(taskG_ok hx).2.2.2.1
 have n6:nextP W 6=⟨#[120]⟩:=by rw [nextP_tx hW];kernel_rfl
 have hl:W.length=7:=by
  have:=congrArg List.length hW
  unfold tx at this
  rw [List.length_map] at this
  exact this.trans (by decide)
 have i1:isNamed ⟨#[120]⟩ ⟨#[99,104,117,110,107,115]⟩=false:=by decide
 have i2:isNamed ⟨#[120]⟩ ⟨#[117,115,101]⟩=false:=by decide
 have r1:rowK ⟨#[120]⟩ ⟨#[99,104,117,110,107,115]⟩ 6=6:=by unfold rowK;rw [i1];rfl
 have r2:rowK ⟨#[120]⟩ ⟨#[117,115,101]⟩ 6=6:=by unfold rowK;rw [i2];rfl
 rw [n6,r1,n6,r2,hl] at h1
 omega
theorem bad3:BadT ⟨#[116,97,115,107,32,57,56,32,99,61,48,49,32,100,61,49,32,116,61,49,32,112,61,57,56]⟩:=by
 refine⟨by decide,by decide,by decide,fun W x hW hx s rl L hc=>?_⟩
 have h1:=(taskG_ok hx).2.2.1
 have n2:nextP W 2=nameW ⟨#[99]⟩ ⟨#[48,49]⟩:=by rw [nextP_tx hW];kernel_rfl
 have hn:¬ NumOk (⟨#[48,49]⟩:ByteArray).data.toList 1073741824:=fun h=>by
  have:=h.1.2
  revert this
  decide
 have g:(namedP (nameW ⟨#[99]⟩ ⟨#[48,49]⟩) ⟨#[99]⟩ 1073741824).2=false:=by
  unfold namedP
  rw [pairV_named _ _ (by decide)]
  simp only
  unfold numP
  rw [if_neg hn]
  simp
 rw [n2,g] at h1
 cases h1
theorem bad4:BadT ⟨#[116,97,115,107,115,32,57,56,32,99,61,49,32,100,61,49,32,116,61,49,32,112,61,57,56]⟩:=by
 refine⟨by decide,by decide,by decide,fun W x hW hx s rl L hc=>?_⟩
 have h1:=(taskG_ok hx).1
 have n0:nextP W 0=⟨#[116,97,115,107,115]⟩:=by rw [nextP_tx hW];kernel_rfl
 rw [n0] at h1
 revert h1
 decide
theorem bad5:BadT ⟨#[116,97,115,107,32,57,56,32,99,61,50,32,100,61,49,32,116,61,49,32,112,61,57,56]⟩:=by
 refine⟨by decide,by decide,by decide,fun W x hW hx s rl L hc=>?_⟩
 have h1:=(taskG_ok hx).2.2.2.2.2
 have n2:nextP W 2=nameW ⟨#[99]⟩ (digB 2):=by rw [nextP_tx hW];kernel_rfl
 have n3:nextP W 3=nameW ⟨#[100]⟩ (digB 1):=by rw [nextP_tx hW];kernel_rfl
 rw [n2,n3,qaT (by decide) (by decide) (by decide),qaT (by decide) (by decide) (by decide)] at h1
 have:=(right_of hc).2.2.1
 simp only at h1
 omega
theorem wrongP_ge {g:List Wd} {i n:Int} (h:∀ x ∈ g,i≤x.p∧0≤x.p∧x.p+(x.t.size:Int)≤n) (hg:g≠[]) (hn:n≤9223372036854775807) (k:Nat):i≤wrongP g k:=by
 unfold wrongP
 cases hx:g[k]? with
 |some x=>exact (h x (List.mem_of_getElem? hx)).1
 |none=>
  simp only
  unfold endP
  cases hy:g.getLast? with
  |none=>exact absurd (List.getLast?_eq_none_iff.1 hy) hg
  |some y=>
   have:=h y (List.mem_of_getLast? hy)
   simp only
   rw [qaG (by omega) (by omega)]
   omega
theorem parse_first {s rl:Int} {L:List Tk} (h:checkE s rl L=0) {B:ByteArray} (hB:BadT B) {u v r:ByteArray} (hu:u=printT s rl L++B) (hv:v=(u++⟨#[10]⟩)++r) (hz:u.size≤65536) :
  ∃ a e,parseP u=(0,0,[],a,e)∧parseP v=(0,0,[],a,e)∧e≠0∧((printT s rl L).size:Int)≤a∧a≤(u.size:Int):=by
 obtain⟨b1,b2,b3,b4⟩:=hB
 obtain⟨p1,p2,p3⟩:=prnL_wds h
 have du:u.data.toList=linesB (prnL s rl L)++B.data.toList:=by
  rw [hu,ByteArray.data_append,Array.toList_append,printT_lines h]
 have dv:v.data.toList=linesB (prnL s rl L)++(B.data.toList++10::r.data.toList):=by
  rw [hv,ByteArray.data_append,Array.toList_append,ByteArray.data_append,Array.toList_append,du]
  simp
 obtain⟨G,g1,g2⟩:=lnsB_lines (prnL s rl L) p1 1 0 B.data.toList
 obtain⟨G',g1',g2'⟩:=lnsB_lines (prnL s rl L) p1 1 0 (B.data.toList++10::r.data.toList)
 rw [← du,← lns_text,lnsB_last _ _ _ b1,if_neg b3] at g1
 rw [← dv,← lns_text,lnsB_line _ _ _ _ b1,if_neg b3,List.singleton_append] at g1'
 rw [p3] at g2 g2'
 have e1:=parse_lines h g2 g1 rfl
 have e2:=parse_lines h g2' g1' rfl
 obtain⟨W,hW⟩:∃ W,W=scan (1+(prnL s rl L).length) false none (0+(linesB (prnL s rl L)).length) B.data.toList:=⟨_,rfl⟩
 rw [← hW] at e1 e2 g1
 have ht:tx W=wds B.data.toList:=by rw [hW,tx_scan]
 have hWn:W≠[]:=by
  intro e
  rw [e] at ht
  exact b3 ht.symm
 have hend:=text_end u
 have hWm:∀ x ∈ W,((printT s rl L).size:Int)≤x.p∧0≤x.p∧x.p+(x.t.size:Int)≤(u.size:Int):=fun x hx=>by
  have m:x ∈ textW u:=lns_mem _ W (by rw [g1];simp) x hx
  have h1:=hend x m
  have hsh:=scan_shift (0+(linesB (prnL s rl L)).length) (1+(prnL s rl L).length) B.data.toList 0 false none 0
  simp only [moved,Nat.zero_add] at hsh
  rw [hW,Nat.zero_add,hsh] at hx
  obtain⟨y,hy,rfl⟩:=List.mem_map.1 hx
  have h2:=scan_end B.data.toList 0 false none 0 (fun _ _ e=>by cases e) y hy
  refine⟨?_,h1⟩
  rw [Lib.size_eq,printT_lines h]
  simp only [Wd.shift]
  omega
 rcases parseP_says u hz with ⟨S,R,L',g,G0,q1,q2,q3,q4,q5,q6⟩|⟨a,e,q1,q2,q3,q4⟩
 ·exfalso
  rw [q1] at e1
  unfold goP at e1
  cases hT:taskG W with
  |error p=>rw [hT] at e1;simp at e1
  |ok x=>
   rw [hT] at e1
   simp only at e1
   rw [if_neg (b4 W x ht hT s rl L)] at e1
   simp only [Prod.mk.injEq] at e1
   exact q2 e1.2.2.1
 ·refine⟨a,e,q1,?_,q2,?_,q4⟩
  ·rw [e2,← q1,e1]
   conv=>lhs;unfold goP
   conv=>rhs;unfold goP
   cases hT:taskG W with
   |error p=>rfl
   |ok x=>
    simp only
    rw [if_neg (b4 W x ht hT s rl L),if_neg (b4 W x ht hT s rl L)]
  ·rw [q1] at e1
   unfold goP at e1
   cases hT:taskG W with
   |error p=>
    rw [hT] at e1
    obtain⟨k,rfl⟩:=taskG_wrong hT
    simp only [Prod.mk.injEq] at e1
    rw [e1.2.2.2.1]
    exact wrongP_ge hWm hWn (by omega) k
   |ok x=>
    rw [hT] at e1
    simp only at e1
    rw [if_neg (b4 W x ht hT s rl L)] at e1
    simp only [Prod.mk.injEq] at e1
    rw [e1.2.2.2.1]
    cases W with
    |nil=>exact absurd rfl hWn
    |cons y W=>exact (hWm y List.mem_cons_self).1
theorem short_f (a:ByteArray):∃ s:ByteArray,ostinatolaw07_short.f a 40=some s∧s.size≤40:=by
 unfold ostinatolaw07_short.f
 by_cases h:(a.size:Int) > 40
 ·refine⟨a.extract 0 40,?_,by rw [ByteArray.size_extract];omega⟩
  rw [if_pos h,if_pos (by decide),if_pos (by omega)]
  rfl
 ·exact⟨a,by rw [if_neg h],by omega⟩
def bads:List ByteArray:=[(⟨#[116,97,115,107,32,48,32,99,61,49,32,100,61,49,32,116,61,49,32,112,61,57,57]⟩:ByteArray),(⟨#[116,97,115,107,32,57,56]⟩:ByteArray),(⟨#[116,97,115,107,32,57,56,32,99,61,49,32,100,61,49,32,116,61,49,32,112,61,57,56,32,120]⟩:ByteArray),(⟨#[116,97,115,107,32,57,56,32,99,61,48,49,32,100,61,49,32,116,61,49,32,112,61,57,56]⟩:ByteArray),(⟨#[116,97,115,107,115,32,57,56,32,99,61,49,32,100,61,49,32,116,61,49,32,112,61,57,56]⟩:ByteArray),(⟨#[116,97,115,107,32,57,56,32,99,61,50,32,100,61,49,32,116,61,49,32,112,61,57,56]⟩:ByteArray)]
theorem bads_bad (j:Int) (h0:0≤j) (h6:j<6):BadT (rdS bads j):=by
 have:j=0∨j=1∨j=2∨j=3∨j=4∨j=5:=by omega
 rcases this with rfl|rfl|rfl|rfl|rfl|rfl
 ·exact bad0
 ·exact bad1
 ·exact bad2
 ·exact bad3
 ·exact bad4
 ·exact bad5
theorem pure_ParseFirst (x0:S24) (a1:Int) (a2:ByteArray) (ok0_:ok24 x0) (ok1_:(Lit.int .i64 a1).wf=true) (ok2_:a2.size≤maxLen):∃ k,ostinatolaw07_ParseFirst.f k x0.f0 x0.f1 x0.f2 a1 a2=some true:=by
 obtain⟨s,rl,M,hm,hg⟩:=lawmade_f x0.f0 x0.f1 x0.f2
 obtain⟨g1,g2,g3⟩:=good_check hg
 have hsm:=good_small hg
 obtain⟨L,hL⟩:∃ L,M.map tkOf=L:=⟨_,rfl⟩
 have hML:M=L.map tkTo:=by rw [← hL,List.map_map];exact (List.map_id' M).symm
 rw [hL] at g1 g2 g3 hsm
 obtain⟨r,hr,hrs⟩:=short_f a2
 have hj:=rest_wrapP a1 6 (by decide) (by decide)
 have hB:=bads_bad (a1 % 6) (by omega) (by omega)
 obtain⟨u,hu⟩:∃ u,u=printT s rl L++rdS bads (a1 % 6):=⟨_,rfl⟩
 have hus:u.size≤20030:=by rw [hu,ByteArray.size_append];have:=hB.2.1;omega
 obtain⟨v,hv⟩:∃ v,v=(u++⟨#[10]⟩)++r:=⟨_,rfl⟩
 have z1:(⟨#[10]⟩:ByteArray).size=1:=rfl
 have hvs:v.size≤20100:=by rw [hv,ByteArray.size_append,ByteArray.size_append,z1];omega
 obtain⟨a,e,h1,h2,h3,h4,h5⟩:=parse_first g1 hB hu hv (by omega)
 refine Ev.rounds (r:=true) ?_
 unfold ostinatolaw07_ParseFirst.f
 refine Ev.bindS awake_f ?_
 refine Ev.bind hm ?_
 rw [hML]
 refine Ev.bindS (print_f g1 hsm) ?_
 dsimp only
 rw [hj]
 rw [show [(⟨#[116,97,115,107,32,48,32,99,61,49,32,100,61,49,32,116,61,49,32,112,61,57,57]⟩:ByteArray),(⟨#[116,97,115,107,32,57,56]⟩:ByteArray),(⟨#[116,97,115,107,32,57,56,32,99,61,49,32,100,61,49,32,116,61,49,32,112,61,57,56,32,120]⟩:ByteArray),(⟨#[116,97,115,107,32,57,56,32,99,61,48,49,32,100,61,49,32,116,61,49,32,112,61,57,56]⟩:ByteArray),(⟨#[116,97,115,107,115,32,57,56,32,99,61,49,32,100,61,49,32,116,61,49,32,112,61,57,56]⟩:ByteArray),(⟨#[116,97,115,107,32,57,56,32,99,61,50,32,100,61,49,32,116,61,49,32,112,61,57,56]⟩:ByteArray)]=bads from rfl]
 rw [← hu]
 refine Ev.ifp (by omega) (Ev.ifp (by omega) (Ev.ifp (by have:=hB.2.1;omega) ?_))
 refine Ev.bindS (parse_f (by omega) h1) ?_
 refine Ev.ifp (by omega) ?_
 refine Ev.bindS hr ?_
 dsimp only
 rw [← hv]
 refine Ev.ifp (by rw [ByteArray.size_append,z1];omega) ?_
 refine Ev.bindS (parse_f (by omega) h2) ?_
 dsimp only
 have hne:¬ (printT s rl L).toList=([]:List UInt8):=by
  intro h
  rw [Lib.toList_data] at h
  rw [Lib.size_eq,h] at g2
  exact absurd g2 (by decide)
 refine Ev.ifp rfl (Ev.ifn hne (Ev.ifn h3 (Ev.ifp h4 (Ev.ifp h5 (Ev.ifp rfl ?_)))))
 rw [beq_self_eq_true]
 exact Ev.now _
end Go.Proofs.YtcfknijdhmildaaDoor.PParseFirst
end
section
namespace Go.Proofs.YtcfknijdhmildaaDoor
open Go.ChangeShapes Go.WideShapes Go.ChangeAt Go.RowKit
theorem laid_met (os:Os) (args:Array Value):laidMetH Tryd.prog Rows.parseFirstRow.laid ((World.laidAll Tryd.prog os Rows.parseFirstRow.laid).forCall (fun _ _=>0) ⟨#[],args,[]⟩).memory:=by
 rw [MakeChecks.laidMetH_plain _ _ _ (by kernel_rfl)]
 exact laidMet_laidAll _ (by kernel_rfl) (by kernel_rfl)
theorem handed_laid {H:Type} {enc:TypeId × Value→H} {C:Checked} {os:Os} {f:FuncId} {fn:Func} {s:ChangeSpec} {l:List (String × DataW Unit)}
  (own:ownKnob C.prog.godebug=none) (started:os.Started) (noInit:C.prog.inits.idxOf? f=none) (hfn:C.prog.funcs[f]? = some fn)
  (witness:∃ (w:World) (tape:Tape) (i:Input),w.os=os∧(w.forCall tape i).Shaped C.prog∧i.vars=[]∧Input.okWide C.prog (w.forCall tape i) .any w.heap.size f i ∧
   ((s.pre enc C.prog fn [] false (w.forCall tape i).memory i.args∧laidMetH C.prog l (w.forCall tape i).memory)∧sizedMet enc C.prog fn (OpenSpec.ofChange s) false (w.forCall tape i).memory i.args)∧({}:Assume).holds C.prog (lone (Frame.enter C.prog f i.args .normal) [] (w.forCall tape i)))
  (contract:∀ (W:World) (base:Nat) (args:Array Value) (ds gs:List (DataW H)) (before:List MemPlace),
   (∀ (j:Nat) t v,fn.params[j]? = some t→args[j]? = some v→Value.okWide C.prog W .any base t v) →
   DataW.Whole enc C.prog fn.params.toList s.vars false W args.toList ds gs before→laidMetH C.prog l W→W.ShapedOpen C.prog →
   Calls C.prog f args W fun e W'=>∃ v,e=.returned v∧s.post enc C.prog fn false true false false W args v W') :
  ReturnsInHanded {} C os f .any (fun w args=>(s.pre enc C.prog fn [] false w args∧laidMetH C.prog l w)∧sizedMet enc C.prog fn (OpenSpec.ofChange s) false w args) (s.post enc C.prog fn false true false false):=by
 refine returnsInHanded_of_calls own started noInit witness ?_
 intro w tape i _ hsh _ hok hpre _
 obtain⟨_,_,_,fn',hfn',_,_,_,_,hval⟩:=hok
 obtain rfl:fn' = fn:=Option.some.inj (hfn'.symm.trans hfn)
 obtain⟨⟨⟨ds,gs,before,hw,_⟩,hl⟩,_⟩:=hpre
 have hw':=DataW.Whole.of_heap (w':=w.forCall tape i) (by rfl) hw
 refine (contract (w.forCall tape i) w.heap.size i.args ds gs before hval hw' (laidMetH.of_heap (by rfl) hl) hsh).mono fun e W' ⟨v,he,hp⟩=>?_
 subst he
 exact ChangeSpec.post_blind hp
end Go.Proofs.YtcfknijdhmildaaDoor
end
section
namespace Go.Proofs.YtcfknijdhmildaaDoor
open Go.RowKit
theorem tab_of_laid {W:World} (h:laidMetH Tryd.prog Rows.parseFirstRow.laid W):Lib.TabIs Tryd.prog W "internal/strconv.uint64pow10" .u64 Lib.pow10Tab:=by
 rw [MakeChecks.laidMetH_plain _ _ _ (by kernel_rfl)] at h
 have hm:("internal/strconv.uint64pow10",Rows.laid_internal_strconv_uint64pow10) ∈ Rows.parseFirstRow.laid:=by
  unfold Rows.parseFirstRow
  simp
 obtain⟨g,t,cs,fuel,p,hg,ht,hv,hd⟩:=Lib.laidMet.reads h hm
 have hg0:Tryd.prog.globalNamed "internal/strconv.uint64pow10" = some 0:=by kernel_rfl
 obtain rfl:=Option.some.inj (hg0.symm.trans hg)
 have e:(Rows.laid_internal_strconv_uint64pow10:DataW Unit)=Lib.tabData .u64 Lib.pow10Tab:=by kernel_rfl
 rw [e] at hd
 have hty:(Tryd.prog.globals[0]?).map (·.type)=some 169:=by kernel_rfl
 obtain rfl:=Option.some.inj (hty.symm.trans ht)
 unfold Lib.TabIs
 rw [hv,← Lib.cells_of_tab Tryd.underlying169 Tryd.underlying90 (by kernel_rfl) (by kernel_rfl) hd]
end Go.Proofs.YtcfknijdhmildaaDoor
end
