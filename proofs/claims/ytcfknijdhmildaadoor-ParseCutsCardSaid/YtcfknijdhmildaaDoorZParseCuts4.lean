/- Texts of this claim, one behind the other: PParseCuts3, PParseCuts4, PParseCuts5. -/
import Derived.Test.YtcfknijdhmildaaDoorZParseCuts3

set_option maxHeartbeats 8000000
set_option maxRecDepth 100000
set_option linter.unusedVariables false
set_option linter.unusedSimpArgs false
section
namespace Go.Proofs.YtcfknijdhmildaaDoor.PParseCuts
open Go.RowKit Go.Proofs.YtcfknijdhmildaaDoorW.PrintWords Go.Proofs.YtcfknijdhmildaaDoorW.PrintLast Go.Proofs.YtcfknijdhmildaaDoorW.PrintMore
attribute [local go_sem] max2_int min2_int max_two min_two max_three min_three max_four min_four
set_option linter.unusedVariables false
set_option linter.unusedSimpArgs false
noncomputable section
def ostinatoref05_System_Made.l0:Nat→Int→Int→Int→List (S59)→Int→Int→List (S52)→Option (Int × Int × (List (S52)))
 |0,_,_,_,_,_,_,_=>none
 |k+1,x4,x121000,x121001,x121002,x124000,x124001,x124002=>if x4<(x121002.length:Int) then (if x4<6 then (if 0≤x4 then ((ostinatoref05_Num_task.f k ((qaL x121002 x4).f0) ((qaL x121002 x4).f1) ((qaL x121002 x4).f2) ((qaL x121002 x4).f3) ((qaL x121002 x4).f4) ((qaL x121002 x4).f5) x4 x124000).bind fun bt125=>(if x124002.length<1599289640401 then (ostinatoref05_System_Made.l0 k (wrap64 (x4+1)) x121000 x121001 x121002 x124000 x124001 (x124002++[(⟨bt125.1,bt125.2.1,bt125.2.2.1,bt125.2.2.2.1,bt125.2.2.2.2.1,bt125.2.2.2.2.2.1,bt125.2.2.2.2.2.2⟩:S52)])) else (none))) else (none)) else (if (x124002.length:Int)=0 then (some (x124000,x124001,(([(⟨1,1,4,4,10,([]:List Int),([]:List Int)⟩:S52)]:List (S52))))) else (some (x124000,x124001,x124002)))) else (if (x124002.length:Int)=0 then (some (x124000,x124001,(([(⟨1,1,4,4,10,([]:List Int),([]:List Int)⟩:S52)]:List (S52))))) else (some (x124000,x124001,x124002)))
def ostinatoref05_System_Made.f (k:Nat) (a0_0:Int) (a0_1:Int) (l0_2:List (S59)):Option (Int × Int × (List (S52))):=(ostinatoref05_rest.f a0_0 8).bind fun t122=>(ostinatoref05_System_Made.l0 k 0 a0_0 a0_1 l0_2 (wrap64 (1+t122)) (Go.bits .and .i64 a0_1 3) ([]:List (S52)))
def ostinatoref05_System_Made.T1:Bool × List (List Nat × List Nat):=(true,[([],[]),([0],[0]),([1],[1]),([2],[2]),([],[]),([4],[4]),([5],[5]),([3,6],[3,6]),([],[]),([8,7,2,0,1,2,3,4,5,6,7,8],[7,8])])
def ostinatoref05_System_Made.B1:List Nat:=[0,1,3,7,0,16,48,127,0,511]
theorem ostinatoref05_System_Made.tab1:rtab .any (opsOf Tryd.f19 1)=ostinatoref05_System_Made.T1:=by kernel_rfl
theorem ostinatoref05_System_Made.bits1:waitsOk ostinatoref05_System_Made.T1.2 ostinatoref05_System_Made.B1=true:=by kernel_rfl
def ostinatoref05_System_Made.T5:Bool × List (List Nat × List Nat):=(true,[([],[]),([0],[0]),([],[]),([2],[2]),([],[]),([3,4],[3,4]),([5],[5]),([],[]),([],[]),([8],[8]),([6,7,9],[6,7,9]),([10],[10]),([1,11,10],[1,11]),([0,1,2,3,4,5,6,7,8,9,10,11,12],[]),([13,12,12,0,1,2,3,4,5,6,7,8,9,10,11,12],[12,13])])
def ostinatoref05_System_Made.B5:List Nat:=[0,1,0,4,0,28,60,0,0,256,1020,2044,4095,8191,16383]
theorem ostinatoref05_System_Made.tab5:rtab .any (opsOf Tryd.f19 5)=ostinatoref05_System_Made.T5:=by kernel_rfl
theorem ostinatoref05_System_Made.bits5:waitsOk ostinatoref05_System_Made.T5.2 ostinatoref05_System_Made.B5=true:=by kernel_rfl
theorem ostinatoref05_System_Made.calls (k:Nat) (a0_0:Int) (a0_1:Int) (A0_2:Option Addr) (c0_2:Nat) (l0_2:List (S59)) (r1:Int) (r2:Int) (r3:List (S52)) (w:World) (hr0_2:Kd.C k59 w A0_2 l0_2.length l0_2) (hc0_2:l0_2.length≤c0_2) (h:ostinatoref05_System_Made.f k a0_0 a0_1 l0_2=some (r1,r2,r3)) :
  Calls Tryd.prog 19 #[.agg #[.int .i64 a0_0,.int .i64 a0_1,.slice A0_2 l0_2.length c0_2]] w fun e w'=>∃ v2_:Value,e=.returned (.agg #[.int .i64 r1,.int .i64 r2,v2_])∧Kd.S k52 52 w' w.heap.size (fun _=>True) v2_ r3∧Below w.heap.size w w':=by
 have hu57:=Tryd.underlying57
 have hu32:=Tryd.underlying32
 have hu59:=Tryd.underlying59
 have hu52:=Tryd.underlying52
 have HR0_2:=qaj.mk hr0_2
 have HC0_2:=qaj.mk hc0_2
 clear hr0_2 hc0_2
 have HB:=qaj.mk (Below.refl w.heap.size w)
 have H:((ostinatoref05_rest.f a0_0 8).bind fun t122=>(ostinatoref05_System_Made.l0 k 0 a0_0 a0_1 l0_2 (wrap64 (1+t122)) (Go.bits .and .i64 a0_1 3) ([]:List (S52))))=some (r1,r2,r3):=h
 clear h
 replace H:=Option.bind_eq_some_iff.mp H
 obtain⟨t122,A20,H⟩:=H
 replace H:(ostinatoref05_System_Made.l0 k 0 a0_0 a0_1 l0_2 (wrap64 (1+t122)) (Go.bits .and .i64 a0_1 3) ([]:List (S52)))=some (r1,r2,r3):=H
 have A2:=qaj.mk A20
 clear A20
 have H':=qaj.mk H
 clear H
 go_enter Tryd.func19,Tryd.ntmps19
 try go_wp2_with (first|((with_reducible refine qaE (N:=1) rfl ?_);refine qaA ?hg (N:=1) ?hd (cs:=#[.int .i64 a0_0,.int .i64 a0_1,.slice A0_2 l0_2.length c0_2]) (t:=57) ?hr ?_;(case hd=>rfl);(case hg=>rfl);(case hr=>first|(go_simp;done)|(go_simp;rfl));intro gb120 hg w3 hbox hb;have n0_:=qaj.mk (qam (by repeat (first|(with_reducible first|exact HB.out|apply qai|apply qaa|apply qah)|exact HB.out)) hb);have n1_:=qaj.mk (hbox);have n2_:=qaj.mk ((by rw [hg];exact (qak (by repeat (first|(with_reducible first|exact HB.out|apply qai|apply qaa|apply qah)|exact HB.out))):w.heap.size≤gb120));have n3_:=qaj.mk ((by rw [hg];exact (qak (by repeat (first|(with_reducible first|exact HB.out|apply qai|apply qaa|apply qah)|exact HB.out))):w.heap.size≤gb120));clear HB;have HB:=n0_;have BK120:=n1_;have GW120:=n2_;have GE120:=n3_;clear n0_ n1_ n2_ n3_;clear hb hbox hg)|((with_reducible refine qaE (N:=2) rfl ?_);refine qaA ?hg (N:=2) ?hd (cs:=#[.int .i64 0,.int .i64 0,.slice none 0 0]) (t:=32) ?hr ?_;(case hd=>rfl);(case hg=>rfl);(case hr=>first|(go_simp;done)|(go_simp;rfl));intro gb121 hg w4 hbox hb;have n0_:=qaj.mk (qal (g:=gb120) (o:=.cells #[.int .i64 a0_0,.int .i64 a0_1,.slice A0_2 l0_2.length c0_2] 57 (0,0)) (by (with_reducible repeat (first|refine qad ?_ _|refine qag ?_|refine qab ?_ _));exact BK120.out) hb);have n1_:=qaj.mk (qam (by repeat (first|(with_reducible first|exact HB.out|apply qai|apply qaa|apply qah|refine qae ?_ GE120.out)|exact HB.out)) hb);have n2_:=qaj.mk (hbox);have n3_:=qaj.mk ((by rw [hg];exact (qak (by repeat (first|(with_reducible first|exact HB.out|apply qai|apply qaa|apply qah|refine qae ?_ GE120.out)|exact HB.out))):w.heap.size≤gb121));have n4_:=qaj.mk ((by rw [hg];exact (qak (by repeat (first|(with_reducible first|exact HB.out|apply qai|apply qaa|apply qah|refine qae ?_ GE120.out)|exact HB.out))):w.heap.size≤gb121));have n5_:=qaj.mk ((by rw [hg];exact Nat.ne_of_lt (qax (g:=gb120) (o:=.cells #[.int .i64 a0_0,.int .i64 a0_1,.slice A0_2 l0_2.length c0_2] 57 (0,0)) (by (with_reducible repeat (first|refine qad ?_ _|refine qag ?_|refine qab ?_ _));exact BK120.out)):gb120≠gb121));have n6_:=qaj.mk ((by rw [hg];exact Nat.ne_of_gt (qax (g:=gb120) (o:=.cells #[.int .i64 a0_0,.int .i64 a0_1,.slice A0_2 l0_2.length c0_2] 57 (0,0)) (by (with_reducible repeat (first|refine qad ?_ _|refine qag ?_|refine qab ?_ _));exact BK120.out)):gb121≠gb120));clear BK120;clear HB;have BK120:=n0_;have HB:=n1_;have BK121:=n2_;have GW121:=n3_;have GE121:=n4_;have NB120_121:=n5_;have NB121_120:=n6_;clear n0_ n1_ n2_ n3_ n4_ n5_ n6_;clear hb hbox hg))
 have n0_:=qaj.mk (qag BK120.out)
 have n1_:=qaj.mk (qag BK121.out)
 have n2_:=qaj.mk (qah HB.out)
 clear BK120
 clear BK121
 clear HB
 have BK120:=n0_
 have BK121:=n1_
 have HB:=n2_
 clear n0_ n1_ n2_
 refine start_ (n:=10) (S:=fun w'=>w'.cell? ⟨gb120,0,none⟩=some (.int .i64 a0_0)∧w'.cell? ⟨gb120,1,none⟩=some (.int .i64 a0_1)∧w'.cell? ⟨gb120,2,none⟩=some (.slice A0_2 l0_2.length c0_2)) (ds:=[]) #[false,false,false,false,false,false,false,false,false,false] (by kernel_rfl) rfl rfl ⟨(qaf BK120.out 0).trans rfl,(qaf BK120.out 1).trans rfl,(qaf BK120.out 2).trans rfl⟩ (fun hHeld=>?_);refine qa1 ostinatoref05_System_Made.tab1 ostinatoref05_System_Made.bits1 (fun HT_ HW_=>?_)
 generalize w4.drew=w5 at BK120 BK121 HB hHeld ⊢
 refine qaF (i:=0) (N:=some 5) (v:=?_) (a':=?_) #[true,false,false,false,false,false,false,false,false,false] rfl rfl (qay HT_.out (by kernel_rfl)) (fun _ _ _ h=>h) (Or.inl ⟨by rfl,?_⟩) ?_ ?_
 rotate_left
 ·intro w'
  go_simp
  with_reducible rfl
 rotate_left
 ·simp only [Act.put,List.setIfInBounds_toArray,List.set_cons_zero,List.set_cons_succ,qav,qaw]
  rfl
 refine qaF (i:=4) (N:=some 9) (v:=?_) (a':=?_) #[true,false,false,false,true,false,false,false,false,false] rfl rfl (qay HT_.out (by kernel_rfl)) (fun _ _ _ h=>h) (Or.inl ⟨by rfl,?_⟩) ?_ ?_
 rotate_left
 ·intro w'
  go_simp
  with_reducible rfl
 rotate_left
 ·simp only [Act.put,List.setIfInBounds_toArray,List.set_cons_zero,List.set_cons_succ,qav,qaw]
  rfl
 refine qa5 (i:=1) (N:=some 6) (v:=?_) (a':=?_) #[true,true,false,false,true,false,false,false,false,false] rfl rfl (qaI HT_.out HW_.out (by kernel_rfl)) (fun _ _ _ h=>h) (Or.inl ⟨by rfl,?_⟩) hHeld ?_ ?_
 rotate_left
 ·rintro w' ⟨s0,s1,s2⟩
  go_simp
  with_reducible rfl
 rotate_left
 ·simp only [Act.put,List.setIfInBounds_toArray,List.set_cons_zero,List.set_cons_succ,qav,qaw]
  rfl
 refine qa5 (i:=5) (N:=some 10) (v:=?_) (a':=?_) #[true,true,false,false,true,true,false,false,false,false] rfl rfl (qaI HT_.out HW_.out (by kernel_rfl)) (fun _ _ _ h=>h) (Or.inl ⟨by rfl,?_⟩) hHeld ?_ ?_
 rotate_left
 ·rintro w' ⟨s0,s1,s2⟩
  go_simp
  with_reducible rfl
 rotate_left
 ·simp only [Act.put,List.setIfInBounds_toArray,List.set_cons_zero,List.set_cons_succ,qav,qaw]
  rfl
 refine qaF (i:=6) (N:=some 11) (v:=?_) (a':=?_) #[true,true,false,false,true,true,true,false,false,false] rfl rfl (qay HT_.out (by kernel_rfl)) (fun _ _ _ h=>h) (Or.inl ⟨by rfl,?_⟩) ?_ ?_
 rotate_left
 ·intro w'
  go_simp
  with_reducible rfl
 rotate_left
 ·simp only [Act.put,List.setIfInBounds_toArray,List.set_cons_zero,List.set_cons_succ,qav,qaw]
  rfl
 refine join_ (σ:=Nat) 1 #[true,true,true,true,true,true,true,true,true,false] (fun s_=>[(7,.int .i64 t122),(3,.pointer (some ⟨s_,0,none⟩)),(8,.int .i64 (wrap64 (1+t122))),(12,.agg #[.int .i64 (wrap64 (1+t122)),.int .i64 (Go.bits .and .i64 a0_1 3),.slice none 0 0])]) (fun s_ w'=>(w'.cell? ⟨gb120,0,none⟩=some (.int .i64 a0_0)∧w'.cell? ⟨gb120,1,none⟩=some (.int .i64 a0_1)∧w'.cell? ⟨gb120,2,none⟩=some (.slice A0_2 l0_2.length c0_2))∧(w'.heap[gb120]? = some (.cells #[.int .i64 a0_0,.int .i64 a0_1,.slice A0_2 l0_2.length c0_2] 57 (0,0)))∧(w'.heap[gb121]? = some (.cells #[.int .i64 0,.int .i64 0,.slice none 0 0] 32 (0,0)))∧(w'.heap[s_]? = some (.cells #[.int .i64 0,.int .i64 0,.slice none 0 0] 32 (0,0)))∧(w.heap.size≤s_)∧(w.heap.size≤s_)∧(gb120≠s_)∧(s_≠gb120)∧(gb121≠s_)∧(s_≠gb121)∧(Below w.heap.size w w')) ?_ ?_
 rotate_left
 ·intro hCont
  refine two_ (i:=2) (j:=8) (Ni:=some 7) (Nj:=some 3) #[true,true,true,false,true,true,true,false,false,false] #[true,true,false,false,true,true,true,false,true,false] rfl rfl rfl rfl (two_of HT_.out (by kernel_rfl)) (by decide) (by decide) (fun K hK=>?_) (fun K hK=>?_)
  ·skip
   refine goes_ Tryd.func38 (by kernel_rfl) rfl #[.int .i64 a0_0,.int .i64 8] (by rfl) rfl rfl (by (try simp only [List.map_toArray,List.map_cons,List.map_nil]);first|done|rfl|(simp only [List.length_drop,List.length_take];rfl)) ?_
   with_reducible refine (ostinatoref05_rest.calls a0_0 8 t122 _ A2.out).mono ?_
   rintro e w' ⟨rfl,⟨nd,rfl⟩⟩
   refine⟨_,rfl,?_⟩
   refine hK.out _ _ ⟨(qaf BK120.out 0).trans rfl,(qaf BK120.out 1).trans rfl,(qaf BK120.out 2).trans rfl⟩ (fun hHeld=>?_)
   clear hK K
   refine norm_ (a':=?_) ?_ ?_
   rotate_left
   ·show Act.put _ (some 7) _=_
    simp only [Act.put,List.setIfInBounds_toArray,List.set_cons_zero,List.set_cons_succ,qav,qaw]
    rfl
   refine qaF (i:=3) (N:=some 8) (v:=?_) (a':=?_) #[true,true,true,true,true,true,true,false,false,false] rfl rfl (qay HT_.out (by kernel_rfl)) (fun _ _ _ h=>h) (Or.inl ⟨by rfl,?_⟩) ?_ ?_
   rotate_left
   ·intro w'
    go_simp
    with_reducible rfl
   rotate_left
   ·simp only [Act.put,List.setIfInBounds_toArray,List.set_cons_zero,List.set_cons_succ,qav,qaw]
    rfl
   refine qaF (i:=7) (N:=some 12) (v:=?_) (a':=?_) #[true,true,true,true,true,true,true,true,false,false] rfl rfl (qay HT_.out (by kernel_rfl)) (fun _ _ _ h=>h) (Or.inl ⟨by rfl,?_⟩) ?_ ?_
   rotate_left
   ·intro w'
    go_simp
    with_reducible rfl
   rotate_left
   ·simp only [Act.put,List.setIfInBounds_toArray,List.set_cons_zero,List.set_cons_succ,qav,qaw]
    rfl
   refine one_ (i:=8) (N:=some 3) #[true,true,true,true,true,true,true,true,true,false] rfl rfl (one_of HT_.out (by kernel_rfl)) (by decide) (fun K hK=>?_)
   refine box_step ?hg (N:=3) ?hd (cs:=#[.int .i64 0,.int .i64 0,.slice none 0 0]) (t:=32) ?hr ?_;(case hd=>rfl);(case hg=>rfl);(case hr=>first|(go_simp;done)|(go_simp;rfl))
   intro gb123 hg w6 hbox hb
   have n0_:=qaj.mk (qal (g:=gb120) (o:=.cells #[.int .i64 a0_0,.int .i64 a0_1,.slice A0_2 l0_2.length c0_2] 57 (0,0)) (by (with_reducible repeat (first|refine qad ?_ _|refine qag ?_|refine qab ?_ _));exact BK120.out) hb)
   have n1_:=qaj.mk (qal (g:=gb121) (o:=.cells #[.int .i64 0,.int .i64 0,.slice none 0 0] 32 (0,0)) (by (with_reducible repeat (first|refine qad ?_ _|refine qag ?_|refine qab ?_ _));exact BK121.out) hb)
   have n2_:=qaj.mk (qam (by repeat (first|(with_reducible first|exact HB.out|apply qai|apply qaa|apply qah|refine qae ?_ GE120.out|refine qae ?_ GE121.out)|exact HB.out)) hb)
   have n3_:=qaj.mk (hbox)
   have n4_:=qaj.mk ((by rw [hg];exact (qak (by repeat (first|(with_reducible first|exact HB.out|apply qai|apply qaa|apply qah|refine qae ?_ GE120.out|refine qae ?_ GE121.out)|exact HB.out))):w.heap.size≤gb123))
   have n5_:=qaj.mk ((by rw [hg];exact (qak (by repeat (first|(with_reducible first|exact HB.out|apply qai|apply qaa|apply qah|refine qae ?_ GE120.out|refine qae ?_ GE121.out)|exact HB.out))):w.heap.size≤gb123))
   have n6_:=qaj.mk ((by rw [hg];exact Nat.ne_of_lt (qax (g:=gb120) (o:=.cells #[.int .i64 a0_0,.int .i64 a0_1,.slice A0_2 l0_2.length c0_2] 57 (0,0)) (by (with_reducible repeat (first|refine qad ?_ _|refine qag ?_|refine qab ?_ _));exact BK120.out)):gb120≠gb123))
   have n7_:=qaj.mk ((by rw [hg];exact Nat.ne_of_gt (qax (g:=gb120) (o:=.cells #[.int .i64 a0_0,.int .i64 a0_1,.slice A0_2 l0_2.length c0_2] 57 (0,0)) (by (with_reducible repeat (first|refine qad ?_ _|refine qag ?_|refine qab ?_ _));exact BK120.out)):gb123≠gb120))
   have n8_:=qaj.mk ((by rw [hg];exact Nat.ne_of_lt (qax (g:=gb121) (o:=.cells #[.int .i64 0,.int .i64 0,.slice none 0 0] 32 (0,0)) (by (with_reducible repeat (first|refine qad ?_ _|refine qag ?_|refine qab ?_ _));exact BK121.out)):gb121≠gb123))
   have n9_:=qaj.mk ((by rw [hg];exact Nat.ne_of_gt (qax (g:=gb121) (o:=.cells #[.int .i64 0,.int .i64 0,.slice none 0 0] 32 (0,0)) (by (with_reducible repeat (first|refine qad ?_ _|refine qag ?_|refine qab ?_ _));exact BK121.out)):gb123≠gb121))
   clear BK120
   clear BK121
   clear HB
   have BK120:=n0_
   have BK121:=n1_
   have HB:=n2_
   have BK123:=n3_
   have GW123:=n4_
   have GE123:=n5_
   have NB120_123:=n6_
   have NB123_120:=n7_
   have NB121_123:=n8_
   have NB123_121:=n9_
   clear n0_ n1_ n2_ n3_ n4_ n5_ n6_ n7_ n8_ n9_
   clear hb hbox hg
   refine hK.out _ _ ⟨(qaf BK120.out 0).trans rfl,(qaf BK120.out 1).trans rfl,(qaf BK120.out 2).trans rfl⟩ (fun hHeld=>?_)
   clear hK K
   refine norm_ (a':=?_) ?_ ?_
   rotate_left
   ·show Act.put _ (some 3) _=_
    simp only [Act.put,List.setIfInBounds_toArray,List.set_cons_zero,List.set_cons_succ,qav,qaw]
    rfl
   exact norm_ (by simp only [putAll,Act.put,List.setIfInBounds_toArray,List.set_cons_zero,List.set_cons_succ]) (hCont (gb123) _ ⟨hHeld,(by (with_reducible repeat (first|refine qad ?_ _|refine qag ?_|refine qab ?_ _));exact BK120.out),(by (with_reducible repeat (first|refine qad ?_ _|refine qag ?_|refine qab ?_ _));exact BK121.out),(by (with_reducible repeat (first|refine qad ?_ _|refine qag ?_|refine qab ?_ _));exact BK123.out),GW123.out,GE123.out,NB120_123.out,NB123_120.out,NB121_123.out,NB123_121.out,(by repeat (first|(with_reducible first|exact HB.out|apply qai|apply qaa|apply qah|refine qae ?_ GE120.out|refine qae ?_ GE121.out|refine qae ?_ GE123.out)|exact HB.out))⟩)
  ·skip
   refine box_step ?hg (N:=3) ?hd (cs:=#[.int .i64 0,.int .i64 0,.slice none 0 0]) (t:=32) ?hr ?_;(case hd=>rfl);(case hg=>rfl);(case hr=>first|(go_simp;done)|(go_simp;rfl))
   intro gb123 hg w6 hbox hb
   have n0_:=qaj.mk (qal (g:=gb120) (o:=.cells #[.int .i64 a0_0,.int .i64 a0_1,.slice A0_2 l0_2.length c0_2] 57 (0,0)) (by (with_reducible repeat (first|refine qad ?_ _|refine qag ?_|refine qab ?_ _));exact BK120.out) hb)
   have n1_:=qaj.mk (qal (g:=gb121) (o:=.cells #[.int .i64 0,.int .i64 0,.slice none 0 0] 32 (0,0)) (by (with_reducible repeat (first|refine qad ?_ _|refine qag ?_|refine qab ?_ _));exact BK121.out) hb)
   have n2_:=qaj.mk (qam (by repeat (first|(with_reducible first|exact HB.out|apply qai|apply qaa|apply qah|refine qae ?_ GE120.out|refine qae ?_ GE121.out)|exact HB.out)) hb)
   have n3_:=qaj.mk (hbox)
   have n4_:=qaj.mk ((by rw [hg];exact (qak (by repeat (first|(with_reducible first|exact HB.out|apply qai|apply qaa|apply qah|refine qae ?_ GE120.out|refine qae ?_ GE121.out)|exact HB.out))):w.heap.size≤gb123))
   have n5_:=qaj.mk ((by rw [hg];exact (qak (by repeat (first|(with_reducible first|exact HB.out|apply qai|apply qaa|apply qah|refine qae ?_ GE120.out|refine qae ?_ GE121.out)|exact HB.out))):w.heap.size≤gb123))
   have n6_:=qaj.mk ((by rw [hg];exact Nat.ne_of_lt (qax (g:=gb120) (o:=.cells #[.int .i64 a0_0,.int .i64 a0_1,.slice A0_2 l0_2.length c0_2] 57 (0,0)) (by (with_reducible repeat (first|refine qad ?_ _|refine qag ?_|refine qab ?_ _));exact BK120.out)):gb120≠gb123))
   have n7_:=qaj.mk ((by rw [hg];exact Nat.ne_of_gt (qax (g:=gb120) (o:=.cells #[.int .i64 a0_0,.int .i64 a0_1,.slice A0_2 l0_2.length c0_2] 57 (0,0)) (by (with_reducible repeat (first|refine qad ?_ _|refine qag ?_|refine qab ?_ _));exact BK120.out)):gb123≠gb120))
   have n8_:=qaj.mk ((by rw [hg];exact Nat.ne_of_lt (qax (g:=gb121) (o:=.cells #[.int .i64 0,.int .i64 0,.slice none 0 0] 32 (0,0)) (by (with_reducible repeat (first|refine qad ?_ _|refine qag ?_|refine qab ?_ _));exact BK121.out)):gb121≠gb123))
   have n9_:=qaj.mk ((by rw [hg];exact Nat.ne_of_gt (qax (g:=gb121) (o:=.cells #[.int .i64 0,.int .i64 0,.slice none 0 0] 32 (0,0)) (by (with_reducible repeat (first|refine qad ?_ _|refine qag ?_|refine qab ?_ _));exact BK121.out)):gb123≠gb121))
   clear BK120
   clear BK121
   clear HB
   have BK120:=n0_
   have BK121:=n1_
   have HB:=n2_
   have BK123:=n3_
   have GW123:=n4_
   have GE123:=n5_
   have NB120_123:=n6_
   have NB123_120:=n7_
   have NB121_123:=n8_
   have NB123_121:=n9_
   clear n0_ n1_ n2_ n3_ n4_ n5_ n6_ n7_ n8_ n9_
   clear hb hbox hg
   refine hK.out _ _ ⟨(qaf BK120.out 0).trans rfl,(qaf BK120.out 1).trans rfl,(qaf BK120.out 2).trans rfl⟩ (fun hHeld=>?_)
   clear hK K
   refine norm_ (a':=?_) ?_ ?_
   rotate_left
   ·show Act.put _ (some 3) _=_
    simp only [Act.put,List.setIfInBounds_toArray,List.set_cons_zero,List.set_cons_succ,qav,qaw]
    rfl
   refine one_ (i:=2) (N:=some 7) #[true,true,true,false,true,true,true,false,true,false] rfl rfl (one_of HT_.out (by kernel_rfl)) (by decide) (fun K hK=>?_)
   refine goes_ Tryd.func38 (by kernel_rfl) rfl #[.int .i64 a0_0,.int .i64 8] (by rfl) rfl rfl (by (try simp only [List.map_toArray,List.map_cons,List.map_nil]);first|done|rfl|(simp only [List.length_drop,List.length_take];rfl)) ?_
   with_reducible refine (ostinatoref05_rest.calls a0_0 8 t122 _ A2.out).mono ?_
   rintro e w' ⟨rfl,⟨nd,rfl⟩⟩
   refine⟨_,rfl,?_⟩
   refine hK.out _ _ ⟨(qaf BK120.out 0).trans rfl,(qaf BK120.out 1).trans rfl,(qaf BK120.out 2).trans rfl⟩ (fun hHeld=>?_)
   clear hK K
   refine norm_ (a':=?_) ?_ ?_
   rotate_left
   ·show Act.put _ (some 7) _=_
    simp only [Act.put,List.setIfInBounds_toArray,List.set_cons_zero,List.set_cons_succ,qav,qaw]
    rfl
   refine qaF (i:=3) (N:=some 8) (v:=?_) (a':=?_) #[true,true,true,true,true,true,true,false,true,false] rfl rfl (qay HT_.out (by kernel_rfl)) (fun _ _ _ h=>h) (Or.inl ⟨by rfl,?_⟩) ?_ ?_
   rotate_left
   ·intro w'
    go_simp
    with_reducible rfl
   rotate_left
   ·simp only [Act.put,List.setIfInBounds_toArray,List.set_cons_zero,List.set_cons_succ,qav,qaw]
    rfl
   refine qaF (i:=7) (N:=some 12) (v:=?_) (a':=?_) #[true,true,true,true,true,true,true,true,true,false] rfl rfl (qay HT_.out (by kernel_rfl)) (fun _ _ _ h=>h) (Or.inl ⟨by rfl,?_⟩) ?_ ?_
   rotate_left
   ·intro w'
    go_simp
    with_reducible rfl
   rotate_left
   ·simp only [Act.put,List.setIfInBounds_toArray,List.set_cons_zero,List.set_cons_succ,qav,qaw]
    rfl
   exact norm_ (by simp only [putAll,Act.put,List.setIfInBounds_toArray,List.set_cons_zero,List.set_cons_succ]) (hCont (gb123) _ ⟨hHeld,(by (with_reducible repeat (first|refine qad ?_ _|refine qag ?_|refine qab ?_ _));exact BK120.out),(by (with_reducible repeat (first|refine qad ?_ _|refine qag ?_|refine qab ?_ _));exact BK121.out),(by (with_reducible repeat (first|refine qad ?_ _|refine qag ?_|refine qab ?_ _));exact BK123.out),GW123.out,GE123.out,NB120_123.out,NB123_120.out,NB121_123.out,NB123_121.out,(by repeat (first|(with_reducible first|exact HB.out|apply qai|apply qaa|apply qah|refine qae ?_ GE120.out|refine qae ?_ GE121.out|refine qae ?_ GE123.out)|exact HB.out))⟩)
 rintro gb123 w7 ⟨hS_,h0_,h1_,h2_,h3_,h4_,h5_,h6_,h7_,h8_,h9_⟩
 have n0_:qaj (w7.heap[gb120]? = some (.cells #[.int .i64 a0_0,.int .i64 a0_1,.slice A0_2 l0_2.length c0_2] 57 (0,0))):=⟨h0_⟩
 have n1_:qaj (w7.heap[gb121]? = some (.cells #[.int .i64 0,.int .i64 0,.slice none 0 0] 32 (0,0))):=⟨h1_⟩
 have n2_:qaj (w7.heap[gb123]? = some (.cells #[.int .i64 0,.int .i64 0,.slice none 0 0] 32 (0,0))):=⟨h2_⟩
 have n3_:qaj (w.heap.size≤gb123):=⟨h3_⟩
 have n4_:qaj (w.heap.size≤gb123):=⟨h4_⟩
 have n5_:qaj (gb120≠gb123):=⟨h5_⟩
 have n6_:qaj (gb123≠gb120):=⟨h6_⟩
 have n7_:qaj (gb121≠gb123):=⟨h7_⟩
 have n8_:qaj (gb123≠gb121):=⟨h8_⟩
 have n9_:qaj (Below w.heap.size w w7):=⟨h9_⟩
 clear BK120
 clear BK121
 clear HB
 clear h0_ h1_ h2_ h3_ h4_ h5_ h6_ h7_ h8_ h9_
 have BK120:=n0_
 have BK121:=n1_
 have BK123:=n2_
 have GW123:=n3_
 have GE123:=n4_
 have NB120_123:=n5_
 have NB123_120:=n6_
 have NB121_123:=n7_
 have NB123_121:=n8_
 have HB:=n9_
 clear n0_ n1_ n2_ n3_ n4_ n5_ n6_ n7_ n8_ n9_
 have hHeld:w7.cell? ⟨gb120,0,none⟩=some (.int .i64 a0_0)∧w7.cell? ⟨gb120,1,none⟩=some (.int .i64 a0_1)∧w7.cell? ⟨gb120,2,none⟩=some (.slice A0_2 l0_2.length c0_2):=hS_
 refine norm_ (a':=?_) ?_ ?_
 rotate_left
 ·simp only [putAll,Act.put,List.setIfInBounds_toArray,List.set_cons_zero,List.set_cons_succ]
  rfl
 refine one_ (i:=9) (N:=none) #[true,true,true,true,true,true,true,true,true,true] rfl rfl (one_of HT_.out (by kernel_rfl)) (by decide) (fun K hK=>?_)
 have hs8:w7.cell? ⟨gb123,0,none⟩=some (.int .i64 0):=(qaf BK123.out 0).trans rfl
 have hfs8:=qac BK123.out 0
 have hns8_0:=NB120_123.out
 have hns8_1:=NB121_123.out
 have hms8_0:=NB123_120.out
 have hms8_1:=NB123_121.out
 have hs9:w7.cell? ⟨gb123,1,none⟩=some (.int .i64 0):=(qaf BK123.out 1).trans rfl
 have hfs9:=qac BK123.out 1
 have hns9_0:=NB120_123.out
 have hns9_1:=NB121_123.out
 have hms9_0:=NB123_120.out
 have hms9_1:=NB123_121.out
 have hs10:w7.cell? ⟨gb123,2,none⟩=some (.slice none 0 0):=(qaf BK123.out 2).trans rfl
 have hfs10:=qac BK123.out 2
 have hns10_0:=NB120_123.out
 have hns10_1:=NB121_123.out
 have hms10_0:=NB123_120.out
 have hms10_1:=NB123_121.out
 refine skip_ (w1:=?_) (by rfl) rfl ?_ ?_
 rotate_left
 ·go_simp
  rfl
 refine hK.out _ _ ⟨((cell_far (p:=⟨gb123,_,none⟩) NB120_123.out _).trans (((cell_far (p:=⟨gb123,_,none⟩) NB120_123.out _).trans (((cell_far (p:=⟨gb123,_,none⟩) NB120_123.out _).trans (hHeld.1)))))),((cell_far (p:=⟨gb123,_,none⟩) NB120_123.out _).trans (((cell_far (p:=⟨gb123,_,none⟩) NB120_123.out _).trans (((cell_far (p:=⟨gb123,_,none⟩) NB120_123.out _).trans (hHeld.2.1)))))),((cell_far (p:=⟨gb123,_,none⟩) NB120_123.out _).trans (((cell_far (p:=⟨gb123,_,none⟩) NB120_123.out _).trans (((cell_far (p:=⟨gb123,_,none⟩) NB120_123.out _).trans (hHeld.2.2))))))⟩ (fun hHeld=>?_)
 clear hK K
 refine done_ (done_of HT_.out (by kernel_rfl)) ?_
 try go_wp2
 go_loopg [4] k (fun kq v4 w'=>∃ (x4_1:Int) (x124002_1:List (S52)) (u124002:Value),v4=.int .i64 x4_1∧qaj (ostinatoref05_System_Made.l0 kq x4_1 a0_0 a0_1 l0_2 (wrap64 (1+t122)) (Go.bits .and .i64 a0_1 3) x124002_1=some (r1,r2,r3))∧qaj (kq≤k)∧qaj (Kd.S k52 52 w' w.heap.size (fun _=>True) u124002 x124002_1)∧qaj (w'.heap[gb120]? = some (.cells #[.int .i64 a0_0,.int .i64 a0_1,(.slice A0_2 l0_2.length c0_2)] 57 (0,0)))∧qaj (w'.heap[gb121]? = some (.cells #[.int .i64 0,.int .i64 0,(.slice none 0 0)] 32 (0,0)))∧qaj (w'.heap[gb123]? = some (.cells #[.int .i64 (wrap64 (1+t122)),.int .i64 (Go.bits .and .i64 a0_1 3),u124002] 32 (0,0)))∧qaj (Below w.heap.size w w'))
 case atStart=>exact⟨(0),(([]:List (S52))),(.slice none 0 0),(by first|rfl|(simp;done)|(simp [*];done)),H',⟨Nat.le_refl _⟩,⟨by first|exact Kd.S_nil _ _ _ _ _|exact Kd.N_nil _ _ _ _ _|exact Kd.V_nil _ _ _ _ _|exact Kd.Q_nil _ _ _ _ _|exact Kd.R_nil _ _ _ _ _⟩,⟨by (with_reducible repeat (first|refine qad ?_ _|refine qag ?_|refine qab ?_ _));refine qaq ?_ NB120_123.out _;(with_reducible repeat (first|refine qad ?_ _|refine qag ?_|refine qab ?_ _));refine qaq ?_ NB120_123.out _;(with_reducible repeat (first|refine qad ?_ _|refine qag ?_|refine qab ?_ _));refine qaq ?_ NB120_123.out _;(with_reducible repeat (first|refine qad ?_ _|refine qag ?_|refine qab ?_ _));exact BK120.out⟩,⟨by (with_reducible repeat (first|refine qad ?_ _|refine qag ?_|refine qab ?_ _));refine qaq ?_ NB121_123.out _;(with_reducible repeat (first|refine qad ?_ _|refine qag ?_|refine qab ?_ _));refine qaq ?_ NB121_123.out _;(with_reducible repeat (first|refine qad ?_ _|refine qag ?_|refine qab ?_ _));refine qaq ?_ NB121_123.out _;(with_reducible repeat (first|refine qad ?_ _|refine qag ?_|refine qab ?_ _));exact BK121.out⟩,⟨by (with_reducible repeat (first|refine qad ?_ _|refine qag ?_|refine qab ?_ _));refine qat (cs:=#[.int .i64 (wrap64 (1+t122)),.int .i64 (Go.bits .and .i64 a0_1 3),.slice none 0 0]) ?_ 2 _ rfl;(with_reducible repeat (first|refine qad ?_ _|refine qag ?_|refine qab ?_ _));refine qat (cs:=#[.int .i64 (wrap64 (1+t122)),.int .i64 0,.slice none 0 0]) ?_ 1 _ rfl;(with_reducible repeat (first|refine qad ?_ _|refine qag ?_|refine qab ?_ _));refine qat (cs:=#[.int .i64 0,.int .i64 0,.slice none 0 0]) ?_ 0 _ rfl;(with_reducible repeat (first|refine qad ?_ _|refine qag ?_|refine qab ?_ _));exact BK123.out⟩,⟨by repeat (first|(with_reducible first|exact HB.out|apply qai|apply qaa|apply qah|refine qae ?_ GE120.out|refine qae ?_ GE121.out|refine qae ?_ GE123.out)|exact HB.out)⟩⟩
 case round=>
  clear H'
  try clear c1
  try clear p2
  try clear c3
  try clear p6
  obtain⟨x4_1,x124002_1,u124002,rfl,HA,HK1,HO_124002,BK120,BK121,BK123,HB⟩:=hrel
  cases gk with
  |zero=>exact absurd HA.out (by simp [ostinatoref05_System_Made.l0])
  |succ k1=>
   have H:=HA.out
   clear HA
   simp only [ostinatoref05_System_Made.l0] at H
   by_cases c11:x4_1<(l0_2.length:Int)
   ·rw [if_pos c11] at H
    have c11b0:decide (x4_1<(l0_2.length:Int))=true:=decide_eq_true c11
    clear c11
    by_cases c12:x4_1<6
    ·rw [if_pos c12] at H
     have c12b0:decide (x4_1<6)=true:=decide_eq_true c12
     clear c12
     by_cases c13:0≤x4_1
     ·rw [if_pos c13] at H
      have c13b0:decide (0≤x4_1)=true:=decide_eq_true c13
      clear c13
      replace H:=Option.bind_eq_some_iff.mp H
      obtain⟨⟨t125,t126,t127,t128,t129,t130,t133⟩,A140,H⟩:=H
      replace H:(if x124002_1.length<1599289640401 then (ostinatoref05_System_Made.l0 k1 (wrap64 (x4_1+1)) a0_0 a0_1 l0_2 (wrap64 (1+t122)) (Go.bits .and .i64 a0_1 3) (x124002_1++[(⟨t125,t126,t127,t128,t129,t130,t133⟩:S52)])) else (none))=some (r1,r2,r3):=H
      have A14:=qaj.mk A140
      clear A140
      by_cases c15:x124002_1.length<1599289640401
      ·rw [if_pos c15] at H
       have LMc15:=qaj.mk c15
       clear c15
       obtain⟨y136,hy136⟩:∃ y_:List (S52),y_=(x124002_1++[(⟨t125,t126,t127,t128,t129,t130,t133⟩:S52)]):=⟨_,rfl⟩
       replace H:(ostinatoref05_System_Made.l0 k1 (wrap64 (x4_1+1)) a0_0 a0_1 l0_2 (wrap64 (1+t122)) (Go.bits .and .i64 a0_1 3) y136)=some (r1,r2,r3):=by first|(rw [hy136];with_reducible exact H)|(have H2_:=(Option.bind_some _ _).symm.trans H;rw [hy136];with_reducible exact H2_)|(have H2_:=(Option.bind_some _ _).symm.trans H;with_reducible exact H2_)|with_reducible exact H|(rw [hy136];exact H)|exact H
       have Ny136:=qaj.mk hy136
       clear hy136
       have H':=qaj.mk H
       clear H
       have hnb16:=NB120_121.out
       have hnc16:=NB121_120.out
       have hnb17:=NB120_123.out
       have hnc17:=NB123_120.out
       have hcz18_0:wr.cell? ⟨gb120,0,none⟩=some (.int .i64 a0_0):=(qaf BK120.out 0).trans rfl
       have hcz18_1:wr.cell? ⟨gb120,1,none⟩=some (.int .i64 a0_1):=(qaf BK120.out 1).trans rfl
       have hcz18_2:wr.cell? ⟨gb120,2,none⟩=some (.slice A0_2 l0_2.length c0_2):=(qaf BK120.out 2).trans rfl
       have hfz18_0:=qac BK120.out 0
       have hfz18_1:=qac BK120.out 1
       have hfz18_2:=qac BK120.out 2
       try go_wp2
       have n0_:=qaj.mk (Kd.S_drew HO_124002.out)
       have n1_:=qaj.mk (qag BK120.out)
       have n2_:=qaj.mk (qag BK121.out)
       have n3_:=qaj.mk (qag BK123.out)
       have n4_:=qaj.mk (qah HB.out)
       clear HO_124002
       clear BK120
       clear BK121
       clear BK123
       clear HB
       have HO_124002:=n0_
       have BK120:=n1_
       have BK121:=n2_
       have BK123:=n3_
       have HB:=n4_
       clear n0_ n1_ n2_ n3_ n4_
       have p124:0≤(x4_1:Int):=of_decide_eq_true (by first|(with_reducible assumption)|assumption)
       have q124:x4_1<(l0_2.length:Int):=of_decide_eq_true (by first|(with_reducible assumption)|assumption)
       obtain⟨ad124,A124_5,c124_5,e124,hx124_0,hx124_1,hx124_2,hx124_3,hx124_4,hx124_5,hl124_5,hi124_5⟩:=at_T59 HR0_2.out x4_1 p124 q124
       have hw124_5:=hx124_5
       have hw124_4:=hx124_4
       have hw124_3:=hx124_3
       have hw124_2:=hx124_2
       have hw124_1:=hx124_1
       have hw124_0:=hx124_0
       cases e124
       replace hx124_0:=(HB.out.cell (bLt w _ hx124_0)).trans hx124_0
       replace hx124_1:=(HB.out.cell (bLt w _ hx124_1)).trans hx124_1
       replace hx124_2:=(HB.out.cell (bLt w _ hx124_2)).trans hx124_2
       replace hx124_3:=(HB.out.cell (bLt w _ hx124_3)).trans hx124_3
       replace hx124_4:=(HB.out.cell (bLt w _ hx124_4)).trans hx124_4
       replace hx124_5:=(HB.out.cell (bLt w _ hx124_5)).trans hx124_5
       have HR124_5:=qaj.mk hi124_5
       have HC124_5:=qaj.mk hl124_5
       clear hi124_5 hl124_5
       replace p124:=eq_true p124
       replace q124:=eq_true q124
       refine start_ (n:=15) (S:=fun w'=>w'.cell? ⟨gb123,0,none⟩=some (.int .i64 (wrap64 (1+t122)))∧w'.cell? ⟨gb123,1,none⟩=some (.int .i64 (Go.bits .and .i64 a0_1 3))∧w'.cell? ⟨gb123,2,none⟩=some (u124002)∧w'.cell? ⟨gb120,0,none⟩=some (.int .i64 a0_0)∧w'.cell? ⟨gb120,1,none⟩=some (.int .i64 a0_1)∧w'.cell? ⟨gb120,2,none⟩=some (.slice (some ad124) l0_2.length c0_2)∧w'.cell? (ad124.add ((x4_1).toNat * 6))=some (.int .i64 ((qaL l0_2 x4_1).f0))∧w'.cell? ⟨(ad124.add ((x4_1).toNat * 6)).block,(ad124.add ((x4_1).toNat * 6)).off+1,none⟩=some (.int .i64 ((qaL l0_2 x4_1).f1))∧w'.cell? ⟨(ad124.add ((x4_1).toNat * 6)).block,(ad124.add ((x4_1).toNat * 6)).off+2,none⟩=some (.int .i64 ((qaL l0_2 x4_1).f2))∧w'.cell? ⟨(ad124.add ((x4_1).toNat * 6)).block,(ad124.add ((x4_1).toNat * 6)).off+3,none⟩=some (.int .i64 ((qaL l0_2 x4_1).f3))∧w'.cell? ⟨(ad124.add ((x4_1).toNat * 6)).block,(ad124.add ((x4_1).toNat * 6)).off+4,none⟩=some (.int .i64 ((qaL l0_2 x4_1).f4))∧w'.cell? ⟨(ad124.add ((x4_1).toNat * 6)).block,(ad124.add ((x4_1).toNat * 6)).off+5,none⟩=some (.slice A124_5 ((qaL l0_2 x4_1).f5).length c124_5)) (ds:=[14]) #[false,false,false,false,false,false,false,false,false,false,false,false,false,false,false] (by kernel_rfl) rfl rfl ⟨(qaf BK123.out 0).trans rfl,(qaf BK123.out 1).trans rfl,(qaf BK123.out 2).trans rfl,(qaf BK120.out 0).trans rfl,(qaf BK120.out 1).trans rfl,(qaf BK120.out 2).trans rfl,((HB.out.cell (bLt w _ hw124_0)).trans hw124_0),((HB.out.cell (bLt w _ hw124_1)).trans hw124_1),((HB.out.cell (bLt w _ hw124_2)).trans hw124_2),((HB.out.cell (bLt w _ hw124_3)).trans hw124_3),((HB.out.cell (bLt w _ hw124_4)).trans hw124_4),((HB.out.cell (bLt w _ hw124_5)).trans hw124_5)⟩ (fun hHeld=>?_);refine qa1 ostinatoref05_System_Made.tab5 ostinatoref05_System_Made.bits5 (fun HT_ HW_=>?_)
       generalize wr.drew=w19 at HO_124002 BK120 BK121 BK123 HB HR124_5 hx124_0 hx124_1 hx124_2 hx124_3 hx124_4 hx124_5 hHeld ⊢
       refine qaF (i:=0) (N:=some 24) (v:=?_) (a':=?_) #[true,false,false,false,false,false,false,false,false,false,false,false,false,false,false] rfl rfl (qay HT_.out (by kernel_rfl)) (fun _ _ _ h=>h) (Or.inl ⟨by rfl,?_⟩) ?_ ?_
       rotate_left
       ·intro w'
        go_simp
        with_reducible rfl
       rotate_left
       ·simp only [Act.put,List.setIfInBounds_toArray,List.set_cons_zero,List.set_cons_succ,qav,qaw]
        rfl
       refine qaF (i:=2) (N:=some 26) (v:=?_) (a':=?_) #[true,false,true,false,false,false,false,false,false,false,false,false,false,false,false] rfl rfl (qay HT_.out (by kernel_rfl)) (fun _ _ _ h=>h) (Or.inl ⟨by rfl,?_⟩) ?_ ?_
       rotate_left
       ·intro w'
        go_simp
        with_reducible rfl
       rotate_left
       ·simp only [Act.put,List.setIfInBounds_toArray,List.set_cons_zero,List.set_cons_succ,qav,qaw]
        rfl
       refine qaF (i:=4) (N:=some 28) (v:=?_) (a':=?_) #[true,false,true,false,true,false,false,false,false,false,false,false,false,false,false] rfl rfl (qay HT_.out (by kernel_rfl)) (fun _ _ _ h=>h) (Or.inl ⟨by rfl,?_⟩) ?_ ?_
       rotate_left
       ·intro w'
        go_simp
        with_reducible rfl
       rotate_left
       ·simp only [Act.put,List.setIfInBounds_toArray,List.set_cons_zero,List.set_cons_succ,qav,qaw]
        rfl
       refine qaF (i:=7) (N:=some 31) (v:=?_) (a':=?_) #[true,false,true,false,true,false,false,true,false,false,false,false,false,false,false] rfl rfl (qay HT_.out (by kernel_rfl)) (fun _ _ _ h=>h) (Or.inl ⟨by rfl,?_⟩) ?_ ?_
       rotate_left
       ·intro w'
        go_simp
        with_reducible rfl
       rotate_left
       ·simp only [Act.put,List.setIfInBounds_toArray,List.set_cons_zero,List.set_cons_succ,qav,qaw]
        rfl
       refine qaF (i:=8) (N:=some 32) (v:=?_) (a':=?_) #[true,false,true,false,true,false,false,true,true,false,false,false,false,false,false] rfl rfl (qay HT_.out (by kernel_rfl)) (fun _ _ _ h=>h) (Or.inl ⟨by rfl,?_⟩) ?_ ?_
       rotate_left
       ·intro w'
        go_simp
        with_reducible rfl
       rotate_left
       ·simp only [Act.put,List.setIfInBounds_toArray,List.set_cons_zero,List.set_cons_succ,qav,qaw]
        rfl
       refine qa5 (i:=1) (N:=some 25) (v:=?_) (a':=?_) #[true,true,true,false,true,false,false,true,true,false,false,false,false,false,false] rfl rfl (qaI HT_.out HW_.out (by kernel_rfl)) (fun _ _ _ h=>h) (Or.inl ⟨by rfl,?_⟩) hHeld ?_ ?_
       rotate_left
       ·rintro w' ⟨s0,s1,s2,s3,s4,s5,s6,s7,s8,s9,s10,s11⟩
        go_simp
        with_reducible rfl
       rotate_left
       ·simp only [Act.put,List.setIfInBounds_toArray,List.set_cons_zero,List.set_cons_succ,qav,qaw]
        rfl
       refine qa5 (i:=3) (N:=some 27) (v:=?_) (a':=?_) #[true,true,true,true,true,false,false,true,true,false,false,false,false,false,false] rfl rfl (qaI HT_.out HW_.out (by kernel_rfl)) (fun _ _ _ h=>h) (Or.inl ⟨by rfl,?_⟩) hHeld ?_ ?_
       rotate_left
       ·rintro w' ⟨s0,s1,s2,s3,s4,s5,s6,s7,s8,s9,s10,s11⟩
        go_simp
        with_reducible rfl
       rotate_left
       ·simp only [Act.put,List.setIfInBounds_toArray,List.set_cons_zero,List.set_cons_succ,qav,qaw]
        rfl
       refine qaF (i:=5) (N:=some 29) (v:=?_) (a':=?_) #[true,true,true,true,true,true,false,true,true,false,false,false,false,false,false] rfl rfl (qay HT_.out (by kernel_rfl)) (fun _ _ _ h=>h) (Or.inl ⟨by rfl,?_⟩) ?_ ?_
       rotate_left
       ·intro w'
        go_simp
        with_reducible rfl
       rotate_left
       ·simp only [Act.put,List.setIfInBounds_toArray,List.set_cons_zero,List.set_cons_succ,qav,qaw]
        rfl
       refine qa5 (i:=6) (N:=some 30) (v:=?_) (a':=?_) #[true,true,true,true,true,true,true,true,true,false,false,false,false,false,false] rfl rfl (qaI HT_.out HW_.out (by kernel_rfl)) (fun _ _ _ h=>h) (Or.inl ⟨by rfl,?_⟩) hHeld ?_ ?_
       rotate_left
       ·rintro w' ⟨s0,s1,s2,s3,s4,s5,s6,s7,s8,s9,s10,s11⟩
        go_simp
        with_reducible rfl
       rotate_left
       ·simp only [Act.put,List.setIfInBounds_toArray,List.set_cons_zero,List.set_cons_succ,qav,qaw]
        rfl
       refine qa5 (i:=9) (N:=some 33) (v:=?_) (a':=?_) #[true,true,true,true,true,true,true,true,true,true,false,false,false,false,false] rfl rfl (qaI HT_.out HW_.out (by kernel_rfl)) (fun _ _ _ h=>h) (Or.inl ⟨by rfl,?_⟩) hHeld ?_ ?_
       rotate_left
       ·rintro w' ⟨s0,s1,s2,s3,s4,s5,s6,s7,s8,s9,s10,s11⟩
        go_simp
        with_reducible rfl
       rotate_left
       ·simp only [Act.put,List.setIfInBounds_toArray,List.set_cons_zero,List.set_cons_succ,qav,qaw]
        rfl
       refine one_ (i:=10) (N:=some 34) #[true,true,true,true,true,true,true,true,true,true,true,false,false,false,false] rfl rfl (one_of HT_.out (by kernel_rfl)) (by decide) (fun K hK=>?_)
       refine goes_ Tryd.func39 (by kernel_rfl) rfl #[.agg #[.int .i64 ((qaL l0_2 x4_1).f0),.int .i64 ((qaL l0_2 x4_1).f1),.int .i64 ((qaL l0_2 x4_1).f2),.int .i64 ((qaL l0_2 x4_1).f3),.int .i64 ((qaL l0_2 x4_1).f4),.slice A124_5 ((qaL l0_2 x4_1).f5).length c124_5],.int .i64 x4_1,.int .i64 (wrap64 (1+t122))] (by rfl) rfl rfl (by (try simp only [List.map_toArray,List.map_cons,List.map_nil]);first|done|rfl|(simp only [List.length_drop,List.length_take];rfl)) ?_
       with_reducible refine (ostinatoref05_Num_task.calls k1 ((qaL l0_2 x4_1).f0) ((qaL l0_2 x4_1).f1) ((qaL l0_2 x4_1).f2) ((qaL l0_2 x4_1).f3) ((qaL l0_2 x4_1).f4) _ _ ((qaL l0_2 x4_1).f5) x4_1 (wrap64 (1+t122)) t125 t126 t127 t128 t129 t130 t133 _ ?side1 ?side2 A14.out).mono ?_
       (case side1=>repeat (first|exact (Kd.C_below HR124_5.out HB.out)|(with_reducible refine Kd.C_alloc ?_ _)|(with_reducible refine Kd.C_drewN ?_ _)|(with_reducible refine Kd.C_drew ?_)))
       (case side2=>exact HC124_5.out)
       rintro e w20 ⟨v131,v134,rfl,ho0,ho1,hb⟩
       refine⟨_,rfl,?_⟩
       have n0_:=qaj.mk (Kd.S_mono (Kd.S_told (Kd.S_told (Kd.S_old (by (with_reducible repeat (first|apply Kd.S_alloc|apply Kd.S_drewN|apply Kd.S_drew));exact HO_124002.out) hb) (Kd.R_base ho0)) (Kd.R_base ho1)) (fun _ h_=>h_.1))
       have n1_:=qaj.mk (Kd.R_lower ho0 (qak (by repeat (first|(with_reducible first|exact HB.out|apply qai|apply qaa|apply qah|refine qae ?_ GE120.out|refine qae ?_ GE121.out|refine qae ?_ GE123.out)|exact HB.out))))
       have n2_:=qaj.mk (Kd.R_lower ho1 (qak (by repeat (first|(with_reducible first|exact HB.out|apply qai|apply qaa|apply qah|refine qae ?_ GE120.out|refine qae ?_ GE121.out|refine qae ?_ GE123.out)|exact HB.out))))
       have n3_:=qaj.mk (qal (g:=gb120) (o:=.cells #[.int .i64 a0_0,.int .i64 a0_1,.slice (some ad124) l0_2.length c0_2] 57 (0,0)) (by (with_reducible repeat (first|refine qad ?_ _|refine qag ?_|refine qab ?_ _));exact BK120.out) hb)
       have n4_:=qaj.mk (qal (g:=gb121) (o:=.cells #[.int .i64 0,.int .i64 0,.slice none 0 0] 32 (0,0)) (by (with_reducible repeat (first|refine qad ?_ _|refine qag ?_|refine qab ?_ _));exact BK121.out) hb)
       have n5_:=qaj.mk (qal (g:=gb123) (o:=.cells #[.int .i64 (wrap64 (1+t122)),.int .i64 (Go.bits .and .i64 a0_1 3),u124002] 32 (0,0)) (by (with_reducible repeat (first|refine qad ?_ _|refine qag ?_|refine qab ?_ _));exact BK123.out) hb)
       have n6_:=qaj.mk (qam (by repeat (first|(with_reducible first|exact HB.out|apply qai|apply qaa|apply qah|refine qae ?_ GE120.out|refine qae ?_ GE121.out|refine qae ?_ GE123.out)|exact HB.out)) hb)
       clear HO_124002
       clear BK120
       clear BK121
       clear BK123
       clear HB
       have HO_124002:=n0_
       have HO132:=n1_
       have HO135:=n2_
       have BK120:=n3_
       have BK121:=n4_
       have BK123:=n5_
       have HB:=n6_
       clear n0_ n1_ n2_ n3_ n4_ n5_ n6_
       (try clear hb)
       (try clear hb2)
       (try clear hk)
       (try clear hi)
       (try clear ho0)
       (try clear ho1)
       obtain⟨Ao22,co22,eo22⟩:=Kd.R_slice HO132.out
       (first|subst eo22|(injection eo22 with f1_ f2_ f3_;have f4_:=f1_.symm;have f5_:=f3_.symm;clear f1_ f2_ f3_;subst f4_;subst f5_))
       obtain⟨Ao23,co23,eo23⟩:=Kd.R_slice HO135.out
       (first|subst eo23|(injection eo23 with f1_ f2_ f3_;have f4_:=f1_.symm;have f5_:=f3_.symm;clear f1_ f2_ f3_;subst f4_;subst f5_))
       refine hK.out _ _ ⟨(qaf BK123.out 0).trans rfl,(qaf BK123.out 1).trans rfl,(qaf BK123.out 2).trans rfl,(qaf BK120.out 0).trans rfl,(qaf BK120.out 1).trans rfl,(qaf BK120.out 2).trans rfl,((HB.out.cell (bLt w _ hw124_0)).trans hw124_0),((HB.out.cell (bLt w _ hw124_1)).trans hw124_1),((HB.out.cell (bLt w _ hw124_2)).trans hw124_2),((HB.out.cell (bLt w _ hw124_3)).trans hw124_3),((HB.out.cell (bLt w _ hw124_4)).trans hw124_4),((HB.out.cell (bLt w _ hw124_5)).trans hw124_5)⟩ (fun hHeld=>?_)
       clear hK K
       refine norm_ (a':=?_) ?_ ?_
       rotate_left
       ·show Act.put _ (some 34) _=_
        simp only [Act.put,List.setIfInBounds_toArray,List.set_cons_zero,List.set_cons_succ,qav,qaw]
        rfl
       refine one_ (i:=11) (N:=some 35) #[true,true,true,true,true,true,true,true,true,true,true,true,false,false,false] rfl rfl (one_of HT_.out (by kernel_rfl)) (by decide) (fun K hK=>?_)
       refine value_ (w1:=?_) (v:=?_) (by rfl) rfl ?_ ?_
       rotate_left 2
       ·go_simp
        constructor
        ·rfl
        ·rfl
       refine hK.out _ _ ⟨(qaf (qab BK123.out _) 0).trans rfl,(qaf (qab BK123.out _) 1).trans rfl,(qaf (qab BK123.out _) 2).trans rfl,(qaf (qab BK120.out _) 0).trans rfl,(qaf (qab BK120.out _) 1).trans rfl,(qaf (qab BK120.out _) 2).trans rfl,(World.cell?_alloc_lt _ _ _ (bLt _ _ (((HB.out.cell (bLt w _ hw124_0)).trans hw124_0)))).trans (((HB.out.cell (bLt w _ hw124_0)).trans hw124_0)),(World.cell?_alloc_lt _ _ _ (bLt _ _ (((HB.out.cell (bLt w _ hw124_1)).trans hw124_1)))).trans (((HB.out.cell (bLt w _ hw124_1)).trans hw124_1)),(World.cell?_alloc_lt _ _ _ (bLt _ _ (((HB.out.cell (bLt w _ hw124_2)).trans hw124_2)))).trans (((HB.out.cell (bLt w _ hw124_2)).trans hw124_2)),(World.cell?_alloc_lt _ _ _ (bLt _ _ (((HB.out.cell (bLt w _ hw124_3)).trans hw124_3)))).trans (((HB.out.cell (bLt w _ hw124_3)).trans hw124_3)),(World.cell?_alloc_lt _ _ _ (bLt _ _ (((HB.out.cell (bLt w _ hw124_4)).trans hw124_4)))).trans (((HB.out.cell (bLt w _ hw124_4)).trans hw124_4)),(World.cell?_alloc_lt _ _ _ (bLt _ _ (((HB.out.cell (bLt w _ hw124_5)).trans hw124_5)))).trans (((HB.out.cell (bLt w _ hw124_5)).trans hw124_5))⟩ (fun hHeld=>?_)
       clear hK K
       refine norm_ (a':=?_) ?_ ?_
       rotate_left
       ·show Act.put _ (some 35) _=_
        simp only [Act.put,List.setIfInBounds_toArray,List.set_cons_zero,List.set_cons_succ,qav,qaw]
        rfl
       refine one_ (i:=12) (N:=some 36) #[true,true,true,true,true,true,true,true,true,true,true,true,true,false,false] rfl rfl (one_of HT_.out (by kernel_rfl)) (by decide) (fun K hK=>?_)
       refine Kd.S_append_step k52 (w0:=w) w.heap.size (by rfl) (.tmp 25) (.tmp 35) 30 52 (.agg #[(.int .i64 0),(.int .i64 0),(.int .i64 0),(.int .i64 0),(.int .i64 0),(.slice none 0 0),(.slice none 0 0)]) 88 rfl Tryd.underlying30 info52 rfl (by decide) (by omega) u124002 x124002_1 (⟨t125,t126,t127,t128,t129,t130,t133⟩:S52) [.int .i64 t125,.int .i64 t126,.int .i64 t127,.int .i64 t128,.int .i64 t129,.slice Ao22 t130.length co22,.slice Ao23 t133.length co23] (fun _=>True) (fun k_=>some k_=(.slice Ao22 t130.length co22:Value).ownBlock∨some k_=(.slice Ao23 t133.length co23:Value).ownBlock) rfl rfl ?aP (fun k_ hk_=>hk_.elim (fun h_=>((Kd.R_mono (ok':=fun k_=>((fun _=>True)) k_∧some k_≠(u124002:Value).ownBlock) (Kd.R_apart' (HO132.out) (Kd.S_typed HO_124002.out) (by decide)) (fun k_ hk=>⟨trivial,hk.2⟩))).1 k_ h_.symm) (fun h_=>((Kd.R_mono (ok':=fun k_=>((fun _=>True)) k_∧some k_≠(u124002:Value).ownBlock) (Kd.R_apart' (HO135.out) (Kd.S_typed HO_124002.out) (by decide)) (fun k_ hk=>⟨trivial,hk.2⟩))).1 k_ h_.symm)) ?aF ?aO ?aB ?aS ?aL ?_
       (case aP=>exact k52_mkM _ _ _ (⟨t125,t126,t127,t128,t129,t130,t133⟩:S52) (Kd.R_mono (Kd.R_tight rfl (Kd.R_mono (ok':=fun k_=>((fun _=>True)) k_∧some k_≠(u124002:Value).ownBlock) (Kd.R_apart' (HO132.out) (Kd.S_typed HO_124002.out) (by decide)) (fun k_ hk=>⟨trivial,hk.2⟩))) (fun _ h_=>Or.inl h_)) (Kd.R_mono (Kd.R_tight rfl (Kd.R_mono (ok':=fun k_=>((fun _=>True)) k_∧some k_≠(u124002:Value).ownBlock) (Kd.R_apart' (HO135.out) (Kd.S_typed HO_124002.out) (by decide)) (fun k_ hk=>⟨trivial,hk.2⟩))) (fun _ h_=>Or.inr (h_))))
       (case aB=>exact (by repeat (first|(with_reducible first|exact HB.out|apply qai|apply qaa|apply qah|refine qae ?_ GE120.out|refine qae ?_ GE121.out|refine qae ?_ GE123.out)|exact HB.out)))
       (case aF=>exact (fun _ _=>trivial))
       (case aO=>exact (by (with_reducible repeat (first|apply Kd.S_alloc|apply Kd.S_drewN|apply Kd.S_drew));exact Kd.S_mono HO_124002.out (fun k_ hk=>⟨trivial,fun e_=>e_.elim (fun h_=>hk.1.2 h_) (fun h_=>hk.2 h_)⟩)))
       (case aS=>exact (qak (by repeat (first|(with_reducible first|exact HB.out|apply qai|apply qaa|apply qah|refine qae ?_ GE120.out|refine qae ?_ GE121.out|refine qae ?_ GE123.out)|exact HB.out))))
       (case aL=>have:=LMc15.out;omega)
       intro v137 w21 ho hb hg hat
       rw [← Ny136.out] at ho
       have n0_:=qaj.mk (qaM (g:=gb120) (o:=.cells #[.int .i64 a0_0,.int .i64 a0_1,.slice (some ad124) l0_2.length c0_2] 57 (0,0)) (by (with_reducible repeat (first|refine qad ?_ _|refine qag ?_|refine qab ?_ _));exact BK120.out) hg (Kd.S_ne HO_124002.out BK120.out (by decide)))
       have n1_:=qaj.mk (qaM (g:=gb121) (o:=.cells #[.int .i64 0,.int .i64 0,.slice none 0 0] 32 (0,0)) (by (with_reducible repeat (first|refine qad ?_ _|refine qag ?_|refine qab ?_ _));exact BK121.out) hg (Kd.S_ne HO_124002.out BK121.out (by decide)))
       have n2_:=qaj.mk (qaM (g:=gb123) (o:=.cells #[.int .i64 (wrap64 (1+t122)),.int .i64 (Go.bits .and .i64 a0_1 3),u124002] 32 (0,0)) (by (with_reducible repeat (first|refine qad ?_ _|refine qag ?_|refine qab ?_ _));exact BK123.out) hg (Kd.S_ne HO_124002.out BK123.out (by decide)))
       have n3_:=qaj.mk (hb)
       have n4_:=qaj.mk (ho)
       clear BK120
       clear BK121
       clear BK123
       clear HB
       clear HO_124002
       clear HO132
       clear HO135
       have BK120:=n0_
       have BK121:=n1_
       have BK123:=n2_
       have HB:=n3_
       have HO138:=n4_
       clear n0_ n1_ n2_ n3_ n4_
       clear ho hb hg hat
       obtain⟨Ao24,co24,eo24⟩:=Kd.S_slice HO138.out
       (first|subst eo24|(injection eo24 with f1_ f2_ f3_;have f4_:=f1_.symm;have f5_:=f3_.symm;clear f1_ f2_ f3_;subst f4_;subst f5_))
       refine hK.out _ _ ⟨(qaf BK123.out 0).trans rfl,(qaf BK123.out 1).trans rfl,(qaf BK123.out 2).trans rfl,(qaf BK120.out 0).trans rfl,(qaf BK120.out 1).trans rfl,(qaf BK120.out 2).trans rfl,((HB.out.cell (bLt w _ hw124_0)).trans hw124_0),((HB.out.cell (bLt w _ hw124_1)).trans hw124_1),((HB.out.cell (bLt w _ hw124_2)).trans hw124_2),((HB.out.cell (bLt w _ hw124_3)).trans hw124_3),((HB.out.cell (bLt w _ hw124_4)).trans hw124_4),((HB.out.cell (bLt w _ hw124_5)).trans hw124_5)⟩ (fun hHeld=>?_)
       clear hK K
       refine norm_ (a':=?_) ?_ ?_
       rotate_left
       ·show Act.put _ (some 36) _=_
        simp only [Act.put,List.setIfInBounds_toArray,List.set_cons_zero,List.set_cons_succ,qav,qaw]
        rfl
       refine qaF (i:=13) (N:=some 37) (v:=?_) (a':=?_) #[true,true,true,true,true,true,true,true,true,true,true,true,true,true,false] rfl rfl (qay HT_.out (by kernel_rfl)) (fun _ _ _ h=>h) (Or.inl ⟨by rfl,?_⟩) ?_ ?_
       rotate_left
       ·intro w'
        go_simp
        with_reducible rfl
       rotate_left
       ·simp only [Act.put,List.setIfInBounds_toArray,List.set_cons_zero,List.set_cons_succ,qav,qaw]
        rfl
       refine last_ (i:=14) (N:=none) #[true,true,true,true,true,true,true,true,true,true,true,true,true,true,true] rfl rfl (one_of HT_.out (by kernel_rfl)) (by decide) (fun K hK=>?_)
       have hs25:w21.cell? ⟨gb123,2,none⟩=some (u124002):=(qaf BK123.out 2).trans rfl
       have hfs25:=qac BK123.out 2
       have hns25_0:=NB120_123.out
       have hns25_1:=NB121_123.out
       have hms25_0:=NB123_120.out
       have hms25_1:=NB123_121.out
       refine skip_ (w1:=?_) (by rfl) rfl ?_ ?_
       rotate_left
       ·go_simp
        rfl
       refine hK.out _ _ ?_
       clear hK K
       refine done_ (done_of HT_.out (by kernel_rfl)) ?_
       try go_wp2
       go_roundg k1
       case measure=>have:=HK1.out;omega
       case rel=>exact⟨(wrap64 (x4_1+1)),(y136),(.slice Ao24 y136.length co24),(by first|rfl|(simp;done)|(simp [*];done)),H',⟨by have:=HK1.out;omega⟩,⟨by (with_reducible repeat (first|apply Kd.S_alloc|apply Kd.S_drewN|apply Kd.S_drew));exact Kd.S_mono (Kd.S_far (p:=⟨gb123,2,none⟩) (Kd.S_types HO138.out BK123.out (by decide)) (fun _ hk=>hk.2) (.slice Ao24 y136.length co24)) (fun _ hk=>trivial)⟩,⟨by (with_reducible repeat (first|refine qad ?_ _|refine qag ?_|refine qab ?_ _));refine qaq ?_ NB120_123.out _;(with_reducible repeat (first|refine qad ?_ _|refine qag ?_|refine qab ?_ _));exact BK120.out⟩,⟨by (with_reducible repeat (first|refine qad ?_ _|refine qag ?_|refine qab ?_ _));refine qaq ?_ NB121_123.out _;(with_reducible repeat (first|refine qad ?_ _|refine qag ?_|refine qab ?_ _));exact BK121.out⟩,⟨by (with_reducible repeat (first|refine qad ?_ _|refine qag ?_|refine qab ?_ _));refine qat (cs:=#[.int .i64 (wrap64 (1+t122)),.int .i64 (Go.bits .and .i64 a0_1 3),u124002]) ?_ 2 _ rfl;(with_reducible repeat (first|refine qad ?_ _|refine qag ?_|refine qab ?_ _));exact BK123.out⟩,⟨by repeat (first|(with_reducible first|exact HB.out|apply qai|apply qaa|apply qah|refine qae ?_ GE120.out|refine qae ?_ GE121.out|refine qae ?_ GE123.out)|exact HB.out)⟩⟩
      ·rw [if_neg c15] at H
       exact absurd H (by simp)
     ·rw [if_neg c13] at H
      exact absurd H (by simp)
    ·rw [if_neg c12] at H
     have c12b0:decide (x4_1<6)=false:=decide_eq_false c12
     clear c12
     by_cases c26:(x124002_1.length:Int)=0
     ·rw [if_pos c26] at H
      have c26b0:((x124002_1.length:Int) == 0)=true:=beq_iff_eq.mpr c26
      have c26b1:((x124002_1.length:Int) != 0)=false:=bne_eq_false_iff_eq.mpr c26
      clear c26
      obtain⟨y139,hy139⟩:∃ y_:List (S52),y_=(([(⟨1,1,4,4,10,([]:List Int),([]:List Int)⟩:S52)]:List (S52))):=⟨_,rfl⟩
      replace H:(some ((wrap64 (1+t122)),(Go.bits .and .i64 a0_1 3),y139))=some (r1,r2,r3):=by first|(rw [hy139];with_reducible exact H)|(have H2_:=(Option.bind_some _ _).symm.trans H;rw [hy139];with_reducible exact H2_)|(have H2_:=(Option.bind_some _ _).symm.trans H;with_reducible exact H2_)|with_reducible exact H|(rw [hy139];exact H)|exact H
      have Ny139:=qaj.mk hy139
      clear hy139
      simp only [Option.some.injEq,Prod.mk.injEq] at H
      obtain⟨rfl,rfl,rfl⟩:=H
      have hnb27:=NB120_121.out
      have hnc27:=NB121_120.out
      have hnb28:=NB120_123.out
      have hnc28:=NB123_120.out
      have hcz29_0:wr.cell? ⟨gb120,0,none⟩=some (.int .i64 a0_0):=(qaf BK120.out 0).trans rfl
      have hcz29_1:wr.cell? ⟨gb120,1,none⟩=some (.int .i64 a0_1):=(qaf BK120.out 1).trans rfl
      have hcz29_2:wr.cell? ⟨gb120,2,none⟩=some (.slice A0_2 l0_2.length c0_2):=(qaf BK120.out 2).trans rfl
      have hfz29_0:=qac BK120.out 0
      have hfz29_1:=qac BK120.out 1
      have hfz29_2:=qac BK120.out 2
      have hnb30:=NB123_121.out
      have hnc30:=NB121_123.out
      have hcz31_0:wr.cell? ⟨gb123,0,none⟩=some (.int .i64 (wrap64 (1+t122))):=(qaf BK123.out 0).trans rfl
      have hcz31_1:wr.cell? ⟨gb123,1,none⟩=some (.int .i64 (Go.bits .and .i64 a0_1 3)):=(qaf BK123.out 1).trans rfl
      have hcz31_2:wr.cell? ⟨gb123,2,none⟩=some (u124002):=(qaf BK123.out 2).trans rfl
      have hfz31_0:=qac BK123.out 0
      have hfz31_1:=qac BK123.out 1
      have hfz31_2:=qac BK123.out 2
      obtain⟨Ao32,co32,eo32⟩:=Kd.S_slice HO_124002.out
      subst eo32
      go_wp2_with (first|((with_reducible refine qaE (N:=43) rfl ?_);refine Kd.S_lit k52 _ 52 ?hg (N:=43) ?hd (xs:=([(⟨1,1,4,4,10,([]:List Int),([]:List Int)⟩:S52)]:List (S52))) (inner:=[.int .i64 1,.int .i64 1,.int .i64 4,.int .i64 4,.int .i64 10,.slice none 0 0,.slice none 0 0]) (ok:=fun _=>True) (okp:=fun _=>True) ?hr ?hp (fun _ hk=>hk) trivial (Below.refl _ _) (Nat.le_refl _) (by simp) ?_;(case hd=>rfl);(case hg=>rfl);(case hr=>first|(go_simp;done)|(go_simp;rfl));(case hp=>exact (Reps.c7 (show Kd.M k52 _ _ _ (⟨1,1,4,4,10,([]:List Int),([]:List Int)⟩:S52) [.int .i64 1,.int .i64 1,.int .i64 4,.int .i64 4,.int .i64 10,.slice none 0 0,.slice none 0 0] from (k52_mkM _ _ _ (⟨1,1,4,4,10,([]:List Int),([]:List Int)⟩:S52) (Kd.R_nil _ _ _ _ _) (Kd.R_nil _ _ _ _ _))) (Reps.none _ _)));intro v140 w33 ho34 hb hg_ hnew_;clear hg_ hnew_;(first|rw [← Ny139.out] at ho34|(simp only [Int.reduceToNat] at ho34;rw [← Ny139.out] at ho34));have n0_:=qaj.mk (Kd.S_elder' (by (with_reducible repeat (first|apply Kd.S_alloc|apply Kd.S_drewN|apply Kd.S_drew));exact HO_124002.out) (Kd.S_base ho34) hb);have n1_:=qaj.mk (Kd.S_lower (Kd.S_new' ho34 (Kd.S_lt (by (with_reducible repeat (first|apply Kd.S_alloc|apply Kd.S_drewN|apply Kd.S_drew));exact HO_124002.out))) (qak (by repeat (first|(with_reducible first|exact HB.out|apply qai|apply qaa|apply qah|refine qae ?_ GE120.out|refine qae ?_ GE121.out|refine qae ?_ GE123.out)|exact HB.out))));have n2_:=qaj.mk (qal (g:=gb120) (o:=.cells #[.int .i64 a0_0,.int .i64 a0_1,.slice A0_2 l0_2.length c0_2] 57 (0,0)) (by (with_reducible repeat (first|refine qad ?_ _|refine qag ?_|refine qab ?_ _));exact BK120.out) hb);have n3_:=qaj.mk (qal (g:=gb121) (o:=.cells #[.int .i64 0,.int .i64 0,.slice none 0 0] 32 (0,0)) (by (with_reducible repeat (first|refine qad ?_ _|refine qag ?_|refine qab ?_ _));exact BK121.out) hb);have n4_:=qaj.mk (qal (g:=gb123) (o:=.cells #[.int .i64 (wrap64 (1+t122)),.int .i64 (Go.bits .and .i64 a0_1 3),.slice Ao32 x124002_1.length co32] 32 (0,0)) (by (with_reducible repeat (first|refine qad ?_ _|refine qag ?_|refine qab ?_ _));exact BK123.out) hb);have n5_:=qaj.mk (qam (by repeat (first|(with_reducible first|exact HB.out|apply qai|apply qaa|apply qah|refine qae ?_ GE120.out|refine qae ?_ GE121.out|refine qae ?_ GE123.out)|exact HB.out)) hb);clear HO_124002;clear BK120;clear BK121;clear BK123;clear HB;have HO_124002:=n0_;have HO141:=n1_;have BK120:=n2_;have BK121:=n3_;have BK123:=n4_;have HB:=n5_;clear n0_ n1_ n2_ n3_ n4_ n5_;clear hb ho34;obtain⟨Ao35,co35,eo35⟩:=Kd.S_slice HO141.out;subst eo35;have hcz36_0:w33.cell? ⟨gb123,0,none⟩=some (.int .i64 (wrap64 (1+t122))):=(qaf BK123.out 0).trans rfl;have hcz36_1:w33.cell? ⟨gb123,1,none⟩=some (.int .i64 (Go.bits .and .i64 a0_1 3)):=(qaf BK123.out 1).trans rfl;have hcz36_2:w33.cell? ⟨gb123,2,none⟩=some (.slice Ao32 x124002_1.length co32):=(qaf BK123.out 2).trans rfl;have hfz36_0:=qac BK123.out 0;have hfz36_1:=qac BK123.out 1;have hfz36_2:=qac BK123.out 2;have hcz37_0:w33.cell? ⟨gb121,0,none⟩=some (.int .i64 0):=(qaf BK121.out 0).trans rfl;have hcz37_1:w33.cell? ⟨gb121,1,none⟩=some (.int .i64 0):=(qaf BK121.out 1).trans rfl;have hcz37_2:w33.cell? ⟨gb121,2,none⟩=some (.slice none 0 0):=(qaf BK121.out 2).trans rfl;have hfz37_0:=qac BK121.out 0;have hfz37_1:=qac BK121.out 1;have hfz37_2:=qac BK121.out 2))
      refine bodyPost_ret (results_cell_row rfl _ _ gb121 32 #[.int .i64 (wrap64 (1+t122)),.int .i64 (Go.bits .and .i64 a0_1 3),.slice Ao35 y139.length co35] (0,0) _ rfl (by (with_reducible repeat (first|refine qad ?_ _|refine qag ?_|refine qab ?_ _));refine qat (cs:=#[.int .i64 (wrap64 (1+t122)),.int .i64 (Go.bits .and .i64 a0_1 3),.slice none 0 0]) ?_ 2 _ rfl;(with_reducible repeat (first|refine qad ?_ _|refine qag ?_|refine qab ?_ _));refine qat (cs:=#[.int .i64 (wrap64 (1+t122)),.int .i64 0,.slice none 0 0]) ?_ 1 _ rfl;(with_reducible repeat (first|refine qad ?_ _|refine qag ?_|refine qab ?_ _));refine qat (cs:=#[.int .i64 0,.int .i64 0,.slice none 0 0]) ?_ 0 _ rfl;(with_reducible repeat (first|refine qad ?_ _|refine qag ?_|refine qab ?_ _));refine qaq ?_ NB121_123.out _;(with_reducible repeat (first|refine qad ?_ _|refine qag ?_|refine qab ?_ _));exact BK121.out) Tryd.underlying32 rfl (by kernel_rfl)) rfl ?_
      exact⟨_,by first|rfl|(simp [qao,qan]<;>rfl)|(simp [bneNil,bneNilU]<;>rfl)|(simp [*,qao,qan]<;>rfl),by (with_reducible repeat (first|apply Kd.S_alloc|apply Kd.S_drewN|apply Kd.S_drew));exact Kd.S_mono (Kd.S_far (p:=⟨gb121,2,none⟩) (Kd.S_far (p:=⟨gb121,1,none⟩) (Kd.S_far (p:=⟨gb121,0,none⟩) (Kd.S_far (p:=⟨gb123,2,none⟩) (Kd.S_types (Kd.S_types HO141.out BK123.out (by decide)) BK121.out (by decide)) (fun _ hk=>hk.1.2) (.slice Ao35 y139.length co35)) (fun _ hk=>hk.2) (.int .i64 (wrap64 (1+t122)))) (fun _ hk=>hk.2) (.int .i64 (Go.bits .and .i64 a0_1 3))) (fun _ hk=>hk.2) (.slice Ao35 y139.length co35)) (fun _ hk=>trivial),by repeat (first|(with_reducible first|exact HB.out|apply qai|apply qaa|apply qah|refine qae ?_ GE120.out|refine qae ?_ GE121.out|refine qae ?_ GE123.out)|exact HB.out)⟩
     ·rw [if_neg c26] at H
      have c26b0:((x124002_1.length:Int) == 0)=false:=beq_eq_false_iff_ne.mpr c26
      have c26b1:((x124002_1.length:Int) != 0)=true:=bne_iff_ne.mpr c26
      have c26b2:¬ (x124002_1=[]):=fun h_=>c26 (by rw [h_];rfl)
      simp only [Option.some.injEq,Prod.mk.injEq] at H
      obtain⟨rfl,rfl,rfl⟩:=H
      have hnb38:=NB120_121.out
      have hnc38:=NB121_120.out
      have hnb39:=NB120_123.out
      have hnc39:=NB123_120.out
      have hcz40_0:wr.cell? ⟨gb120,0,none⟩=some (.int .i64 a0_0):=(qaf BK120.out 0).trans rfl
      have hcz40_1:wr.cell? ⟨gb120,1,none⟩=some (.int .i64 a0_1):=(qaf BK120.out 1).trans rfl
      have hcz40_2:wr.cell? ⟨gb120,2,none⟩=some (.slice A0_2 l0_2.length c0_2):=(qaf BK120.out 2).trans rfl
      have hfz40_0:=qac BK120.out 0
      have hfz40_1:=qac BK120.out 1
      have hfz40_2:=qac BK120.out 2
      have hnb41:=NB123_121.out
      have hnc41:=NB121_123.out
      have hcz42_0:wr.cell? ⟨gb123,0,none⟩=some (.int .i64 (wrap64 (1+t122))):=(qaf BK123.out 0).trans rfl
      have hcz42_1:wr.cell? ⟨gb123,1,none⟩=some (.int .i64 (Go.bits .and .i64 a0_1 3)):=(qaf BK123.out 1).trans rfl
      have hcz42_2:wr.cell? ⟨gb123,2,none⟩=some (u124002):=(qaf BK123.out 2).trans rfl
      have hfz42_0:=qac BK123.out 0
      have hfz42_1:=qac BK123.out 1
      have hfz42_2:=qac BK123.out 2
      obtain⟨Ao43,co43,eo43⟩:=Kd.S_slice HO_124002.out
      subst eo43
      have hcz44_0:wr.cell? ⟨gb121,0,none⟩=some (.int .i64 0):=(qaf BK121.out 0).trans rfl
      have hcz44_1:wr.cell? ⟨gb121,1,none⟩=some (.int .i64 0):=(qaf BK121.out 1).trans rfl
      have hcz44_2:wr.cell? ⟨gb121,2,none⟩=some (.slice none 0 0):=(qaf BK121.out 2).trans rfl
      have hfz44_0:=qac BK121.out 0
      have hfz44_1:=qac BK121.out 1
      have hfz44_2:=qac BK121.out 2
      go_wp2
      refine bodyPost_ret (results_cell_row rfl _ _ gb121 32 #[.int .i64 (wrap64 (1+t122)),.int .i64 (Go.bits .and .i64 a0_1 3),.slice Ao43 x124002_1.length co43] (0,0) _ rfl (by (with_reducible repeat (first|refine qad ?_ _|refine qag ?_|refine qab ?_ _));refine qat (cs:=#[.int .i64 (wrap64 (1+t122)),.int .i64 (Go.bits .and .i64 a0_1 3),.slice none 0 0]) ?_ 2 _ rfl;(with_reducible repeat (first|refine qad ?_ _|refine qag ?_|refine qab ?_ _));refine qat (cs:=#[.int .i64 (wrap64 (1+t122)),.int .i64 0,.slice none 0 0]) ?_ 1 _ rfl;(with_reducible repeat (first|refine qad ?_ _|refine qag ?_|refine qab ?_ _));refine qat (cs:=#[.int .i64 0,.int .i64 0,.slice none 0 0]) ?_ 0 _ rfl;(with_reducible repeat (first|refine qad ?_ _|refine qag ?_|refine qab ?_ _));exact BK121.out) Tryd.underlying32 rfl (by kernel_rfl)) rfl ?_
      exact⟨_,by first|rfl|(simp [qao,qan]<;>rfl)|(simp [bneNil,bneNilU]<;>rfl)|(simp [*,qao,qan]<;>rfl),by (with_reducible repeat (first|apply Kd.S_alloc|apply Kd.S_drewN|apply Kd.S_drew));exact Kd.S_mono (Kd.S_far (p:=⟨gb121,2,none⟩) (Kd.S_far (p:=⟨gb121,1,none⟩) (Kd.S_far (p:=⟨gb121,0,none⟩) (Kd.S_types HO_124002.out BK121.out (by decide)) (fun _ hk=>hk.2) (.int .i64 (wrap64 (1+t122)))) (fun _ hk=>hk.2) (.int .i64 (Go.bits .and .i64 a0_1 3))) (fun _ hk=>hk.2) (.slice Ao43 x124002_1.length co43)) (fun _ hk=>trivial),by repeat (first|(with_reducible first|exact HB.out|apply qai|apply qaa|apply qah|refine qae ?_ GE120.out|refine qae ?_ GE121.out|refine qae ?_ GE123.out)|exact HB.out)⟩
   ·rw [if_neg c11] at H
    have c11b0:decide (x4_1<(l0_2.length:Int))=false:=decide_eq_false c11
    clear c11
    by_cases c45:(x124002_1.length:Int)=0
    ·rw [if_pos c45] at H
     have c45b0:((x124002_1.length:Int) == 0)=true:=beq_iff_eq.mpr c45
     have c45b1:((x124002_1.length:Int) != 0)=false:=bne_eq_false_iff_eq.mpr c45
     clear c45
     obtain⟨y142,hy142⟩:∃ y_:List (S52),y_=(([(⟨1,1,4,4,10,([]:List Int),([]:List Int)⟩:S52)]:List (S52))):=⟨_,rfl⟩
     replace H:(some ((wrap64 (1+t122)),(Go.bits .and .i64 a0_1 3),y142))=some (r1,r2,r3):=by first|(rw [hy142];with_reducible exact H)|(have H2_:=(Option.bind_some _ _).symm.trans H;rw [hy142];with_reducible exact H2_)|(have H2_:=(Option.bind_some _ _).symm.trans H;with_reducible exact H2_)|with_reducible exact H|(rw [hy142];exact H)|exact H
     have Ny142:=qaj.mk hy142
     clear hy142
     simp only [Option.some.injEq,Prod.mk.injEq] at H
     obtain⟨rfl,rfl,rfl⟩:=H
     have hnb46:=NB120_121.out
     have hnc46:=NB121_120.out
     have hnb47:=NB120_123.out
     have hnc47:=NB123_120.out
     have hcz48_0:wr.cell? ⟨gb120,0,none⟩=some (.int .i64 a0_0):=(qaf BK120.out 0).trans rfl
     have hcz48_1:wr.cell? ⟨gb120,1,none⟩=some (.int .i64 a0_1):=(qaf BK120.out 1).trans rfl
     have hcz48_2:wr.cell? ⟨gb120,2,none⟩=some (.slice A0_2 l0_2.length c0_2):=(qaf BK120.out 2).trans rfl
     have hfz48_0:=qac BK120.out 0
     have hfz48_1:=qac BK120.out 1
     have hfz48_2:=qac BK120.out 2
     have hnb49:=NB123_121.out
     have hnc49:=NB121_123.out
     have hcz50_0:wr.cell? ⟨gb123,0,none⟩=some (.int .i64 (wrap64 (1+t122))):=(qaf BK123.out 0).trans rfl
     have hcz50_1:wr.cell? ⟨gb123,1,none⟩=some (.int .i64 (Go.bits .and .i64 a0_1 3)):=(qaf BK123.out 1).trans rfl
     have hcz50_2:wr.cell? ⟨gb123,2,none⟩=some (u124002):=(qaf BK123.out 2).trans rfl
     have hfz50_0:=qac BK123.out 0
     have hfz50_1:=qac BK123.out 1
     have hfz50_2:=qac BK123.out 2
     obtain⟨Ao51,co51,eo51⟩:=Kd.S_slice HO_124002.out
     subst eo51
     go_wp2_with (first|((with_reducible refine qaE (N:=43) rfl ?_);refine Kd.S_lit k52 _ 52 ?hg (N:=43) ?hd (xs:=([(⟨1,1,4,4,10,([]:List Int),([]:List Int)⟩:S52)]:List (S52))) (inner:=[.int .i64 1,.int .i64 1,.int .i64 4,.int .i64 4,.int .i64 10,.slice none 0 0,.slice none 0 0]) (ok:=fun _=>True) (okp:=fun _=>True) ?hr ?hp (fun _ hk=>hk) trivial (Below.refl _ _) (Nat.le_refl _) (by simp) ?_;(case hd=>rfl);(case hg=>rfl);(case hr=>first|(go_simp;done)|(go_simp;rfl));(case hp=>exact (Reps.c7 (show Kd.M k52 _ _ _ (⟨1,1,4,4,10,([]:List Int),([]:List Int)⟩:S52) [.int .i64 1,.int .i64 1,.int .i64 4,.int .i64 4,.int .i64 10,.slice none 0 0,.slice none 0 0] from (k52_mkM _ _ _ (⟨1,1,4,4,10,([]:List Int),([]:List Int)⟩:S52) (Kd.R_nil _ _ _ _ _) (Kd.R_nil _ _ _ _ _))) (Reps.none _ _)));intro v143 w52 ho53 hb hg_ hnew_;clear hg_ hnew_;(first|rw [← Ny142.out] at ho53|(simp only [Int.reduceToNat] at ho53;rw [← Ny142.out] at ho53));have n0_:=qaj.mk (Kd.S_elder' (by (with_reducible repeat (first|apply Kd.S_alloc|apply Kd.S_drewN|apply Kd.S_drew));exact HO_124002.out) (Kd.S_base ho53) hb);have n1_:=qaj.mk (Kd.S_lower (Kd.S_new' ho53 (Kd.S_lt (by (with_reducible repeat (first|apply Kd.S_alloc|apply Kd.S_drewN|apply Kd.S_drew));exact HO_124002.out))) (qak (by repeat (first|(with_reducible first|exact HB.out|apply qai|apply qaa|apply qah|refine qae ?_ GE120.out|refine qae ?_ GE121.out|refine qae ?_ GE123.out)|exact HB.out))));have n2_:=qaj.mk (qal (g:=gb120) (o:=.cells #[.int .i64 a0_0,.int .i64 a0_1,.slice A0_2 l0_2.length c0_2] 57 (0,0)) (by (with_reducible repeat (first|refine qad ?_ _|refine qag ?_|refine qab ?_ _));exact BK120.out) hb);have n3_:=qaj.mk (qal (g:=gb121) (o:=.cells #[.int .i64 0,.int .i64 0,.slice none 0 0] 32 (0,0)) (by (with_reducible repeat (first|refine qad ?_ _|refine qag ?_|refine qab ?_ _));exact BK121.out) hb);have n4_:=qaj.mk (qal (g:=gb123) (o:=.cells #[.int .i64 (wrap64 (1+t122)),.int .i64 (Go.bits .and .i64 a0_1 3),.slice Ao51 x124002_1.length co51] 32 (0,0)) (by (with_reducible repeat (first|refine qad ?_ _|refine qag ?_|refine qab ?_ _));exact BK123.out) hb);have n5_:=qaj.mk (qam (by repeat (first|(with_reducible first|exact HB.out|apply qai|apply qaa|apply qah|refine qae ?_ GE120.out|refine qae ?_ GE121.out|refine qae ?_ GE123.out)|exact HB.out)) hb);clear HO_124002;clear BK120;clear BK121;clear BK123;clear HB;have HO_124002:=n0_;have HO144:=n1_;have BK120:=n2_;have BK121:=n3_;have BK123:=n4_;have HB:=n5_;clear n0_ n1_ n2_ n3_ n4_ n5_;clear hb ho53;obtain⟨Ao54,co54,eo54⟩:=Kd.S_slice HO144.out;subst eo54;have hcz55_0:w52.cell? ⟨gb123,0,none⟩=some (.int .i64 (wrap64 (1+t122))):=(qaf BK123.out 0).trans rfl;have hcz55_1:w52.cell? ⟨gb123,1,none⟩=some (.int .i64 (Go.bits .and .i64 a0_1 3)):=(qaf BK123.out 1).trans rfl;have hcz55_2:w52.cell? ⟨gb123,2,none⟩=some (.slice Ao51 x124002_1.length co51):=(qaf BK123.out 2).trans rfl;have hfz55_0:=qac BK123.out 0;have hfz55_1:=qac BK123.out 1;have hfz55_2:=qac BK123.out 2;have hcz56_0:w52.cell? ⟨gb121,0,none⟩=some (.int .i64 0):=(qaf BK121.out 0).trans rfl;have hcz56_1:w52.cell? ⟨gb121,1,none⟩=some (.int .i64 0):=(qaf BK121.out 1).trans rfl;have hcz56_2:w52.cell? ⟨gb121,2,none⟩=some (.slice none 0 0):=(qaf BK121.out 2).trans rfl;have hfz56_0:=qac BK121.out 0;have hfz56_1:=qac BK121.out 1;have hfz56_2:=qac BK121.out 2))
     refine bodyPost_ret (results_cell_row rfl _ _ gb121 32 #[.int .i64 (wrap64 (1+t122)),.int .i64 (Go.bits .and .i64 a0_1 3),.slice Ao54 y142.length co54] (0,0) _ rfl (by (with_reducible repeat (first|refine qad ?_ _|refine qag ?_|refine qab ?_ _));refine qat (cs:=#[.int .i64 (wrap64 (1+t122)),.int .i64 (Go.bits .and .i64 a0_1 3),.slice none 0 0]) ?_ 2 _ rfl;(with_reducible repeat (first|refine qad ?_ _|refine qag ?_|refine qab ?_ _));refine qat (cs:=#[.int .i64 (wrap64 (1+t122)),.int .i64 0,.slice none 0 0]) ?_ 1 _ rfl;(with_reducible repeat (first|refine qad ?_ _|refine qag ?_|refine qab ?_ _));refine qat (cs:=#[.int .i64 0,.int .i64 0,.slice none 0 0]) ?_ 0 _ rfl;(with_reducible repeat (first|refine qad ?_ _|refine qag ?_|refine qab ?_ _));refine qaq ?_ NB121_123.out _;(with_reducible repeat (first|refine qad ?_ _|refine qag ?_|refine qab ?_ _));exact BK121.out) Tryd.underlying32 rfl (by kernel_rfl)) rfl ?_
     exact⟨_,by first|rfl|(simp [qao,qan]<;>rfl)|(simp [bneNil,bneNilU]<;>rfl)|(simp [*,qao,qan]<;>rfl),by (with_reducible repeat (first|apply Kd.S_alloc|apply Kd.S_drewN|apply Kd.S_drew));exact Kd.S_mono (Kd.S_far (p:=⟨gb121,2,none⟩) (Kd.S_far (p:=⟨gb121,1,none⟩) (Kd.S_far (p:=⟨gb121,0,none⟩) (Kd.S_far (p:=⟨gb123,2,none⟩) (Kd.S_types (Kd.S_types HO144.out BK123.out (by decide)) BK121.out (by decide)) (fun _ hk=>hk.1.2) (.slice Ao54 y142.length co54)) (fun _ hk=>hk.2) (.int .i64 (wrap64 (1+t122)))) (fun _ hk=>hk.2) (.int .i64 (Go.bits .and .i64 a0_1 3))) (fun _ hk=>hk.2) (.slice Ao54 y142.length co54)) (fun _ hk=>trivial),by repeat (first|(with_reducible first|exact HB.out|apply qai|apply qaa|apply qah|refine qae ?_ GE120.out|refine qae ?_ GE121.out|refine qae ?_ GE123.out)|exact HB.out)⟩
    ·rw [if_neg c45] at H
     have c45b0:((x124002_1.length:Int) == 0)=false:=beq_eq_false_iff_ne.mpr c45
     have c45b1:((x124002_1.length:Int) != 0)=true:=bne_iff_ne.mpr c45
     have c45b2:¬ (x124002_1=[]):=fun h_=>c45 (by rw [h_];rfl)
     simp only [Option.some.injEq,Prod.mk.injEq] at H
     obtain⟨rfl,rfl,rfl⟩:=H
     have hnb57:=NB120_121.out
     have hnc57:=NB121_120.out
     have hnb58:=NB120_123.out
     have hnc58:=NB123_120.out
     have hcz59_0:wr.cell? ⟨gb120,0,none⟩=some (.int .i64 a0_0):=(qaf BK120.out 0).trans rfl
     have hcz59_1:wr.cell? ⟨gb120,1,none⟩=some (.int .i64 a0_1):=(qaf BK120.out 1).trans rfl
     have hcz59_2:wr.cell? ⟨gb120,2,none⟩=some (.slice A0_2 l0_2.length c0_2):=(qaf BK120.out 2).trans rfl
     have hfz59_0:=qac BK120.out 0
     have hfz59_1:=qac BK120.out 1
     have hfz59_2:=qac BK120.out 2
     have hnb60:=NB123_121.out
     have hnc60:=NB121_123.out
     have hcz61_0:wr.cell? ⟨gb123,0,none⟩=some (.int .i64 (wrap64 (1+t122))):=(qaf BK123.out 0).trans rfl
     have hcz61_1:wr.cell? ⟨gb123,1,none⟩=some (.int .i64 (Go.bits .and .i64 a0_1 3)):=(qaf BK123.out 1).trans rfl
     have hcz61_2:wr.cell? ⟨gb123,2,none⟩=some (u124002):=(qaf BK123.out 2).trans rfl
     have hfz61_0:=qac BK123.out 0
     have hfz61_1:=qac BK123.out 1
     have hfz61_2:=qac BK123.out 2
     obtain⟨Ao62,co62,eo62⟩:=Kd.S_slice HO_124002.out
     subst eo62
     have hcz63_0:wr.cell? ⟨gb121,0,none⟩=some (.int .i64 0):=(qaf BK121.out 0).trans rfl
     have hcz63_1:wr.cell? ⟨gb121,1,none⟩=some (.int .i64 0):=(qaf BK121.out 1).trans rfl
     have hcz63_2:wr.cell? ⟨gb121,2,none⟩=some (.slice none 0 0):=(qaf BK121.out 2).trans rfl
     have hfz63_0:=qac BK121.out 0
     have hfz63_1:=qac BK121.out 1
     have hfz63_2:=qac BK121.out 2
     go_wp2
     refine bodyPost_ret (results_cell_row rfl _ _ gb121 32 #[.int .i64 (wrap64 (1+t122)),.int .i64 (Go.bits .and .i64 a0_1 3),.slice Ao62 x124002_1.length co62] (0,0) _ rfl (by (with_reducible repeat (first|refine qad ?_ _|refine qag ?_|refine qab ?_ _));refine qat (cs:=#[.int .i64 (wrap64 (1+t122)),.int .i64 (Go.bits .and .i64 a0_1 3),.slice none 0 0]) ?_ 2 _ rfl;(with_reducible repeat (first|refine qad ?_ _|refine qag ?_|refine qab ?_ _));refine qat (cs:=#[.int .i64 (wrap64 (1+t122)),.int .i64 0,.slice none 0 0]) ?_ 1 _ rfl;(with_reducible repeat (first|refine qad ?_ _|refine qag ?_|refine qab ?_ _));refine qat (cs:=#[.int .i64 0,.int .i64 0,.slice none 0 0]) ?_ 0 _ rfl;(with_reducible repeat (first|refine qad ?_ _|refine qag ?_|refine qab ?_ _));exact BK121.out) Tryd.underlying32 rfl (by kernel_rfl)) rfl ?_
     exact⟨_,by first|rfl|(simp [qao,qan]<;>rfl)|(simp [bneNil,bneNilU]<;>rfl)|(simp [*,qao,qan]<;>rfl),by (with_reducible repeat (first|apply Kd.S_alloc|apply Kd.S_drewN|apply Kd.S_drew));exact Kd.S_mono (Kd.S_far (p:=⟨gb121,2,none⟩) (Kd.S_far (p:=⟨gb121,1,none⟩) (Kd.S_far (p:=⟨gb121,0,none⟩) (Kd.S_types HO_124002.out BK121.out (by decide)) (fun _ hk=>hk.2) (.int .i64 (wrap64 (1+t122)))) (fun _ hk=>hk.2) (.int .i64 (Go.bits .and .i64 a0_1 3))) (fun _ hk=>hk.2) (.slice Ao62 x124002_1.length co62)) (fun _ hk=>trivial),by repeat (first|(with_reducible first|exact HB.out|apply qai|apply qaa|apply qah|refine qae ?_ GE120.out|refine qae ?_ GE121.out|refine qae ?_ GE123.out)|exact HB.out)⟩
end
end Go.Proofs.YtcfknijdhmildaaDoor.PParseCuts
end
section
namespace Go.Proofs.YtcfknijdhmildaaDoor.PParseCuts
open Go.RowKit Go.Proofs.YtcfknijdhmildaaDoorW.PrintWords Go.Proofs.YtcfknijdhmildaaDoorW.PrintLast Go.Proofs.YtcfknijdhmildaaDoorW.PrintMore
attribute [local go_sem] max2_int min2_int max_two min_two max_three min_three max_four min_four
set_option linter.unusedVariables false
set_option linter.unusedSimpArgs false
noncomputable section
def ostinatolaw07_Sys_made.l0:Nat→Int→Int→Int→List (S60)→Int→Int→List (S59)→Option (Int × Int × (List (S52)))
 |0,_,_,_,_,_,_,_=>none
 |k+1,x4,x146000,x146001,x146002,x148000,x148001,x148002=>if x4<(x146002.length:Int) then (if x4<6 then (if 0≤x4 then (if x148002.length<2199023255552 then (ostinatolaw07_Sys_made.l0 k (wrap64 (x4+1)) x146000 x146001 x146002 x148000 x148001 (x148002++[(⟨(qaH x146002 x4).f0,(qaH x146002 x4).f1,(qaH x146002 x4).f2,(qaH x146002 x4).f3,(qaH x146002 x4).f4,(qaH x146002 x4).f5⟩:S59)])) else (none)) else (none)) else ((ostinatoref05_System_Made.f k x148000 x148001 x148002).bind fun bt152=>(some (bt152.1,bt152.2.1,bt152.2.2)))) else ((ostinatoref05_System_Made.f k x148000 x148001 x148002).bind fun bt157=>(some (bt157.1,bt157.2.1,bt157.2.2)))
def ostinatolaw07_Sys_made.f (k:Nat) (a0_0:Int) (a0_1:Int) (l0_2:List (S60)):Option (Int × Int × (List (S52))):=ostinatolaw07_Sys_made.l0 k 0 a0_0 a0_1 l0_2 a0_0 a0_1 ([]:List (S59))
def ostinatolaw07_Sys_made.T5:Bool × List (List Nat × List Nat):=(true,[([],[]),([0],[0]),([],[]),([2],[2]),([],[]),([3,4],[3,4]),([5],[5]),([6],[6]),([1,7],[1,7]),([0,1,2,3,4,5,6,7,8],[]),([9,8,8,0,1,2,3,4,5,6,7,8],[8,9])])
def ostinatolaw07_Sys_made.B5:List Nat:=[0,1,0,4,0,28,60,124,255,511,1023]
theorem ostinatolaw07_Sys_made.tab5:rtab .any (opsOf Tryd.f11 5)=ostinatolaw07_Sys_made.T5:=by kernel_rfl
theorem ostinatolaw07_Sys_made.bits5:waitsOk ostinatolaw07_Sys_made.T5.2 ostinatolaw07_Sys_made.B5=true:=by kernel_rfl
theorem ostinatolaw07_Sys_made.calls (k:Nat) (a0_0:Int) (a0_1:Int) (P0_2_:Nat→Prop) (A0_2:Option Addr) (c0_2:Nat) (l0_2:List (S60)) (r1:Int) (r2:Int) (r3:List (S52)) (w:World) (hs0_2:Kd.V k60 60 w w.heap.size (fun k_=>P0_2_ k_) (.slice A0_2 l0_2.length c0_2) l0_2) (h:ostinatolaw07_Sys_made.f k a0_0 a0_1 l0_2=some (r1,r2,r3)) :
  Calls Tryd.prog 11 #[.agg #[.int .i64 a0_0,.int .i64 a0_1,.slice A0_2 l0_2.length c0_2]] w fun e w'=>∃ v2_:Value,e=.returned (.agg #[.int .i64 r1,.int .i64 r2,v2_])∧Kd.N k52 52 w' w.heap.size (fun k_=>(P0_2_ k_∨w.heap.size≤k_)) v2_ r3∧Below w.heap.size w w':=by
 have hu24:=Tryd.underlying24
 have hu32:=Tryd.underlying32
 have hu57:=Tryd.underlying57
 have hu60:=Tryd.underlying60
 have HO0_2:=qaj.mk (show Kd.V k60 60 w w.heap.size (fun k_=>(P0_2_ k_∨w.heap.size≤k_)) (.slice A0_2 l0_2.length c0_2) l0_2 from Kd.V_mono hs0_2 (fun k_ hk=>.inl hk))
 have HB:=qaj.mk (Below.refl w.heap.size w)
 have H:(ostinatolaw07_Sys_made.l0 k 0 a0_0 a0_1 l0_2 a0_0 a0_1 ([]:List (S59)))=some (r1,r2,r3):=h
 clear h
 have H':=qaj.mk H
 clear H
 go_enter Tryd.func11,Tryd.ntmps11
 go_wp2_with (first|((with_reducible refine qaE (N:=1) rfl ?_);refine qaA ?hg (N:=1) ?hd (cs:=#[.int .i64 a0_0,.int .i64 a0_1,.slice A0_2 l0_2.length c0_2]) (t:=24) ?hr ?_;(case hd=>rfl);(case hg=>rfl);(case hr=>first|(go_simp;done)|(go_simp;rfl));intro gb145 hg w2 hbox hb;have n0_:=qaj.mk (Kd.V_below (Kd.V_elderB (by (with_reducible repeat (first|apply Kd.V_alloc|apply Kd.V_drewN|apply Kd.V_drew));exact HO0_2.out) gb145 (Nat.le_of_eq hg.symm)) hb);have n1_:=qaj.mk (qam (by repeat (first|(with_reducible first|exact HB.out|apply qai|apply qaa|apply qah)|exact HB.out)) hb);have n2_:=qaj.mk (hbox);have n3_:=qaj.mk ((by rw [hg];exact (qak (by repeat (first|(with_reducible first|exact HB.out|apply qai|apply qaa|apply qah)|exact HB.out))):w.heap.size≤gb145));have n4_:=qaj.mk ((by rw [hg];exact (qak (by repeat (first|(with_reducible first|exact HB.out|apply qai|apply qaa|apply qah)|exact HB.out))):w.heap.size≤gb145));clear HO0_2;clear HB;have HO0_2:=n0_;have HB:=n1_;have BK145:=n2_;have GW145:=n3_;have GE145:=n4_;clear n0_ n1_ n2_ n3_ n4_;clear hb hbox hg)|((with_reducible refine qaE (N:=2) rfl ?_);refine qaA ?hg (N:=2) ?hd (cs:=#[.int .i64 0,.int .i64 0,.slice none 0 0]) (t:=32) ?hr ?_;(case hd=>rfl);(case hg=>rfl);(case hr=>first|(go_simp;done)|(go_simp;rfl));intro gb146 hg w3 hbox hb;have n0_:=qaj.mk (Kd.V_below (Kd.V_elderB (by (with_reducible repeat (first|apply Kd.V_alloc|apply Kd.V_drewN|apply Kd.V_drew));exact HO0_2.out) gb146 (Nat.le_of_eq hg.symm)) hb);have n1_:=qaj.mk (qal (g:=gb145) (o:=.cells #[.int .i64 a0_0,.int .i64 a0_1,.slice A0_2 l0_2.length c0_2] 24 (0,0)) (by (with_reducible repeat (first|refine qad ?_ _|refine qag ?_|refine qab ?_ _));exact BK145.out) hb);have n2_:=qaj.mk (qam (by repeat (first|(with_reducible first|exact HB.out|apply qai|apply qaa|apply qah|refine qae ?_ GE145.out)|exact HB.out)) hb);have n3_:=qaj.mk (hbox);have n4_:=qaj.mk ((by rw [hg];exact (qak (by repeat (first|(with_reducible first|exact HB.out|apply qai|apply qaa|apply qah|refine qae ?_ GE145.out)|exact HB.out))):w.heap.size≤gb146));have n5_:=qaj.mk ((by rw [hg];exact (qak (by repeat (first|(with_reducible first|exact HB.out|apply qai|apply qaa|apply qah|refine qae ?_ GE145.out)|exact HB.out))):w.heap.size≤gb146));have n6_:=qaj.mk ((by rw [hg];exact Nat.ne_of_lt (qax (g:=gb145) (o:=.cells #[.int .i64 a0_0,.int .i64 a0_1,.slice A0_2 l0_2.length c0_2] 24 (0,0)) (by (with_reducible repeat (first|refine qad ?_ _|refine qag ?_|refine qab ?_ _));exact BK145.out)):gb145≠gb146));have n7_:=qaj.mk ((by rw [hg];exact Nat.ne_of_gt (qax (g:=gb145) (o:=.cells #[.int .i64 a0_0,.int .i64 a0_1,.slice A0_2 l0_2.length c0_2] 24 (0,0)) (by (with_reducible repeat (first|refine qad ?_ _|refine qag ?_|refine qab ?_ _));exact BK145.out)):gb146≠gb145));clear HO0_2;clear BK145;clear HB;have HO0_2:=n0_;have BK145:=n1_;have HB:=n2_;have BK146:=n3_;have GW146:=n4_;have GE146:=n5_;have NB145_146:=n6_;have NB146_145:=n7_;clear n0_ n1_ n2_ n3_ n4_ n5_ n6_ n7_;clear hb hbox hg;have hnb4:=NB145_146.out;have hnc4:=NB146_145.out;have hcz5_0:w3.cell? ⟨gb145,0,none⟩=some (.int .i64 a0_0):=(qaf BK145.out 0).trans rfl;have hcz5_1:w3.cell? ⟨gb145,1,none⟩=some (.int .i64 a0_1):=(qaf BK145.out 1).trans rfl;have hcz5_2:w3.cell? ⟨gb145,2,none⟩=some (.slice A0_2 l0_2.length c0_2):=(qaf BK145.out 2).trans rfl;have hfz5_0:=qac BK145.out 0;have hfz5_1:=qac BK145.out 1;have hfz5_2:=qac BK145.out 2)|((with_reducible refine qaE (N:=3) rfl ?_);refine qaA ?hg (N:=3) ?hd (cs:=#[.int .i64 0,.int .i64 0,.slice none 0 0]) (t:=57) ?hr ?_;(case hd=>rfl);(case hg=>rfl);(case hr=>first|(go_simp;done)|(go_simp;rfl));intro gb147 hg w6 hbox hb;have n0_:=qaj.mk (Kd.V_below (Kd.V_elderB (by (with_reducible repeat (first|apply Kd.V_alloc|apply Kd.V_drewN|apply Kd.V_drew));exact HO0_2.out) gb147 (Nat.le_of_eq hg.symm)) hb);have n1_:=qaj.mk (qal (g:=gb145) (o:=.cells #[.int .i64 a0_0,.int .i64 a0_1,.slice A0_2 l0_2.length c0_2] 24 (0,0)) (by (with_reducible repeat (first|refine qad ?_ _|refine qag ?_|refine qab ?_ _));exact BK145.out) hb);have n2_:=qaj.mk (qal (g:=gb146) (o:=.cells #[.int .i64 0,.int .i64 0,.slice none 0 0] 32 (0,0)) (by (with_reducible repeat (first|refine qad ?_ _|refine qag ?_|refine qab ?_ _));exact BK146.out) hb);have n3_:=qaj.mk (qam (by repeat (first|(with_reducible first|exact HB.out|apply qai|apply qaa|apply qah|refine qae ?_ GE145.out|refine qae ?_ GE146.out)|exact HB.out)) hb);have n4_:=qaj.mk (hbox);have n5_:=qaj.mk ((by rw [hg];exact (qak (by repeat (first|(with_reducible first|exact HB.out|apply qai|apply qaa|apply qah|refine qae ?_ GE145.out|refine qae ?_ GE146.out)|exact HB.out))):w.heap.size≤gb147));have n6_:=qaj.mk ((by rw [hg];exact (qak (by repeat (first|(with_reducible first|exact HB.out|apply qai|apply qaa|apply qah|refine qae ?_ GE145.out|refine qae ?_ GE146.out)|exact HB.out))):w.heap.size≤gb147));have n7_:=qaj.mk ((by rw [hg];exact Nat.ne_of_lt (qax (g:=gb145) (o:=.cells #[.int .i64 a0_0,.int .i64 a0_1,.slice A0_2 l0_2.length c0_2] 24 (0,0)) (by (with_reducible repeat (first|refine qad ?_ _|refine qag ?_|refine qab ?_ _));exact BK145.out)):gb145≠gb147));have n8_:=qaj.mk ((by rw [hg];exact Nat.ne_of_gt (qax (g:=gb145) (o:=.cells #[.int .i64 a0_0,.int .i64 a0_1,.slice A0_2 l0_2.length c0_2] 24 (0,0)) (by (with_reducible repeat (first|refine qad ?_ _|refine qag ?_|refine qab ?_ _));exact BK145.out)):gb147≠gb145));have n9_:=qaj.mk ((by rw [hg];exact Nat.ne_of_lt (qax (g:=gb146) (o:=.cells #[.int .i64 0,.int .i64 0,.slice none 0 0] 32 (0,0)) (by (with_reducible repeat (first|refine qad ?_ _|refine qag ?_|refine qab ?_ _));exact BK146.out)):gb146≠gb147));have n10_:=qaj.mk ((by rw [hg];exact Nat.ne_of_gt (qax (g:=gb146) (o:=.cells #[.int .i64 0,.int .i64 0,.slice none 0 0] 32 (0,0)) (by (with_reducible repeat (first|refine qad ?_ _|refine qag ?_|refine qab ?_ _));exact BK146.out)):gb147≠gb146));clear HO0_2;clear BK145;clear BK146;clear HB;have HO0_2:=n0_;have BK145:=n1_;have BK146:=n2_;have HB:=n3_;have BK147:=n4_;have GW147:=n5_;have GE147:=n6_;have NB145_147:=n7_;have NB147_145:=n8_;have NB146_147:=n9_;have NB147_146:=n10_;clear n0_ n1_ n2_ n3_ n4_ n5_ n6_ n7_ n8_ n9_ n10_;clear hb hbox hg;have hnb7:=NB147_145.out;have hnc7:=NB145_147.out;have hnb8:=NB147_146.out;have hnc8:=NB146_147.out;have hcz9_0:w6.cell? ⟨gb147,0,none⟩=some (.int .i64 0):=(qaf BK147.out 0).trans rfl;have hcz9_1:w6.cell? ⟨gb147,1,none⟩=some (.int .i64 0):=(qaf BK147.out 1).trans rfl;have hcz9_2:w6.cell? ⟨gb147,2,none⟩=some (.slice none 0 0):=(qaf BK147.out 2).trans rfl;have hfz9_0:=qac BK147.out 0;have hfz9_1:=qac BK147.out 1;have hfz9_2:=qac BK147.out 2))
 go_loopg [4] k (fun kq v4 w'=>∃ (x4_1:Int) (x148002_1:List (S59)) (u148002:Value),v4=.int .i64 x4_1∧qaj (ostinatolaw07_Sys_made.l0 kq x4_1 a0_0 a0_1 l0_2 a0_0 a0_1 x148002_1=some (r1,r2,r3))∧qaj (kq≤k)∧qaj (Kd.V k60 60 w' w.heap.size (fun k_=>(P0_2_ k_∨w.heap.size≤k_)∧some k_≠(u148002:Value).ownBlock∧k_≠gb145∧k_≠gb146∧k_≠gb147) (.slice A0_2 l0_2.length c0_2) l0_2)∧qaj (Kd.N k59 59 w' w.heap.size (fun k_=>(P0_2_ k_∨w.heap.size≤k_)∧k_≠gb145∧k_≠gb146∧k_≠gb147) u148002 x148002_1)∧qaj (w'.heap[gb145]? = some (.cells #[.int .i64 a0_0,.int .i64 a0_1,(.slice A0_2 l0_2.length c0_2)] 24 (0,0)))∧qaj (w'.heap[gb146]? = some (.cells #[.int .i64 0,.int .i64 0,(.slice none 0 0)] 32 (0,0)))∧qaj (w'.heap[gb147]? = some (.cells #[.int .i64 a0_0,.int .i64 a0_1,u148002] 57 (0,0)))∧qaj (Below w.heap.size w w'))
 case atStart=>exact⟨(0),(([]:List (S59))),(.slice none 0 0),(by first|rfl|(simp;done)|(simp [*];done)),H',⟨Nat.le_refl _⟩,⟨by (with_reducible repeat (first|apply Kd.V_alloc|apply Kd.V_drewN|apply Kd.V_drew));exact Kd.V_mono (Kd.V_far (p:=⟨gb147,2,none⟩) (Kd.V_far (p:=⟨gb147,1,none⟩) (Kd.V_far (p:=⟨gb147,0,none⟩) (Kd.V_mono HO0_2.out (fun k_ hk=>(⟨hk,hk.2⟩:_∧k_≠gb147))) (fun _ hk=>hk.2) (.int .i64 a0_0)) (fun _ hk=>hk.2) (.int .i64 a0_1)) (fun _ hk=>hk.2) (.slice none 0 0)) (fun _ hk=>⟨hk.1.1.1.1,⟨(by simp [Value.ownBlock]),⟨hk.1.1.1.2,⟨hk.1.1.2,hk.1.2⟩⟩⟩⟩)⟩,⟨by first|exact Kd.S_nil _ _ _ _ _|exact Kd.N_nil _ _ _ _ _|exact Kd.V_nil _ _ _ _ _|exact Kd.Q_nil _ _ _ _ _|exact Kd.R_nil _ _ _ _ _⟩,⟨by (with_reducible repeat (first|refine qad ?_ _|refine qag ?_|refine qab ?_ _));refine qaq ?_ NB145_147.out _;(with_reducible repeat (first|refine qad ?_ _|refine qag ?_|refine qab ?_ _));refine qaq ?_ NB145_147.out _;(with_reducible repeat (first|refine qad ?_ _|refine qag ?_|refine qab ?_ _));refine qaq ?_ NB145_147.out _;(with_reducible repeat (first|refine qad ?_ _|refine qag ?_|refine qab ?_ _));exact BK145.out⟩,⟨by (with_reducible repeat (first|refine qad ?_ _|refine qag ?_|refine qab ?_ _));refine qaq ?_ NB146_147.out _;(with_reducible repeat (first|refine qad ?_ _|refine qag ?_|refine qab ?_ _));refine qaq ?_ NB146_147.out _;(with_reducible repeat (first|refine qad ?_ _|refine qag ?_|refine qab ?_ _));refine qaq ?_ NB146_147.out _;(with_reducible repeat (first|refine qad ?_ _|refine qag ?_|refine qab ?_ _));exact BK146.out⟩,⟨by (with_reducible repeat (first|refine qad ?_ _|refine qag ?_|refine qab ?_ _));refine qat (cs:=#[.int .i64 a0_0,.int .i64 a0_1,.slice none 0 0]) ?_ 2 _ rfl;(with_reducible repeat (first|refine qad ?_ _|refine qag ?_|refine qab ?_ _));refine qat (cs:=#[.int .i64 a0_0,.int .i64 0,.slice none 0 0]) ?_ 1 _ rfl;(with_reducible repeat (first|refine qad ?_ _|refine qag ?_|refine qab ?_ _));refine qat (cs:=#[.int .i64 0,.int .i64 0,.slice none 0 0]) ?_ 0 _ rfl;(with_reducible repeat (first|refine qad ?_ _|refine qag ?_|refine qab ?_ _));exact BK147.out⟩,⟨by repeat (first|(with_reducible first|exact HB.out|apply qai|apply qaa|apply qah|refine qae ?_ GE145.out|refine qae ?_ GE146.out|refine qae ?_ GE147.out)|exact HB.out)⟩⟩
 case round=>
  clear H'
  try clear c1
  try clear p2
  try clear c4
  try clear c7
  try clear c8
  try clear hcz5_0
  try clear hcz5_1
  try clear hcz5_2
  try clear hcz9_0
  try clear hcz9_1
  try clear hcz9_2
  try clear hfz5_0
  try clear hfz5_1
  try clear hfz5_2
  try clear hfz9_0
  try clear hfz9_1
  try clear hfz9_2
  obtain⟨x4_1,x148002_1,u148002,rfl,HA,HK1,HO_146002,HO_148002,BK145,BK146,BK147,HB⟩:=hrel
  cases gk with
  |zero=>exact absurd HA.out (by simp [ostinatolaw07_Sys_made.l0])
  |succ k1=>
   have H:=HA.out
   clear HA
   simp only [ostinatolaw07_Sys_made.l0] at H
   by_cases c10:x4_1<(l0_2.length:Int)
   ·rw [if_pos c10] at H
    have c10b0:decide (x4_1<(l0_2.length:Int))=true:=decide_eq_true c10
    clear c10
    by_cases c11:x4_1<6
    ·rw [if_pos c11] at H
     have c11b0:decide (x4_1<6)=true:=decide_eq_true c11
     clear c11
     by_cases c12:0≤x4_1
     ·rw [if_pos c12] at H
      have c12b0:decide (0≤x4_1)=true:=decide_eq_true c12
      clear c12
      by_cases c13:x148002_1.length<2199023255552
      ·rw [if_pos c13] at H
       have LMc13:=qaj.mk c13
       clear c13
       obtain⟨y149,hy149⟩:∃ y_:List (S59),y_=(x148002_1++[(⟨(qaH l0_2 x4_1).f0,(qaH l0_2 x4_1).f1,(qaH l0_2 x4_1).f2,(qaH l0_2 x4_1).f3,(qaH l0_2 x4_1).f4,(qaH l0_2 x4_1).f5⟩:S59)]):=⟨_,rfl⟩
       replace H:(ostinatolaw07_Sys_made.l0 k1 (wrap64 (x4_1+1)) a0_0 a0_1 l0_2 a0_0 a0_1 y149)=some (r1,r2,r3):=by first|(rw [hy149];with_reducible exact H)|(have H2_:=(Option.bind_some _ _).symm.trans H;rw [hy149];with_reducible exact H2_)|(have H2_:=(Option.bind_some _ _).symm.trans H;with_reducible exact H2_)|with_reducible exact H|(rw [hy149];exact H)|exact H
       have Ny149:=qaj.mk hy149
       clear hy149
       have H':=qaj.mk H
       clear H
       have hnb14:=NB145_146.out
       have hnc14:=NB146_145.out
       have hnb15:=NB145_147.out
       have hnc15:=NB147_145.out
       have hcz16_0:wr.cell? ⟨gb145,0,none⟩=some (.int .i64 a0_0):=(qaf BK145.out 0).trans rfl
       have hcz16_1:wr.cell? ⟨gb145,1,none⟩=some (.int .i64 a0_1):=(qaf BK145.out 1).trans rfl
       have hcz16_2:wr.cell? ⟨gb145,2,none⟩=some (.slice A0_2 l0_2.length c0_2):=(qaf BK145.out 2).trans rfl
       have hfz16_0:=qac BK145.out 0
       have hfz16_1:=qac BK145.out 1
       have hfz16_2:=qac BK145.out 2
       try go_wp2
       have n0_:=qaj.mk (Kd.V_drew HO_146002.out)
       have n1_:=qaj.mk (Kd.N_drew HO_148002.out)
       have n2_:=qaj.mk (qag BK145.out)
       have n3_:=qaj.mk (qag BK146.out)
       have n4_:=qaj.mk (qag BK147.out)
       have n5_:=qaj.mk (qah HB.out)
       clear HO_146002
       clear HO_148002
       clear BK145
       clear BK146
       clear BK147
       clear HB
       have HO_146002:=n0_
       have HO_148002:=n1_
       have BK145:=n2_
       have BK146:=n3_
       have BK147:=n4_
       have HB:=n5_
       clear n0_ n1_ n2_ n3_ n4_ n5_
       have p148:0≤(x4_1:Int):=of_decide_eq_true (by first|(with_reducible assumption)|assumption)
       have q148:x4_1<(l0_2.length:Int):=of_decide_eq_true (by first|(with_reducible assumption)|assumption)
       obtain⟨ad148,A148_5,c148_5,e148,hx148_0,hx148_1,hx148_2,hx148_3,hx148_4,hx148_5,hl148_5,hi148_5⟩:=at_T60 (Kd.V_reads' HO_146002.out).2.2 x4_1 p148 q148
       cases e148
       obtain⟨ce148,hce148,hMe148,hcc148⟩:=Kd.V_get HO_146002.out z60 x4_1 p148 (by first|exact q148|exact of_decide_eq_true (by first|(with_reducible assumption)|assumption)|(have e_:=(Kd.V_reads' HO_146002.out).1;omega))
       obtain⟨ua148_5,uc148_5,rfl,ul148_5,ge148_5⟩:=k60_openF hMe148
       have hv148_5:=hcc148 5 _ rfl
       rw [qaO _ _ 5 (by omega)] at hv148_5
       replace hv148_5:=Option.some.inj (hv148_5.symm.trans hx148_5)
       injection hv148_5 with hva_ hvn_ hvc_
       rw [hva_] at ge148_5
       rw [hvc_] at ul148_5
       have HL148_5:=qaj.mk (show Kd.V (Kd.int .i64) 3 _ w.heap.size _ _ ((qaH l0_2 x4_1).f5) from Kd.V_mk ul148_5 ge148_5)
       clear hva_ hvn_ hvc_ ge148_5 ul148_5
       clear hcc148 hce148
       have HR148_5:=qaj.mk hi148_5
       have HC148_5:=qaj.mk hl148_5
       clear hi148_5 hl148_5
       replace p148:=eq_true p148
       replace q148:=eq_true q148
       refine start_ (n:=11) (S:=fun w'=>w'.cell? ⟨gb147,0,none⟩=some (.int .i64 a0_0)∧w'.cell? ⟨gb147,1,none⟩=some (.int .i64 a0_1)∧w'.cell? ⟨gb147,2,none⟩=some (u148002)∧w'.cell? ⟨gb145,0,none⟩=some (.int .i64 a0_0)∧w'.cell? ⟨gb145,1,none⟩=some (.int .i64 a0_1)∧w'.cell? ⟨gb145,2,none⟩=some (.slice (some ad148) l0_2.length c0_2)∧w'.cell? (ad148.add ((x4_1).toNat * 6))=some (.int .i64 ((qaH l0_2 x4_1).f0))∧w'.cell? ⟨(ad148.add ((x4_1).toNat * 6)).block,(ad148.add ((x4_1).toNat * 6)).off+1,none⟩=some (.int .i64 ((qaH l0_2 x4_1).f1))∧w'.cell? ⟨(ad148.add ((x4_1).toNat * 6)).block,(ad148.add ((x4_1).toNat * 6)).off+2,none⟩=some (.int .i64 ((qaH l0_2 x4_1).f2))∧w'.cell? ⟨(ad148.add ((x4_1).toNat * 6)).block,(ad148.add ((x4_1).toNat * 6)).off+3,none⟩=some (.int .i64 ((qaH l0_2 x4_1).f3))∧w'.cell? ⟨(ad148.add ((x4_1).toNat * 6)).block,(ad148.add ((x4_1).toNat * 6)).off+4,none⟩=some (.int .i64 ((qaH l0_2 x4_1).f4))∧w'.cell? ⟨(ad148.add ((x4_1).toNat * 6)).block,(ad148.add ((x4_1).toNat * 6)).off+5,none⟩=some (.slice A148_5 ((qaH l0_2 x4_1).f5).length c148_5)) (ds:=[8,10]) #[false,false,false,false,false,false,false,false,false,false,false] (by kernel_rfl) rfl rfl ⟨(qaf BK147.out 0).trans rfl,(qaf BK147.out 1).trans rfl,(qaf BK147.out 2).trans rfl,(qaf BK145.out 0).trans rfl,(qaf BK145.out 1).trans rfl,(qaf BK145.out 2).trans rfl,hx148_0,hx148_1,hx148_2,hx148_3,hx148_4,hx148_5⟩ (fun hHeld=>?_);refine qa1 ostinatolaw07_Sys_made.tab5 ostinatolaw07_Sys_made.bits5 (fun HT_ HW_=>?_)
       generalize wr.drew=w17 at HO_146002 HO_148002 BK145 BK146 BK147 HB HL148_5 HR148_5 hx148_0 hx148_1 hx148_2 hx148_3 hx148_4 hx148_5 hHeld ⊢
       refine qaF (i:=0) (N:=some 21) (v:=?_) (a':=?_) #[true,false,false,false,false,false,false,false,false,false,false] rfl rfl (qay HT_.out (by kernel_rfl)) (fun _ _ _ h=>h) (Or.inl ⟨by rfl,?_⟩) ?_ ?_
       rotate_left
       ·intro w'
        go_simp
        with_reducible rfl
       rotate_left
       ·simp only [Act.put,List.setIfInBounds_toArray,List.set_cons_zero,List.set_cons_succ,qav,qaw]
        rfl
       refine qaF (i:=2) (N:=some 23) (v:=?_) (a':=?_) #[true,false,true,false,false,false,false,false,false,false,false] rfl rfl (qay HT_.out (by kernel_rfl)) (fun _ _ _ h=>h) (Or.inl ⟨by rfl,?_⟩) ?_ ?_
       rotate_left
       ·intro w'
        go_simp
        with_reducible rfl
       rotate_left
       ·simp only [Act.put,List.setIfInBounds_toArray,List.set_cons_zero,List.set_cons_succ,qav,qaw]
        rfl
       refine qaF (i:=4) (N:=some 25) (v:=?_) (a':=?_) #[true,false,true,false,true,false,false,false,false,false,false] rfl rfl (qay HT_.out (by kernel_rfl)) (fun _ _ _ h=>h) (Or.inl ⟨by rfl,?_⟩) ?_ ?_
       rotate_left
       ·intro w'
        go_simp
        with_reducible rfl
       rotate_left
       ·simp only [Act.put,List.setIfInBounds_toArray,List.set_cons_zero,List.set_cons_succ,qav,qaw]
        rfl
       refine qa5 (i:=1) (N:=some 22) (v:=?_) (a':=?_) #[true,true,true,false,true,false,false,false,false,false,false] rfl rfl (qaI HT_.out HW_.out (by kernel_rfl)) (fun _ _ _ h=>h) (Or.inl ⟨by rfl,?_⟩) hHeld ?_ ?_
       rotate_left
       ·rintro w' ⟨s0,s1,s2,s3,s4,s5,s6,s7,s8,s9,s10,s11⟩
        go_simp
        with_reducible rfl
       rotate_left
       ·simp only [Act.put,List.setIfInBounds_toArray,List.set_cons_zero,List.set_cons_succ,qav,qaw]
        rfl
       refine qa5 (i:=3) (N:=some 24) (v:=?_) (a':=?_) #[true,true,true,true,true,false,false,false,false,false,false] rfl rfl (qaI HT_.out HW_.out (by kernel_rfl)) (fun _ _ _ h=>h) (Or.inl ⟨by rfl,?_⟩) hHeld ?_ ?_
       rotate_left
       ·rintro w' ⟨s0,s1,s2,s3,s4,s5,s6,s7,s8,s9,s10,s11⟩
        go_simp
        with_reducible rfl
       rotate_left
       ·simp only [Act.put,List.setIfInBounds_toArray,List.set_cons_zero,List.set_cons_succ,qav,qaw]
        rfl
       refine qaF (i:=5) (N:=some 26) (v:=?_) (a':=?_) #[true,true,true,true,true,true,false,false,false,false,false] rfl rfl (qay HT_.out (by kernel_rfl)) (fun _ _ _ h=>h) (Or.inl ⟨by rfl,?_⟩) ?_ ?_
       rotate_left
       ·intro w'
        go_simp
        with_reducible rfl
       rotate_left
       ·simp only [Act.put,List.setIfInBounds_toArray,List.set_cons_zero,List.set_cons_succ,qav,qaw]
        rfl
       refine qa5 (i:=6) (N:=some 27) (v:=?_) (a':=?_) #[true,true,true,true,true,true,true,false,false,false,false] rfl rfl (qaI HT_.out HW_.out (by kernel_rfl)) (fun _ _ _ h=>h) (Or.inl ⟨by rfl,?_⟩) hHeld ?_ ?_
       rotate_left
       ·rintro w' ⟨s0,s1,s2,s3,s4,s5,s6,s7,s8,s9,s10,s11⟩
        go_simp
        with_reducible rfl
       rotate_left
       ·simp only [Act.put,List.setIfInBounds_toArray,List.set_cons_zero,List.set_cons_succ,qav,qaw]
        rfl
       refine one_ (i:=7) (N:=some 28) #[true,true,true,true,true,true,true,true,false,false,false] rfl rfl (one_of HT_.out (by kernel_rfl)) (by decide) (fun K hK=>?_)
       refine value_ (w1:=?_) (v:=?_) (by rfl) rfl ?_ ?_
       rotate_left 2
       ·go_simp
        constructor
        ·rfl
        ·rfl
       refine hK.out _ _ ⟨(qaf (qab BK147.out _) 0).trans rfl,(qaf (qab BK147.out _) 1).trans rfl,(qaf (qab BK147.out _) 2).trans rfl,(qaf (qab BK145.out _) 0).trans rfl,(qaf (qab BK145.out _) 1).trans rfl,(qaf (qab BK145.out _) 2).trans rfl,(World.cell?_alloc_lt _ _ _ (bLt _ _ (hHeld.2.2.2.2.2.2.1))).trans (hHeld.2.2.2.2.2.2.1),(World.cell?_alloc_lt _ _ _ (bLt _ _ (hHeld.2.2.2.2.2.2.2.1))).trans (hHeld.2.2.2.2.2.2.2.1),(World.cell?_alloc_lt _ _ _ (bLt _ _ (hHeld.2.2.2.2.2.2.2.2.1))).trans (hHeld.2.2.2.2.2.2.2.2.1),(World.cell?_alloc_lt _ _ _ (bLt _ _ (hHeld.2.2.2.2.2.2.2.2.2.1))).trans (hHeld.2.2.2.2.2.2.2.2.2.1),(World.cell?_alloc_lt _ _ _ (bLt _ _ (hHeld.2.2.2.2.2.2.2.2.2.2.1))).trans (hHeld.2.2.2.2.2.2.2.2.2.2.1),(World.cell?_alloc_lt _ _ _ (bLt _ _ (hHeld.2.2.2.2.2.2.2.2.2.2.2))).trans (hHeld.2.2.2.2.2.2.2.2.2.2.2)⟩ (fun hHeld=>?_)
       clear hK K
       refine norm_ (a':=?_) ?_ ?_
       rotate_left
       ·show Act.put _ (some 28) _=_
        simp only [Act.put,List.setIfInBounds_toArray,List.set_cons_zero,List.set_cons_succ,qav,qaw]
        rfl
       refine last_ (i:=8) (N:=some 29) #[true,true,true,true,true,true,true,true,true,false,false] rfl rfl (one_of HT_.out (by kernel_rfl)) (by decide) (fun K hK=>?_)
       refine Kd.N_append_step k59 (w0:=w) w.heap.size (by rfl) (.tmp 22) (.tmp 28) 55 59 (.agg #[(.int .i64 0),(.int .i64 0),(.int .i64 0),(.int .i64 0),(.int .i64 0),(.slice none 0 0)]) 64 rfl Tryd.underlying55 info59 rfl (by decide) (by omega) u148002 x148002_1 (⟨(qaH l0_2 x4_1).f0,(qaH l0_2 x4_1).f1,(qaH l0_2 x4_1).f2,(qaH l0_2 x4_1).f3,(qaH l0_2 x4_1).f4,(qaH l0_2 x4_1).f5⟩:S59) [.int .i64 ((qaH l0_2 x4_1).f0),.int .i64 ((qaH l0_2 x4_1).f1),.int .i64 ((qaH l0_2 x4_1).f2),.int .i64 ((qaH l0_2 x4_1).f3),.int .i64 ((qaH l0_2 x4_1).f4),.slice A148_5 ((qaH l0_2 x4_1).f5).length c148_5] (fun k_=>(P0_2_ k_∨w.heap.size≤k_)∧k_≠gb145∧k_≠gb146∧k_≠gb147) (fun k_=>((fun k_=>(P0_2_ k_∨w.heap.size≤k_)∧k_≠gb145∧k_≠gb146∧k_≠gb147)) k_∧some k_≠(u148002:Value).ownBlock) rfl rfl ?aP (fun _ hk=>hk) ?aF ?aO ?aB ?aS ?aL ?_
       (case aP=>exact (k59_mkF _ _ (⟨(qaH l0_2 x4_1).f0,(qaH l0_2 x4_1).f1,(qaH l0_2 x4_1).f2,(qaH l0_2 x4_1).f3,(qaH l0_2 x4_1).f4,(qaH l0_2 x4_1).f5⟩:S59) (Kd.V_reads' (Kd.V_mono (ok':=(fun k_=>((fun k_=>(P0_2_ k_∨w.heap.size≤k_)∧k_≠gb145∧k_≠gb146∧k_≠gb147)) k_∧some k_≠(u148002:Value).ownBlock)) (HL148_5.out) (fun k_ hk=>⟨⟨hk.1,⟨hk.2.2.1,⟨hk.2.2.2.1,hk.2.2.2.2⟩⟩⟩,hk.2.1⟩))).2.1 (Kd.V_F (Kd.V_mono (ok':=(fun k_=>((fun k_=>(P0_2_ k_∨w.heap.size≤k_)∧k_≠gb145∧k_≠gb146∧k_≠gb147)) k_∧some k_≠(u148002:Value).ownBlock)) (HL148_5.out) (fun k_ hk=>⟨⟨hk.1,⟨hk.2.2.1,⟨hk.2.2.2.1,hk.2.2.2.2⟩⟩⟩,hk.2.1⟩)))))
       (case aB=>exact (by repeat (first|(with_reducible first|exact HB.out|apply qai|apply qaa|apply qah|refine qae ?_ GE145.out|refine qae ?_ GE146.out|refine qae ?_ GE147.out)|exact HB.out)))
       (case aF=>exact (fun k_ hk=>⟨(.inr (Nat.le_trans (qak (by repeat (first|(with_reducible first|exact HB.out|apply qai|apply qaa|apply qah|refine qae ?_ GE145.out|refine qae ?_ GE146.out|refine qae ?_ GE147.out)|exact HB.out))) hk)),Kd.freshB (g:=gb145) (o:=.cells #[.int .i64 a0_0,.int .i64 a0_1,.slice (some ad148) l0_2.length c0_2] 24 (0,0)) (by (with_reducible repeat (first|refine qad ?_ _|refine qag ?_|refine qab ?_ _));exact BK145.out) k_ hk,Kd.freshB (g:=gb146) (o:=.cells #[.int .i64 0,.int .i64 0,.slice none 0 0] 32 (0,0)) (by (with_reducible repeat (first|refine qad ?_ _|refine qag ?_|refine qab ?_ _));exact BK146.out) k_ hk,Kd.freshB (g:=gb147) (o:=.cells #[.int .i64 a0_0,.int .i64 a0_1,u148002] 57 (0,0)) (by (with_reducible repeat (first|refine qad ?_ _|refine qag ?_|refine qab ?_ _));exact BK147.out) k_ hk⟩))
       (case aO=>exact (by (with_reducible repeat (first|apply Kd.N_alloc|apply Kd.N_drewN|apply Kd.N_drew));exact HO_148002.out))
       (case aS=>exact (qak (by repeat (first|(with_reducible first|exact HB.out|apply qai|apply qaa|apply qah|refine qae ?_ GE145.out|refine qae ?_ GE146.out|refine qae ?_ GE147.out)|exact HB.out))))
       (case aL=>have:=LMc13.out;omega)
       intro v150 w18 ho hb hg hat
       rw [← Ny149.out] at ho
       have n0_:=qaj.mk (Kd.V_afterv (ok:=(fun k_=>(P0_2_ k_∨w.heap.size≤k_)∧k_≠gb145∧k_≠gb146∧k_≠gb147)) (by (with_reducible repeat (first|apply Kd.V_alloc|apply Kd.V_drewN|apply Kd.V_drew));exact Kd.V_mono HO_146002.out (fun _ hk=>⟨⟨hk.1,⟨hk.2.2.1,⟨hk.2.2.2.1,hk.2.2.2.2⟩⟩⟩,hk.2.1⟩)) hg hat)
       have n1_:=qaj.mk (qaM (g:=gb145) (o:=.cells #[.int .i64 a0_0,.int .i64 a0_1,.slice (some ad148) l0_2.length c0_2] 24 (0,0)) (by (with_reducible repeat (first|refine qad ?_ _|refine qag ?_|refine qab ?_ _));exact BK145.out) hg (Kd.N_ne HO_148002.out BK145.out (by decide)))
       have n2_:=qaj.mk (qaM (g:=gb146) (o:=.cells #[.int .i64 0,.int .i64 0,.slice none 0 0] 32 (0,0)) (by (with_reducible repeat (first|refine qad ?_ _|refine qag ?_|refine qab ?_ _));exact BK146.out) hg (Kd.N_ne HO_148002.out BK146.out (by decide)))
       have n3_:=qaj.mk (qaM (g:=gb147) (o:=.cells #[.int .i64 a0_0,.int .i64 a0_1,u148002] 57 (0,0)) (by (with_reducible repeat (first|refine qad ?_ _|refine qag ?_|refine qab ?_ _));exact BK147.out) hg (Kd.N_ne HO_148002.out BK147.out (by decide)))
       have n4_:=qaj.mk (Kd.V_afterv (ok:=(fun k_=>(P0_2_ k_∨w.heap.size≤k_)∧k_≠gb145∧k_≠gb146∧k_≠gb147)) (by (with_reducible repeat (first|apply Kd.V_alloc|apply Kd.V_drewN|apply Kd.V_drew));exact Kd.V_mono HL148_5.out (fun _ hk=>⟨⟨hk.1,⟨hk.2.2.1,⟨hk.2.2.2.1,hk.2.2.2.2⟩⟩⟩,hk.2.1⟩)) hg hat)
       have n5_:=qaj.mk (hb)
       have n6_:=qaj.mk (ho)
       clear HO_146002
       clear BK145
       clear BK146
       clear BK147
       clear HL148_5
       clear HB
       clear HO_148002
       have HO_146002:=n0_
       have BK145:=n1_
       have BK146:=n2_
       have BK147:=n3_
       have HL148_5:=n4_
       have HB:=n5_
       have HO151:=n6_
       clear n0_ n1_ n2_ n3_ n4_ n5_ n6_
       clear ho hb hg hat
       obtain⟨Ao19,co19,eo19⟩:=Kd.N_slice HO151.out
       (first|subst eo19|(injection eo19 with f1_ f2_ f3_;have f4_:=f1_.symm;have f5_:=f3_.symm;clear f1_ f2_ f3_;subst f4_;subst f5_))
       refine hK.out _ _ ?_
       clear hK K
       refine norm_ (a':=?_) ?_ ?_
       rotate_left
       ·show Act.put _ (some 29) _=_
        simp only [Act.put,List.setIfInBounds_toArray,List.set_cons_zero,List.set_cons_succ,qav,qaw]
        rfl
       refine qaF (i:=9) (N:=some 30) (v:=?_) (a':=?_) #[true,true,true,true,true,true,true,true,true,true,false] rfl rfl (qay HT_.out (by kernel_rfl)) (fun _ _ _ h=>h) (Or.inl ⟨by rfl,?_⟩) ?_ ?_
       rotate_left
       ·intro w'
        go_simp
        with_reducible rfl
       rotate_left
       ·simp only [Act.put,List.setIfInBounds_toArray,List.set_cons_zero,List.set_cons_succ,qav,qaw]
        rfl
       refine last_ (i:=10) (N:=none) #[true,true,true,true,true,true,true,true,true,true,true] rfl rfl (one_of HT_.out (by kernel_rfl)) (by decide) (fun K hK=>?_)
       have hs20:w18.cell? ⟨gb147,2,none⟩=some (u148002):=(qaf BK147.out 2).trans rfl
       have hfs20:=qac BK147.out 2
       have hns20_0:=NB145_147.out
       have hns20_1:=NB146_147.out
       have hms20_0:=NB147_145.out
       have hms20_1:=NB147_146.out
       refine skip_ (w1:=?_) (by rfl) rfl ?_ ?_
       rotate_left
       ·go_simp
        rfl
       refine hK.out _ _ ?_
       clear hK K
       refine done_ (done_of HT_.out (by kernel_rfl)) ?_
       try go_wp2
       go_roundg k1
       case measure=>have:=HK1.out;omega
       case rel=>exact⟨(wrap64 (x4_1+1)),(y149),(.slice Ao19 y149.length co19),(by first|rfl|(simp;done)|(simp [*];done)),H',⟨by have:=HK1.out;omega⟩,⟨by (with_reducible repeat (first|apply Kd.V_alloc|apply Kd.V_drewN|apply Kd.V_drew));exact Kd.V_mono (Kd.V_far (p:=⟨gb147,2,none⟩) (Kd.V_mono HO_146002.out (fun k_ hk=>(⟨hk,hk.1.2.2.2⟩:_∧k_≠gb147))) (fun _ hk=>hk.2) (.slice Ao19 y149.length co19)) (fun _ hk=>⟨hk.1.1.1,⟨hk.1.2,⟨hk.1.1.2.1,⟨hk.1.1.2.2.1,hk.1.1.2.2.2⟩⟩⟩⟩)⟩,⟨by (with_reducible repeat (first|apply Kd.N_alloc|apply Kd.N_drewN|apply Kd.N_drew));exact Kd.N_mono (Kd.N_far (p:=⟨gb147,2,none⟩) (Kd.N_mono HO151.out (fun k_ hk=>(⟨hk,hk.2.2.2⟩:_∧k_≠gb147))) (fun _ hk=>hk.2) (.slice Ao19 y149.length co19)) (fun _ hk=>⟨hk.1.1,⟨hk.1.2.1,⟨hk.1.2.2.1,hk.1.2.2.2⟩⟩⟩)⟩,⟨by (with_reducible repeat (first|refine qad ?_ _|refine qag ?_|refine qab ?_ _));refine qaq ?_ NB145_147.out _;(with_reducible repeat (first|refine qad ?_ _|refine qag ?_|refine qab ?_ _));exact BK145.out⟩,⟨by (with_reducible repeat (first|refine qad ?_ _|refine qag ?_|refine qab ?_ _));refine qaq ?_ NB146_147.out _;(with_reducible repeat (first|refine qad ?_ _|refine qag ?_|refine qab ?_ _));exact BK146.out⟩,⟨by (with_reducible repeat (first|refine qad ?_ _|refine qag ?_|refine qab ?_ _));refine qat (cs:=#[.int .i64 a0_0,.int .i64 a0_1,u148002]) ?_ 2 _ rfl;(with_reducible repeat (first|refine qad ?_ _|refine qag ?_|refine qab ?_ _));exact BK147.out⟩,⟨by repeat (first|(with_reducible first|exact HB.out|apply qai|apply qaa|apply qah|refine qae ?_ GE145.out|refine qae ?_ GE146.out|refine qae ?_ GE147.out)|exact HB.out)⟩⟩
      ·rw [if_neg c13] at H
       exact absurd H (by simp)
     ·rw [if_neg c12] at H
      exact absurd H (by simp)
    ·rw [if_neg c11] at H
     have c11b0:decide (x4_1<6)=false:=decide_eq_false c11
     clear c11
     replace H:=Option.bind_eq_some_iff.mp H
     obtain⟨⟨t152,t153,t154⟩,A210,H⟩:=H
     replace H:(some (t152,t153,t154))=some (r1,r2,r3):=H
     have A21:=qaj.mk A210
     clear A210
     simp only [Option.some.injEq,Prod.mk.injEq] at H
     obtain⟨rfl,rfl,rfl⟩:=H
     have hnb22:=NB145_146.out
     have hnc22:=NB146_145.out
     have hnb23:=NB145_147.out
     have hnc23:=NB147_145.out
     have hcz24_0:wr.cell? ⟨gb145,0,none⟩=some (.int .i64 a0_0):=(qaf BK145.out 0).trans rfl
     have hcz24_1:wr.cell? ⟨gb145,1,none⟩=some (.int .i64 a0_1):=(qaf BK145.out 1).trans rfl
     have hcz24_2:wr.cell? ⟨gb145,2,none⟩=some (.slice A0_2 l0_2.length c0_2):=(qaf BK145.out 2).trans rfl
     have hfz24_0:=qac BK145.out 0
     have hfz24_1:=qac BK145.out 1
     have hfz24_2:=qac BK145.out 2
     have hnb25:=NB147_146.out
     have hnc25:=NB146_147.out
     have hcz26_0:wr.cell? ⟨gb147,0,none⟩=some (.int .i64 a0_0):=(qaf BK147.out 0).trans rfl
     have hcz26_1:wr.cell? ⟨gb147,1,none⟩=some (.int .i64 a0_1):=(qaf BK147.out 1).trans rfl
     have hcz26_2:wr.cell? ⟨gb147,2,none⟩=some (u148002):=(qaf BK147.out 2).trans rfl
     have hfz26_0:=qac BK147.out 0
     have hfz26_1:=qac BK147.out 1
     have hfz26_2:=qac BK147.out 2
     obtain⟨Ao27,co27,eo27⟩:=Kd.N_slice HO_148002.out
     subst eo27
     go_wp2_with (first|((with_reducible refine qau (f:=19) rfl ?_);refine qaJ (some 32) rfl rfl Tryd.func19 (by kernel_rfl) rfl #[.agg #[.int .i64 a0_0,.int .i64 a0_1,.slice Ao27 x148002_1.length co27]] rfl (by (try simp only [List.map_toArray,List.map_cons,List.map_nil]);first|done|rfl|(simp only [List.length_drop,List.length_take];rfl)) ?_;(with_reducible refine (ostinatoref05_System_Made.calls k1 a0_0 a0_1 _ _ x148002_1 t152 t153 t154 _ ?side1 ?side2 A21.out).mono ?_);(case side1=>repeat (first|exact (Kd.N_reads' HO_148002.out).2.2|(with_reducible refine Kd.C_alloc ?_ _)|(with_reducible refine Kd.C_drewN ?_ _)|(with_reducible refine Kd.C_drew ?_)));(case side2=>exact (Kd.N_reads' HO_148002.out).2.1);rintro e w28 ⟨v155,rfl,ho0,hb⟩;refine⟨_,rfl,?_⟩;have n0_:=qaj.mk (Kd.V_elder' (by (with_reducible repeat (first|apply Kd.V_alloc|apply Kd.V_drewN|apply Kd.V_drew));exact HO_146002.out) (Kd.S_base ho0) hb);have n1_:=qaj.mk (Kd.N_elder' (by (with_reducible repeat (first|apply Kd.N_alloc|apply Kd.N_drewN|apply Kd.N_drew));exact HO_148002.out) (Kd.S_base ho0) hb);have n2_:=qaj.mk (Kd.N_lower (Kd.N_mono (ok':=fun k_=>(P0_2_ k_∨w.heap.size≤k_)∧some k_≠(.slice Ao27 x148002_1.length co27:Value).ownBlock∧k_≠gb145∧k_≠gb146∧k_≠gb147) (Kd.S_N (Kd.S_bound ho0)) (fun k_ hk_=>⟨(.inr (Nat.le_trans (qak (by repeat (first|(with_reducible first|exact HB.out|apply qai|apply qaa|apply qah|refine qae ?_ GE145.out|refine qae ?_ GE146.out|refine qae ?_ GE147.out)|exact HB.out))) hk_.2.1)),(Kd.fresh' (Kd.N_lt (by (with_reducible repeat (first|apply Kd.N_alloc|apply Kd.N_drewN|apply Kd.N_drew));exact HO_148002.out)) k_ hk_.2.1),(Kd.freshB (g:=gb145) (o:=.cells #[.int .i64 a0_0,.int .i64 a0_1,.slice A0_2 l0_2.length c0_2] 24 (0,0)) (by (with_reducible repeat (first|refine qad ?_ _|refine qag ?_|refine qab ?_ _));exact BK145.out) k_ hk_.2.1),(Kd.freshB (g:=gb146) (o:=.cells #[.int .i64 0,.int .i64 0,.slice none 0 0] 32 (0,0)) (by (with_reducible repeat (first|refine qad ?_ _|refine qag ?_|refine qab ?_ _));exact BK146.out) k_ hk_.2.1),(Kd.freshB (g:=gb147) (o:=.cells #[.int .i64 a0_0,.int .i64 a0_1,.slice Ao27 x148002_1.length co27] 57 (0,0)) (by (with_reducible repeat (first|refine qad ?_ _|refine qag ?_|refine qab ?_ _));exact BK147.out) k_ hk_.2.1)⟩)) (qak (by repeat (first|(with_reducible first|exact HB.out|apply qai|apply qaa|apply qah|refine qae ?_ GE145.out|refine qae ?_ GE146.out|refine qae ?_ GE147.out)|exact HB.out))));have n3_:=qaj.mk (qal (g:=gb145) (o:=.cells #[.int .i64 a0_0,.int .i64 a0_1,.slice A0_2 l0_2.length c0_2] 24 (0,0)) (by (with_reducible repeat (first|refine qad ?_ _|refine qag ?_|refine qab ?_ _));exact BK145.out) hb);have n4_:=qaj.mk (qal (g:=gb146) (o:=.cells #[.int .i64 0,.int .i64 0,.slice none 0 0] 32 (0,0)) (by (with_reducible repeat (first|refine qad ?_ _|refine qag ?_|refine qab ?_ _));exact BK146.out) hb);have n5_:=qaj.mk (qal (g:=gb147) (o:=.cells #[.int .i64 a0_0,.int .i64 a0_1,.slice Ao27 x148002_1.length co27] 57 (0,0)) (by (with_reducible repeat (first|refine qad ?_ _|refine qag ?_|refine qab ?_ _));exact BK147.out) hb);have n6_:=qaj.mk (qam (by repeat (first|(with_reducible first|exact HB.out|apply qai|apply qaa|apply qah|refine qae ?_ GE145.out|refine qae ?_ GE146.out|refine qae ?_ GE147.out)|exact HB.out)) hb);clear HO_146002;clear HO_148002;clear BK145;clear BK146;clear BK147;clear HB;have HO_146002:=n0_;have HO_148002:=n1_;have HO156:=n2_;have BK145:=n3_;have BK146:=n4_;have BK147:=n5_;have HB:=n6_;clear n0_ n1_ n2_ n3_ n4_ n5_ n6_;(try clear hb);(try clear hb2);(try clear hk);(try clear hi);(try clear ho0);have hcz29_0:w28.cell? ⟨gb146,0,none⟩=some (.int .i64 0):=(qaf BK146.out 0).trans rfl;have hcz29_1:w28.cell? ⟨gb146,1,none⟩=some (.int .i64 0):=(qaf BK146.out 1).trans rfl;have hcz29_2:w28.cell? ⟨gb146,2,none⟩=some (.slice none 0 0):=(qaf BK146.out 2).trans rfl;have hfz29_0:=qac BK146.out 0;have hfz29_1:=qac BK146.out 1;have hfz29_2:=qac BK146.out 2;obtain⟨Ao30,co30,eo30⟩:=Kd.N_slice HO156.out;subst eo30))
     refine bodyPost_ret (results_cell_row rfl _ _ gb146 32 #[.int .i64 t152,.int .i64 t153,.slice Ao30 t154.length co30] (0,0) _ rfl (by (with_reducible repeat (first|refine qad ?_ _|refine qag ?_|refine qab ?_ _));refine qat (cs:=#[.int .i64 t152,.int .i64 t153,.slice none 0 0]) ?_ 2 _ rfl;(with_reducible repeat (first|refine qad ?_ _|refine qag ?_|refine qab ?_ _));refine qat (cs:=#[.int .i64 t152,.int .i64 0,.slice none 0 0]) ?_ 1 _ rfl;(with_reducible repeat (first|refine qad ?_ _|refine qag ?_|refine qab ?_ _));refine qat (cs:=#[.int .i64 0,.int .i64 0,.slice none 0 0]) ?_ 0 _ rfl;(with_reducible repeat (first|refine qad ?_ _|refine qag ?_|refine qab ?_ _));exact BK146.out) Tryd.underlying32 rfl (by kernel_rfl)) rfl ?_
     exact⟨_,by first|rfl|(simp [qao,qan]<;>rfl)|(simp [bneNil,bneNilU]<;>rfl)|(simp [*,qao,qan]<;>rfl),by (with_reducible repeat (first|apply Kd.N_alloc|apply Kd.N_drewN|apply Kd.N_drew));exact Kd.N_mono (Kd.N_far (p:=⟨gb146,2,none⟩) (Kd.N_far (p:=⟨gb146,1,none⟩) (Kd.N_far (p:=⟨gb146,0,none⟩) (Kd.N_mono HO156.out (fun k_ hk=>(⟨hk,hk.2.2.2.1⟩:_∧k_≠gb146))) (fun _ hk=>hk.2) (.int .i64 t152)) (fun _ hk=>hk.2) (.int .i64 t153)) (fun _ hk=>hk.2) (.slice Ao30 t154.length co30)) (fun _ hk=>hk.1.1),by repeat (first|(with_reducible first|exact HB.out|apply qai|apply qaa|apply qah|refine qae ?_ GE145.out|refine qae ?_ GE146.out|refine qae ?_ GE147.out)|exact HB.out)⟩
   ·rw [if_neg c10] at H
    have c10b0:decide (x4_1<(l0_2.length:Int))=false:=decide_eq_false c10
    clear c10
    replace H:=Option.bind_eq_some_iff.mp H
    obtain⟨⟨t157,t158,t159⟩,A310,H⟩:=H
    replace H:(some (t157,t158,t159))=some (r1,r2,r3):=H
    have A31:=qaj.mk A310
    clear A310
    simp only [Option.some.injEq,Prod.mk.injEq] at H
    obtain⟨rfl,rfl,rfl⟩:=H
    have hnb32:=NB145_146.out
    have hnc32:=NB146_145.out
    have hnb33:=NB145_147.out
    have hnc33:=NB147_145.out
    have hcz34_0:wr.cell? ⟨gb145,0,none⟩=some (.int .i64 a0_0):=(qaf BK145.out 0).trans rfl
    have hcz34_1:wr.cell? ⟨gb145,1,none⟩=some (.int .i64 a0_1):=(qaf BK145.out 1).trans rfl
    have hcz34_2:wr.cell? ⟨gb145,2,none⟩=some (.slice A0_2 l0_2.length c0_2):=(qaf BK145.out 2).trans rfl
    have hfz34_0:=qac BK145.out 0
    have hfz34_1:=qac BK145.out 1
    have hfz34_2:=qac BK145.out 2
    have hnb35:=NB147_146.out
    have hnc35:=NB146_147.out
    have hcz36_0:wr.cell? ⟨gb147,0,none⟩=some (.int .i64 a0_0):=(qaf BK147.out 0).trans rfl
    have hcz36_1:wr.cell? ⟨gb147,1,none⟩=some (.int .i64 a0_1):=(qaf BK147.out 1).trans rfl
    have hcz36_2:wr.cell? ⟨gb147,2,none⟩=some (u148002):=(qaf BK147.out 2).trans rfl
    have hfz36_0:=qac BK147.out 0
    have hfz36_1:=qac BK147.out 1
    have hfz36_2:=qac BK147.out 2
    obtain⟨Ao37,co37,eo37⟩:=Kd.N_slice HO_148002.out
    subst eo37
    go_wp2_with (first|((with_reducible refine qau (f:=19) rfl ?_);refine qaJ (some 32) rfl rfl Tryd.func19 (by kernel_rfl) rfl #[.agg #[.int .i64 a0_0,.int .i64 a0_1,.slice Ao37 x148002_1.length co37]] rfl (by (try simp only [List.map_toArray,List.map_cons,List.map_nil]);first|done|rfl|(simp only [List.length_drop,List.length_take];rfl)) ?_;(with_reducible refine (ostinatoref05_System_Made.calls k1 a0_0 a0_1 _ _ x148002_1 t157 t158 t159 _ ?side1 ?side2 A31.out).mono ?_);(case side1=>repeat (first|exact (Kd.N_reads' HO_148002.out).2.2|(with_reducible refine Kd.C_alloc ?_ _)|(with_reducible refine Kd.C_drewN ?_ _)|(with_reducible refine Kd.C_drew ?_)));(case side2=>exact (Kd.N_reads' HO_148002.out).2.1);rintro e w38 ⟨v160,rfl,ho0,hb⟩;refine⟨_,rfl,?_⟩;have n0_:=qaj.mk (Kd.V_elder' (by (with_reducible repeat (first|apply Kd.V_alloc|apply Kd.V_drewN|apply Kd.V_drew));exact HO_146002.out) (Kd.S_base ho0) hb);have n1_:=qaj.mk (Kd.N_elder' (by (with_reducible repeat (first|apply Kd.N_alloc|apply Kd.N_drewN|apply Kd.N_drew));exact HO_148002.out) (Kd.S_base ho0) hb);have n2_:=qaj.mk (Kd.N_lower (Kd.N_mono (ok':=fun k_=>(P0_2_ k_∨w.heap.size≤k_)∧some k_≠(.slice Ao37 x148002_1.length co37:Value).ownBlock∧k_≠gb145∧k_≠gb146∧k_≠gb147) (Kd.S_N (Kd.S_bound ho0)) (fun k_ hk_=>⟨(.inr (Nat.le_trans (qak (by repeat (first|(with_reducible first|exact HB.out|apply qai|apply qaa|apply qah|refine qae ?_ GE145.out|refine qae ?_ GE146.out|refine qae ?_ GE147.out)|exact HB.out))) hk_.2.1)),(Kd.fresh' (Kd.N_lt (by (with_reducible repeat (first|apply Kd.N_alloc|apply Kd.N_drewN|apply Kd.N_drew));exact HO_148002.out)) k_ hk_.2.1),(Kd.freshB (g:=gb145) (o:=.cells #[.int .i64 a0_0,.int .i64 a0_1,.slice A0_2 l0_2.length c0_2] 24 (0,0)) (by (with_reducible repeat (first|refine qad ?_ _|refine qag ?_|refine qab ?_ _));exact BK145.out) k_ hk_.2.1),(Kd.freshB (g:=gb146) (o:=.cells #[.int .i64 0,.int .i64 0,.slice none 0 0] 32 (0,0)) (by (with_reducible repeat (first|refine qad ?_ _|refine qag ?_|refine qab ?_ _));exact BK146.out) k_ hk_.2.1),(Kd.freshB (g:=gb147) (o:=.cells #[.int .i64 a0_0,.int .i64 a0_1,.slice Ao37 x148002_1.length co37] 57 (0,0)) (by (with_reducible repeat (first|refine qad ?_ _|refine qag ?_|refine qab ?_ _));exact BK147.out) k_ hk_.2.1)⟩)) (qak (by repeat (first|(with_reducible first|exact HB.out|apply qai|apply qaa|apply qah|refine qae ?_ GE145.out|refine qae ?_ GE146.out|refine qae ?_ GE147.out)|exact HB.out))));have n3_:=qaj.mk (qal (g:=gb145) (o:=.cells #[.int .i64 a0_0,.int .i64 a0_1,.slice A0_2 l0_2.length c0_2] 24 (0,0)) (by (with_reducible repeat (first|refine qad ?_ _|refine qag ?_|refine qab ?_ _));exact BK145.out) hb);have n4_:=qaj.mk (qal (g:=gb146) (o:=.cells #[.int .i64 0,.int .i64 0,.slice none 0 0] 32 (0,0)) (by (with_reducible repeat (first|refine qad ?_ _|refine qag ?_|refine qab ?_ _));exact BK146.out) hb);have n5_:=qaj.mk (qal (g:=gb147) (o:=.cells #[.int .i64 a0_0,.int .i64 a0_1,.slice Ao37 x148002_1.length co37] 57 (0,0)) (by (with_reducible repeat (first|refine qad ?_ _|refine qag ?_|refine qab ?_ _));exact BK147.out) hb);have n6_:=qaj.mk (qam (by repeat (first|(with_reducible first|exact HB.out|apply qai|apply qaa|apply qah|refine qae ?_ GE145.out|refine qae ?_ GE146.out|refine qae ?_ GE147.out)|exact HB.out)) hb);clear HO_146002;clear HO_148002;clear BK145;clear BK146;clear BK147;clear HB;have HO_146002:=n0_;have HO_148002:=n1_;have HO161:=n2_;have BK145:=n3_;have BK146:=n4_;have BK147:=n5_;have HB:=n6_;clear n0_ n1_ n2_ n3_ n4_ n5_ n6_;(try clear hb);(try clear hb2);(try clear hk);(try clear hi);(try clear ho0);have hcz39_0:w38.cell? ⟨gb146,0,none⟩=some (.int .i64 0):=(qaf BK146.out 0).trans rfl;have hcz39_1:w38.cell? ⟨gb146,1,none⟩=some (.int .i64 0):=(qaf BK146.out 1).trans rfl;have hcz39_2:w38.cell? ⟨gb146,2,none⟩=some (.slice none 0 0):=(qaf BK146.out 2).trans rfl;have hfz39_0:=qac BK146.out 0;have hfz39_1:=qac BK146.out 1;have hfz39_2:=qac BK146.out 2;obtain⟨Ao40,co40,eo40⟩:=Kd.N_slice HO161.out;subst eo40))
    refine bodyPost_ret (results_cell_row rfl _ _ gb146 32 #[.int .i64 t157,.int .i64 t158,.slice Ao40 t159.length co40] (0,0) _ rfl (by (with_reducible repeat (first|refine qad ?_ _|refine qag ?_|refine qab ?_ _));refine qat (cs:=#[.int .i64 t157,.int .i64 t158,.slice none 0 0]) ?_ 2 _ rfl;(with_reducible repeat (first|refine qad ?_ _|refine qag ?_|refine qab ?_ _));refine qat (cs:=#[.int .i64 t157,.int .i64 0,.slice none 0 0]) ?_ 1 _ rfl;(with_reducible repeat (first|refine qad ?_ _|refine qag ?_|refine qab ?_ _));refine qat (cs:=#[.int .i64 0,.int .i64 0,.slice none 0 0]) ?_ 0 _ rfl;(with_reducible repeat (first|refine qad ?_ _|refine qag ?_|refine qab ?_ _));exact BK146.out) Tryd.underlying32 rfl (by kernel_rfl)) rfl ?_
    exact⟨_,by first|rfl|(simp [qao,qan]<;>rfl)|(simp [bneNil,bneNilU]<;>rfl)|(simp [*,qao,qan]<;>rfl),by (with_reducible repeat (first|apply Kd.N_alloc|apply Kd.N_drewN|apply Kd.N_drew));exact Kd.N_mono (Kd.N_far (p:=⟨gb146,2,none⟩) (Kd.N_far (p:=⟨gb146,1,none⟩) (Kd.N_far (p:=⟨gb146,0,none⟩) (Kd.N_mono HO161.out (fun k_ hk=>(⟨hk,hk.2.2.2.1⟩:_∧k_≠gb146))) (fun _ hk=>hk.2) (.int .i64 t157)) (fun _ hk=>hk.2) (.int .i64 t158)) (fun _ hk=>hk.2) (.slice Ao40 t159.length co40)) (fun _ hk=>hk.1.1),by repeat (first|(with_reducible first|exact HB.out|apply qai|apply qaa|apply qah|refine qae ?_ GE145.out|refine qae ?_ GE146.out|refine qae ?_ GE147.out)|exact HB.out)⟩
def tkOf (x:S52):Tk:=⟨x.f0,x.f1,x.f2,x.f3,x.f4,x.f5,x.f6⟩
theorem C_of_tk {w:World} {A:Option Addr} {L:List S52} (h:Kd.C k52 w A L.length L):Kd.C kTk w A (L.map tkOf).length (L.map tkOf):=by
 obtain⟨h1,h2,h3⟩:=h
 refine⟨rfl,by rw [List.length_map];exact h2,fun hl=>?_⟩
 rw [List.length_map] at hl
 obtain⟨ad,e,hc⟩:=h3 hl
 refine⟨ad,e,fun j p hj=>?_⟩
 rw [List.getElem?_map] at hj
 cases hx:L[j]? with
 |none=>rw [hx] at hj;cases hj
 |some x=>
  rw [hx] at hj
  obtain rfl:=Option.some.inj hj
  obtain⟨c,a1,a2,a3⟩:=hc j x hx
  exact⟨c,a1,a2,a3⟩
def prnOk (L:List S52):Bool:=decide (L.length≤70000) && L.all fun x=>decide (x.f5.length≤1000000) && decide (x.f6.length≤1000000) && decide (x.f1≤9223372036854775807)
def parse_Print.f (a0_0 a0_1:Int) (l0_2:List S52):Option ByteArray:=if prnOk l0_2=true then some (if checkE a0_0 a0_1 (l0_2.map tkOf)=0 then printT a0_0 a0_1 (l0_2.map tkOf) else ⟨#[]⟩) else none
theorem parse_Print.calls (a0_0:Int) (a0_1:Int) (A0_2:Option Addr) (c0_2:Nat) (l0_2:List S52) (r:ByteArray) (w:World) (hr0_2:Kd.C k52 w A0_2 l0_2.length l0_2) (hc0_2:l0_2.length≤c0_2) (h:parse_Print.f a0_0 a0_1 l0_2=some r) (hT:Tabs w) :
  Calls Tryd.prog 15 #[.agg #[.int .i64 a0_0,.int .i64 a0_1,.slice A0_2 l0_2.length c0_2]] w fun e w'=>e=.returned (.string r)∧Below w.heap.size w w':=by
 unfold parse_Print.f at h
 split at h
 ·rename_i h1
  obtain rfl:=Option.some.inj h
  unfold prnOk at h1
  simp only [Bool.and_eq_true,decide_eq_true_eq] at h1
  have:=print_any a0_0 a0_1 A0_2 c0_2 (l0_2.map tkOf) w (by rw [List.length_map];exact h1.1) (fun x hx=>by
   obtain⟨y,hy,rfl⟩:=List.mem_map.1 hx
   have:=List.all_eq_true.1 h1.2 y hy
   simp only [Bool.and_eq_true,decide_eq_true_eq] at this
   exact⟨this.1.1,this.1.2,this.2⟩) (tkrow_of_C (C_of_tk hr0_2)) hT.1.1 hT.1.2
  rw [List.length_map] at this
  exact this
 ·cases h
end
end Go.Proofs.YtcfknijdhmildaaDoor.PParseCuts
end
section
namespace Go.Proofs.YtcfknijdhmildaaDoor.PParseCuts
open Go.RowKit Go.Proofs.YtcfknijdhmildaaDoorW.PrintWords Go.Proofs.YtcfknijdhmildaaDoorW.PrintLast Go.Proofs.YtcfknijdhmildaaDoorW.PrintMore
attribute [local go_sem] max2_int min2_int max_two min_two max_three min_three max_four min_four
set_option linter.unusedVariables false
set_option linter.unusedSimpArgs false
noncomputable section
mutual
def ostinatoref05_Right.j0:Nat→Int→Bool→Int→Int→Int→Int→Int→List Int→List Int→Option (Int)
 |0,_,_,_,_,_,_,_,_,_=>none
 |k+1,x1,x25,x163000,x163001,x163002,x163003,x163004,x163005,x163006=>if x25=true then (some 1) else (if x163001<1 then (ostinatoref05_Right.j1 k x1 true x163000 x163001 x163002 x163003 x163004 x163005 x163006) else (if x163001 > x163002 then (ostinatoref05_Right.j1 k x1 true x163000 x163001 x163002 x163003 x163004 x163005 x163006) else (if x163002 > x163003 then (ostinatoref05_Right.j1 k x1 true x163000 x163001 x163002 x163003 x163004 x163005 x163006) else (ostinatoref05_Right.j1 k x1 (decide (x163003 > 1073741824)) x163000 x163001 x163002 x163003 x163004 x163005 x163006))))
def ostinatoref05_Right.j1:Nat→Int→Bool→Int→Int→Int→Int→Int→List Int→List Int→Option (Int)
 |0,_,_,_,_,_,_,_,_,_=>none
 |k+1,x1,x47,x163000,x163001,x163002,x163003,x163004,x163005,x163006=>if x47=true then (some 10) else (ostinatoref05_Right.l0 k x1 x163001 0 x163000 x163001 x163002 x163003 x163004 x163005 x163006)
def ostinatoref05_Right.l0:Nat→Int→Int→Int→Int→Int→Int→Int→Int→List Int→List Int→Option (Int)
 |0,_,_,_,_,_,_,_,_,_,_=>none
 |k+1,x1,x5,x6,x163000,x163001,x163002,x163003,x163004,x163005,x163006=>if x6<(x163005.length:Int) then (if 0≤x6 then (if (rd x163005 x6)<1 then (some 13) else (if (rd x163005 x6) > x5 then (some 13) else (ostinatoref05_Right.l0 k x1 (wrap64 (x5 - (rd x163005 x6))) (wrap64 (x6+1)) x163000 x163001 x163002 x163003 x163004 x163005 x163006))) else (none)) else (if (x163005.length:Int) > 64 then (ostinatoref05_Right.j3 k x1 true x163000 x163001 x163002 x163003 x163004 x163005 x163006) else (if (x163005.length:Int) > 0 then (ostinatoref05_Right.j3 k x1 (x5 != 0) x163000 x163001 x163002 x163003 x163004 x163005 x163006) else (ostinatoref05_Right.j3 k x1 false x163000 x163001 x163002 x163003 x163004 x163005 x163006)))
def ostinatoref05_Right.j3:Nat→Int→Bool→Int→Int→Int→Int→Int→List Int→List Int→Option (Int)
 |0,_,_,_,_,_,_,_,_,_=>none
 |k+1,x1,x92,x163000,x163001,x163002,x163003,x163004,x163005,x163006=>if x92=true then (some 13) else (ostinatoref05_Right.l1 k x1 0 x163000 x163001 x163002 x163003 x163004 x163005 x163006)
def ostinatoref05_Right.l1:Nat→Int→Int→Int→Int→Int→Int→Int→List Int→List Int→Option (Int)
 |0,_,_,_,_,_,_,_,_,_=>none
 |k+1,x1,x7,x163000,x163001,x163002,x163003,x163004,x163005,x163006=>if x7<(x163006.length:Int) then (if 0≤x7 then (if (rd x163006 x7)<0 then (some 12) else (if (rd x163006 x7) ≥ x1 then (some 12) else (ostinatoref05_Right.l1 k x1 (wrap64 (x7+1)) x163000 x163001 x163002 x163003 x163004 x163005 x163006))) else (none)) else (if (x163006.length:Int) > 64 then (some 12) else (some 0))
end
def ostinatoref05_Right.f (k:Nat) (a0_0:Int) (a0_1:Int) (a0_2:Int) (a0_3:Int) (a0_4:Int) (l0_5:List Int) (l0_6:List Int) (a1:Int):Option (Int):=if a0_0<1 then (ostinatoref05_Right.j0 k a1 true a0_0 a0_1 a0_2 a0_3 a0_4 l0_5 l0_6) else (if a0_0 > 99 then (ostinatoref05_Right.j0 k a1 true a0_0 a0_1 a0_2 a0_3 a0_4 l0_5 l0_6) else (if a0_4<1 then (ostinatoref05_Right.j0 k a1 true a0_0 a0_1 a0_2 a0_3 a0_4 l0_5 l0_6) else (ostinatoref05_Right.j0 k a1 (decide (a0_4 > 99)) a0_0 a0_1 a0_2 a0_3 a0_4 l0_5 l0_6)))
theorem ostinatoref05_Right.calls (k:Nat) (a0_0:Int) (a0_1:Int) (a0_2:Int) (a0_3:Int) (a0_4:Int) (A0_5:Option Addr) (c0_5:Nat) (l0_5:List Int) (A0_6:Option Addr) (c0_6:Nat) (l0_6:List Int) (a1:Int) (r:Int) (w:World) (hr0_5:Kd.C (Kd.int .i64) w A0_5 l0_5.length l0_5) (hc0_5:l0_5.length≤c0_5) (hr0_6:Kd.C (Kd.int .i64) w A0_6 l0_6.length l0_6) (hc0_6:l0_6.length≤c0_6) (h:ostinatoref05_Right.f k a0_0 a0_1 a0_2 a0_3 a0_4 l0_5 l0_6 a1=some r) :
  Calls Tryd.prog 35 #[.agg #[.int .i64 a0_0,.int .i64 a0_1,.int .i64 a0_2,.int .i64 a0_3,.int .i64 a0_4,.slice A0_5 l0_5.length c0_5,.slice A0_6 l0_6.length c0_6],.int .i64 a1] w fun e w'=>e=.returned (.int .i64 r)∧Below w.heap.size w w':=by
 have hu52:=Tryd.underlying52
 have HR0_5:=qaj.mk hr0_5
 have HC0_5:=qaj.mk hc0_5
 clear hr0_5 hc0_5
 have HR0_6:=qaj.mk hr0_6
 have HC0_6:=qaj.mk hc0_6
 clear hr0_6 hc0_6
 have HB:=qaj.mk (Below.refl w.heap.size w)
 have H:(if a0_0<1 then (ostinatoref05_Right.j0 k a1 true a0_0 a0_1 a0_2 a0_3 a0_4 l0_5 l0_6) else (if a0_0 > 99 then (ostinatoref05_Right.j0 k a1 true a0_0 a0_1 a0_2 a0_3 a0_4 l0_5 l0_6) else (if a0_4<1 then (ostinatoref05_Right.j0 k a1 true a0_0 a0_1 a0_2 a0_3 a0_4 l0_5 l0_6) else (ostinatoref05_Right.j0 k a1 (decide (a0_4 > 99)) a0_0 a0_1 a0_2 a0_3 a0_4 l0_5 l0_6))))=some r:=h
 clear h
 have HC3:=qaj.mk H
 clear H
 go_enter Tryd.func35,Tryd.ntmps35
 go_upto_region 1 with (first|((with_reducible refine qaE (N:=2) rfl ?_);(try (refine qaD (by rfl) ?_;dsimp only));refine qaA ?hg (N:=2) ?hd (cs:=#[.int .i64 a0_0,.int .i64 a0_1,.int .i64 a0_2,.int .i64 a0_3,.int .i64 a0_4,.slice A0_5 l0_5.length c0_5,.slice A0_6 l0_6.length c0_6]) (t:=52) ?hr ?_;(case hd=>rfl);(case hg=>rfl);(case hr=>first|(go_simp;done)|(go_simp;rfl));intro gb162 hg w4 hbox hb;have n0_:=qaj.mk (qam (by repeat (first|(with_reducible first|exact HB.out|apply qai|apply qaa|apply qah)|exact HB.out)) hb);have n1_:=qaj.mk (hbox);have n2_:=qaj.mk ((by rw [hg];exact (qak (by repeat (first|(with_reducible first|exact HB.out|apply qai|apply qaa|apply qah)|exact HB.out))):w.heap.size≤gb162));have n3_:=qaj.mk ((by rw [hg];exact (qak (by repeat (first|(with_reducible first|exact HB.out|apply qai|apply qaa|apply qah)|exact HB.out))):w.heap.size≤gb162));clear HB;have HB:=n0_;have BK162:=n1_;have GW162:=n2_;have GE162:=n3_;clear n0_ n1_ n2_ n3_;clear hb hbox hg))
 (try simp only [Act.put,List.setIfInBounds_toArray,List.set_cons_zero,List.set_cons_succ])
 go_cut [25] (fun v25 wc=>∃ (kq:Nat) (x25_2:Bool),v25=.bool x25_2∧qaj (ostinatoref05_Right.j0 kq a1 x25_2 a0_0 a0_1 a0_2 a0_3 a0_4 l0_5 l0_6=some r)∧qaj (kq≤k)∧qaj (wc.heap[gb162]? = some (.cells #[.int .i64 a0_0,.int .i64 a0_1,.int .i64 a0_2,.int .i64 a0_3,.int .i64 a0_4,(.slice A0_5 l0_5.length c0_5),(.slice A0_6 l0_6.length c0_6)] 52 (0,0)))∧qaj (Below w.heap.size w wc))
 case first=>
  have H:=HC3.out
  clear HC3
  by_cases c5:a0_0<1
  ·rw [if_pos c5] at H
   have c5b0:decide (a0_0<1)=true:=decide_eq_true c5
   clear c5
   (first|rw [c5b0]|(simp only [qav,qaw];rw [c5b0])|skip)
   have H':=qaj.mk H
   clear H
   have hcz6_0:w4.cell? ⟨gb162,0,none⟩=some (.int .i64 a0_0):=(qaf BK162.out 0).trans rfl
   have hcz6_1:w4.cell? ⟨gb162,1,none⟩=some (.int .i64 a0_1):=(qaf BK162.out 1).trans rfl
   have hcz6_2:w4.cell? ⟨gb162,2,none⟩=some (.int .i64 a0_2):=(qaf BK162.out 2).trans rfl
   have hcz6_3:w4.cell? ⟨gb162,3,none⟩=some (.int .i64 a0_3):=(qaf BK162.out 3).trans rfl
   have hcz6_4:w4.cell? ⟨gb162,4,none⟩=some (.int .i64 a0_4):=(qaf BK162.out 4).trans rfl
   have hcz6_5:w4.cell? ⟨gb162,5,none⟩=some (.slice A0_5 l0_5.length c0_5):=(qaf BK162.out 5).trans rfl
   have hcz6_6:w4.cell? ⟨gb162,6,none⟩=some (.slice A0_6 l0_6.length c0_6):=(qaf BK162.out 6).trans rfl
   have hfz6_0:=qac BK162.out 0
   have hfz6_1:=qac BK162.out 1
   have hfz6_2:=qac BK162.out 2
   have hfz6_3:=qac BK162.out 3
   have hfz6_4:=qac BK162.out 4
   have hfz6_5:=qac BK162.out 5
   have hfz6_6:=qac BK162.out 6
   go_wp2
   go_meet
   case rel=>exact⟨_,(true),(by first|rfl|(simp;done)|(simp [*];done)),H',⟨by first|omega|exact Nat.le_refl _⟩,⟨by (with_reducible repeat (first|refine qad ?_ _|refine qag ?_|refine qab ?_ _));exact BK162.out⟩,⟨by repeat (first|(with_reducible first|exact HB.out|apply qai|apply qaa|apply qah|refine qae ?_ GE162.out)|exact HB.out)⟩⟩
  ·rw [if_neg c5] at H
   have c5b0:decide (a0_0<1)=false:=decide_eq_false c5
   clear c5
   (first|rw [c5b0]|(simp only [qav,qaw];rw [c5b0])|skip)
   by_cases c7:a0_0 > 99
   ·rw [if_pos c7] at H
    have c7b0:decide (99<a0_0)=true:=decide_eq_true c7
    clear c7
    have H':=qaj.mk H
    clear H
    have hcz8_0:w4.cell? ⟨gb162,0,none⟩=some (.int .i64 a0_0):=(qaf BK162.out 0).trans rfl
    have hcz8_1:w4.cell? ⟨gb162,1,none⟩=some (.int .i64 a0_1):=(qaf BK162.out 1).trans rfl
    have hcz8_2:w4.cell? ⟨gb162,2,none⟩=some (.int .i64 a0_2):=(qaf BK162.out 2).trans rfl
    have hcz8_3:w4.cell? ⟨gb162,3,none⟩=some (.int .i64 a0_3):=(qaf BK162.out 3).trans rfl
    have hcz8_4:w4.cell? ⟨gb162,4,none⟩=some (.int .i64 a0_4):=(qaf BK162.out 4).trans rfl
    have hcz8_5:w4.cell? ⟨gb162,5,none⟩=some (.slice A0_5 l0_5.length c0_5):=(qaf BK162.out 5).trans rfl
    have hcz8_6:w4.cell? ⟨gb162,6,none⟩=some (.slice A0_6 l0_6.length c0_6):=(qaf BK162.out 6).trans rfl
    have hfz8_0:=qac BK162.out 0
    have hfz8_1:=qac BK162.out 1
    have hfz8_2:=qac BK162.out 2
    have hfz8_3:=qac BK162.out 3
    have hfz8_4:=qac BK162.out 4
    have hfz8_5:=qac BK162.out 5
    have hfz8_6:=qac BK162.out 6
    go_wp2
    go_meet
    case rel=>exact⟨_,(true),(by first|rfl|(simp;done)|(simp [*];done)),H',⟨by first|omega|exact Nat.le_refl _⟩,⟨by (with_reducible repeat (first|refine qad ?_ _|refine qag ?_|refine qab ?_ _));exact BK162.out⟩,⟨by repeat (first|(with_reducible first|exact HB.out|apply qai|apply qaa|apply qah|refine qae ?_ GE162.out)|exact HB.out)⟩⟩
   ·rw [if_neg c7] at H
    have c7b0:decide (99<a0_0)=false:=decide_eq_false c7
    clear c7
    by_cases c9:a0_4<1
    ·rw [if_pos c9] at H
     have c9b0:decide (a0_4<1)=true:=decide_eq_true c9
     clear c9
     have H':=qaj.mk H
     clear H
     have hcz10_0:w4.cell? ⟨gb162,0,none⟩=some (.int .i64 a0_0):=(qaf BK162.out 0).trans rfl
     have hcz10_1:w4.cell? ⟨gb162,1,none⟩=some (.int .i64 a0_1):=(qaf BK162.out 1).trans rfl
     have hcz10_2:w4.cell? ⟨gb162,2,none⟩=some (.int .i64 a0_2):=(qaf BK162.out 2).trans rfl
     have hcz10_3:w4.cell? ⟨gb162,3,none⟩=some (.int .i64 a0_3):=(qaf BK162.out 3).trans rfl
     have hcz10_4:w4.cell? ⟨gb162,4,none⟩=some (.int .i64 a0_4):=(qaf BK162.out 4).trans rfl
     have hcz10_5:w4.cell? ⟨gb162,5,none⟩=some (.slice A0_5 l0_5.length c0_5):=(qaf BK162.out 5).trans rfl
     have hcz10_6:w4.cell? ⟨gb162,6,none⟩=some (.slice A0_6 l0_6.length c0_6):=(qaf BK162.out 6).trans rfl
     have hfz10_0:=qac BK162.out 0
     have hfz10_1:=qac BK162.out 1
     have hfz10_2:=qac BK162.out 2
     have hfz10_3:=qac BK162.out 3
     have hfz10_4:=qac BK162.out 4
     have hfz10_5:=qac BK162.out 5
     have hfz10_6:=qac BK162.out 6
     go_wp2
     go_meet
     case rel=>exact⟨_,(true),(by first|rfl|(simp;done)|(simp [*];done)),H',⟨by first|omega|exact Nat.le_refl _⟩,⟨by (with_reducible repeat (first|refine qad ?_ _|refine qag ?_|refine qab ?_ _));exact BK162.out⟩,⟨by repeat (first|(with_reducible first|exact HB.out|apply qai|apply qaa|apply qah|refine qae ?_ GE162.out)|exact HB.out)⟩⟩
    ·rw [if_neg c9] at H
     have c9b0:decide (a0_4<1)=false:=decide_eq_false c9
     clear c9
     have H':=qaj.mk H
     clear H
     have hcz11_0:w4.cell? ⟨gb162,0,none⟩=some (.int .i64 a0_0):=(qaf BK162.out 0).trans rfl
     have hcz11_1:w4.cell? ⟨gb162,1,none⟩=some (.int .i64 a0_1):=(qaf BK162.out 1).trans rfl
     have hcz11_2:w4.cell? ⟨gb162,2,none⟩=some (.int .i64 a0_2):=(qaf BK162.out 2).trans rfl
     have hcz11_3:w4.cell? ⟨gb162,3,none⟩=some (.int .i64 a0_3):=(qaf BK162.out 3).trans rfl
     have hcz11_4:w4.cell? ⟨gb162,4,none⟩=some (.int .i64 a0_4):=(qaf BK162.out 4).trans rfl
     have hcz11_5:w4.cell? ⟨gb162,5,none⟩=some (.slice A0_5 l0_5.length c0_5):=(qaf BK162.out 5).trans rfl
     have hcz11_6:w4.cell? ⟨gb162,6,none⟩=some (.slice A0_6 l0_6.length c0_6):=(qaf BK162.out 6).trans rfl
     have hfz11_0:=qac BK162.out 0
     have hfz11_1:=qac BK162.out 1
     have hfz11_2:=qac BK162.out 2
     have hfz11_3:=qac BK162.out 3
     have hfz11_4:=qac BK162.out 4
     have hfz11_5:=qac BK162.out 5
     have hfz11_6:=qac BK162.out 6
     go_wp2
     go_meet
     case rel=>exact⟨_,(decide (a0_4 > 99)),(by first|rfl|(simp;done)|(simp [*];done)),H',⟨by first|omega|exact Nat.le_refl _⟩,⟨by (with_reducible repeat (first|refine qad ?_ _|refine qag ?_|refine qab ?_ _));exact BK162.out⟩,⟨by repeat (first|(with_reducible first|exact HB.out|apply qai|apply qaa|apply qah|refine qae ?_ GE162.out)|exact HB.out)⟩⟩
 case rest=>
  clear HC3
  try clear p2
  try clear c3
  try clear c5
  try clear c5b0
  try clear c7
  try clear c7b0
  try clear c9
  try clear c9b0
  try clear hcz10_0
  try clear hcz10_1
  try clear hcz10_2
  try clear hcz10_3
  try clear hcz10_4
  try clear hcz10_5
  try clear hcz10_6
  try clear hcz11_0
  try clear hcz11_1
  try clear hcz11_2
  try clear hcz11_3
  try clear hcz11_4
  try clear hcz11_5
  try clear hcz11_6
  try clear hcz6_0
  try clear hcz6_1
  try clear hcz6_2
  try clear hcz6_3
  try clear hcz6_4
  try clear hcz6_5
  try clear hcz6_6
  try clear hcz8_0
  try clear hcz8_1
  try clear hcz8_2
  try clear hcz8_3
  try clear hcz8_4
  try clear hcz8_5
  try clear hcz8_6
  try clear hfz10_0
  try clear hfz10_1
  try clear hfz10_2
  try clear hfz10_3
  try clear hfz10_4
  try clear hfz10_5
  try clear hfz10_6
  try clear hfz11_0
  try clear hfz11_1
  try clear hfz11_2
  try clear hfz11_3
  try clear hfz11_4
  try clear hfz11_5
  try clear hfz11_6
  try clear hfz6_0
  try clear hfz6_1
  try clear hfz6_2
  try clear hfz6_3
  try clear hfz6_4
  try clear hfz6_5
  try clear hfz6_6
  try clear hfz8_0
  try clear hfz8_1
  try clear hfz8_2
  try clear hfz8_3
  try clear hfz8_4
  try clear hfz8_5
  try clear hfz8_6
  obtain⟨kq,x25_2,rfl,HA,HJ2,BK162,HB⟩:=hcut
  cases kq with
  |zero=>exact absurd HA.out (by simp [ostinatoref05_Right.j0])
  |succ kj2=>
   have H:=HA.out
   clear HA
   simp only [ostinatoref05_Right.j0] at H
   by_cases c12:x25_2=true
   ·subst c12
    have H1:(some 1)=some r:=by rw [if_pos rfl] at H;exact H
    clear H
    have H:=H1
    clear H1
    obtain rfl:=Option.some.inj H
    go_wp2
    go_ret
    exact⟨by first|rfl|(simp [qao,qan]<;>rfl)|(simp [bneNil,bneNilU]<;>rfl)|(simp [*,qao,qan]<;>rfl),by repeat (first|(with_reducible first|exact HB.out|apply qai|apply qaa|apply qah|refine qae ?_ GE162.out)|exact HB.out)⟩
   ·replace c12:=Bool.eq_false_iff.mpr c12
    subst c12
    have H1:(if a0_1<1 then (ostinatoref05_Right.j1 kj2 a1 true a0_0 a0_1 a0_2 a0_3 a0_4 l0_5 l0_6) else (if a0_1 > a0_2 then (ostinatoref05_Right.j1 kj2 a1 true a0_0 a0_1 a0_2 a0_3 a0_4 l0_5 l0_6) else (if a0_2 > a0_3 then (ostinatoref05_Right.j1 kj2 a1 true a0_0 a0_1 a0_2 a0_3 a0_4 l0_5 l0_6) else (ostinatoref05_Right.j1 kj2 a1 (decide (a0_3 > 1073741824)) a0_0 a0_1 a0_2 a0_3 a0_4 l0_5 l0_6))))=some r:=by rw [if_neg (show ¬ (false=true) by decide)] at H;exact H
    clear H
    have H:=H1
    clear H1
    have HC13:=qaj.mk H
    clear H
    go_upto_region 3 with (fail)
    go_cut [47] (fun v47 wc=>∃ (kq:Nat) (x47_12:Bool),v47=.bool x47_12∧qaj (ostinatoref05_Right.j1 kq a1 x47_12 a0_0 a0_1 a0_2 a0_3 a0_4 l0_5 l0_6=some r)∧qaj (kq≤kj2)∧qaj (wc.heap[gb162]? = some (.cells #[.int .i64 a0_0,.int .i64 a0_1,.int .i64 a0_2,.int .i64 a0_3,.int .i64 a0_4,(.slice A0_5 l0_5.length c0_5),(.slice A0_6 l0_6.length c0_6)] 52 (0,0)))∧qaj (Below w.heap.size w wc))
    case first=>
     have H:=HC13.out
     clear HC13
     by_cases c14:a0_1<1
     ·rw [if_pos c14] at H
      have c14b0:decide (a0_1<1)=true:=decide_eq_true c14
      clear c14
      (first|rw [c14b0]|(simp only [qav,qaw];rw [c14b0])|skip)
      have H':=qaj.mk H
      clear H
      have hcz15_0:wc.cell? ⟨gb162,0,none⟩=some (.int .i64 a0_0):=(qaf BK162.out 0).trans rfl
      have hcz15_1:wc.cell? ⟨gb162,1,none⟩=some (.int .i64 a0_1):=(qaf BK162.out 1).trans rfl
      have hcz15_2:wc.cell? ⟨gb162,2,none⟩=some (.int .i64 a0_2):=(qaf BK162.out 2).trans rfl
      have hcz15_3:wc.cell? ⟨gb162,3,none⟩=some (.int .i64 a0_3):=(qaf BK162.out 3).trans rfl
      have hcz15_4:wc.cell? ⟨gb162,4,none⟩=some (.int .i64 a0_4):=(qaf BK162.out 4).trans rfl
      have hcz15_5:wc.cell? ⟨gb162,5,none⟩=some (.slice A0_5 l0_5.length c0_5):=(qaf BK162.out 5).trans rfl
      have hcz15_6:wc.cell? ⟨gb162,6,none⟩=some (.slice A0_6 l0_6.length c0_6):=(qaf BK162.out 6).trans rfl
      have hfz15_0:=qac BK162.out 0
      have hfz15_1:=qac BK162.out 1
      have hfz15_2:=qac BK162.out 2
      have hfz15_3:=qac BK162.out 3
      have hfz15_4:=qac BK162.out 4
      have hfz15_5:=qac BK162.out 5
      have hfz15_6:=qac BK162.out 6
      go_wp2
      go_meet
      case rel=>exact⟨_,(true),(by first|rfl|(simp;done)|(simp [*];done)),H',⟨by have:=HJ2.out;first|omega|exact Nat.le_refl _⟩,⟨by (with_reducible repeat (first|refine qad ?_ _|refine qag ?_|refine qab ?_ _));exact BK162.out⟩,⟨by repeat (first|(with_reducible first|exact HB.out|apply qai|apply qaa|apply qah|refine qae ?_ GE162.out)|exact HB.out)⟩⟩
     ·rw [if_neg c14] at H
      have c14b0:decide (a0_1<1)=false:=decide_eq_false c14
      clear c14
      (first|rw [c14b0]|(simp only [qav,qaw];rw [c14b0])|skip)
      by_cases c16:a0_1 > a0_2
      ·rw [if_pos c16] at H
       have c16b0:decide (a0_2<a0_1)=true:=decide_eq_true c16
       clear c16
       have H':=qaj.mk H
       clear H
       have hcz17_0:wc.cell? ⟨gb162,0,none⟩=some (.int .i64 a0_0):=(qaf BK162.out 0).trans rfl
       have hcz17_1:wc.cell? ⟨gb162,1,none⟩=some (.int .i64 a0_1):=(qaf BK162.out 1).trans rfl
       have hcz17_2:wc.cell? ⟨gb162,2,none⟩=some (.int .i64 a0_2):=(qaf BK162.out 2).trans rfl
       have hcz17_3:wc.cell? ⟨gb162,3,none⟩=some (.int .i64 a0_3):=(qaf BK162.out 3).trans rfl
       have hcz17_4:wc.cell? ⟨gb162,4,none⟩=some (.int .i64 a0_4):=(qaf BK162.out 4).trans rfl
       have hcz17_5:wc.cell? ⟨gb162,5,none⟩=some (.slice A0_5 l0_5.length c0_5):=(qaf BK162.out 5).trans rfl
       have hcz17_6:wc.cell? ⟨gb162,6,none⟩=some (.slice A0_6 l0_6.length c0_6):=(qaf BK162.out 6).trans rfl
       have hfz17_0:=qac BK162.out 0
       have hfz17_1:=qac BK162.out 1
       have hfz17_2:=qac BK162.out 2
       have hfz17_3:=qac BK162.out 3
       have hfz17_4:=qac BK162.out 4
       have hfz17_5:=qac BK162.out 5
       have hfz17_6:=qac BK162.out 6
       go_wp2
       go_meet
       case rel=>exact⟨_,(true),(by first|rfl|(simp;done)|(simp [*];done)),H',⟨by have:=HJ2.out;first|omega|exact Nat.le_refl _⟩,⟨by (with_reducible repeat (first|refine qad ?_ _|refine qag ?_|refine qab ?_ _));exact BK162.out⟩,⟨by repeat (first|(with_reducible first|exact HB.out|apply qai|apply qaa|apply qah|refine qae ?_ GE162.out)|exact HB.out)⟩⟩
      ·rw [if_neg c16] at H
       have c16b0:decide (a0_2<a0_1)=false:=decide_eq_false c16
       clear c16
       by_cases c18:a0_2 > a0_3
       ·rw [if_pos c18] at H
        have c18b0:decide (a0_3<a0_2)=true:=decide_eq_true c18
        clear c18
        have H':=qaj.mk H
        clear H
        have hcz19_0:wc.cell? ⟨gb162,0,none⟩=some (.int .i64 a0_0):=(qaf BK162.out 0).trans rfl
        have hcz19_1:wc.cell? ⟨gb162,1,none⟩=some (.int .i64 a0_1):=(qaf BK162.out 1).trans rfl
        have hcz19_2:wc.cell? ⟨gb162,2,none⟩=some (.int .i64 a0_2):=(qaf BK162.out 2).trans rfl
        have hcz19_3:wc.cell? ⟨gb162,3,none⟩=some (.int .i64 a0_3):=(qaf BK162.out 3).trans rfl
        have hcz19_4:wc.cell? ⟨gb162,4,none⟩=some (.int .i64 a0_4):=(qaf BK162.out 4).trans rfl
        have hcz19_5:wc.cell? ⟨gb162,5,none⟩=some (.slice A0_5 l0_5.length c0_5):=(qaf BK162.out 5).trans rfl
        have hcz19_6:wc.cell? ⟨gb162,6,none⟩=some (.slice A0_6 l0_6.length c0_6):=(qaf BK162.out 6).trans rfl
        have hfz19_0:=qac BK162.out 0
        have hfz19_1:=qac BK162.out 1
        have hfz19_2:=qac BK162.out 2
        have hfz19_3:=qac BK162.out 3
        have hfz19_4:=qac BK162.out 4
        have hfz19_5:=qac BK162.out 5
        have hfz19_6:=qac BK162.out 6
        go_wp2
        go_meet
        case rel=>exact⟨_,(true),(by first|rfl|(simp;done)|(simp [*];done)),H',⟨by have:=HJ2.out;first|omega|exact Nat.le_refl _⟩,⟨by (with_reducible repeat (first|refine qad ?_ _|refine qag ?_|refine qab ?_ _));exact BK162.out⟩,⟨by repeat (first|(with_reducible first|exact HB.out|apply qai|apply qaa|apply qah|refine qae ?_ GE162.out)|exact HB.out)⟩⟩
       ·rw [if_neg c18] at H
        have c18b0:decide (a0_3<a0_2)=false:=decide_eq_false c18
        clear c18
        have H':=qaj.mk H
        clear H
        have hcz20_0:wc.cell? ⟨gb162,0,none⟩=some (.int .i64 a0_0):=(qaf BK162.out 0).trans rfl
        have hcz20_1:wc.cell? ⟨gb162,1,none⟩=some (.int .i64 a0_1):=(qaf BK162.out 1).trans rfl
        have hcz20_2:wc.cell? ⟨gb162,2,none⟩=some (.int .i64 a0_2):=(qaf BK162.out 2).trans rfl
        have hcz20_3:wc.cell? ⟨gb162,3,none⟩=some (.int .i64 a0_3):=(qaf BK162.out 3).trans rfl
        have hcz20_4:wc.cell? ⟨gb162,4,none⟩=some (.int .i64 a0_4):=(qaf BK162.out 4).trans rfl
        have hcz20_5:wc.cell? ⟨gb162,5,none⟩=some (.slice A0_5 l0_5.length c0_5):=(qaf BK162.out 5).trans rfl
        have hcz20_6:wc.cell? ⟨gb162,6,none⟩=some (.slice A0_6 l0_6.length c0_6):=(qaf BK162.out 6).trans rfl
        have hfz20_0:=qac BK162.out 0
        have hfz20_1:=qac BK162.out 1
        have hfz20_2:=qac BK162.out 2
        have hfz20_3:=qac BK162.out 3
        have hfz20_4:=qac BK162.out 4
        have hfz20_5:=qac BK162.out 5
        have hfz20_6:=qac BK162.out 6
        go_wp2
        go_meet
        case rel=>exact⟨_,(decide (a0_3 > 1073741824)),(by first|rfl|(simp;done)|(simp [*];done)),H',⟨by have:=HJ2.out;first|omega|exact Nat.le_refl _⟩,⟨by (with_reducible repeat (first|refine qad ?_ _|refine qag ?_|refine qab ?_ _));exact BK162.out⟩,⟨by repeat (first|(with_reducible first|exact HB.out|apply qai|apply qaa|apply qah|refine qae ?_ GE162.out)|exact HB.out)⟩⟩
    case rest=>
     clear HC13
     try clear c1
     try clear p2
     try clear c3
     try clear c5
     try clear c5b0
     try clear c7
     try clear c7b0
     try clear c9
     try clear c9b0
     try clear c12
     try clear c14
     try clear c14b0
     try clear c16
     try clear c16b0
     try clear c18
     try clear c18b0
     try clear hcz10_0
     try clear hcz10_1
     try clear hcz10_2
     try clear hcz10_3
     try clear hcz10_4
     try clear hcz10_5
     try clear hcz10_6
     try clear hcz11_0
     try clear hcz11_1
     try clear hcz11_2
     try clear hcz11_3
     try clear hcz11_4
     try clear hcz11_5
     try clear hcz11_6
     try clear hcz15_0
     try clear hcz15_1
     try clear hcz15_2
     try clear hcz15_3
     try clear hcz15_4
     try clear hcz15_5
     try clear hcz15_6
     try clear hcz17_0
     try clear hcz17_1
     try clear hcz17_2
     try clear hcz17_3
     try clear hcz17_4
     try clear hcz17_5
     try clear hcz17_6
     try clear hcz19_0
     try clear hcz19_1
     try clear hcz19_2
     try clear hcz19_3
     try clear hcz19_4
     try clear hcz19_5
     try clear hcz19_6
     try clear hcz20_0
     try clear hcz20_1
     try clear hcz20_2
     try clear hcz20_3
     try clear hcz20_4
     try clear hcz20_5
     try clear hcz20_6
     try clear hcz6_0
     try clear hcz6_1
     try clear hcz6_2
     try clear hcz6_3
     try clear hcz6_4
     try clear hcz6_5
     try clear hcz6_6
     try clear hcz8_0
     try clear hcz8_1
     try clear hcz8_2
     try clear hcz8_3
     try clear hcz8_4
     try clear hcz8_5
     try clear hcz8_6
     try clear hfz10_0
     try clear hfz10_1
     try clear hfz10_2
     try clear hfz10_3
     try clear hfz10_4
     try clear hfz10_5
     try clear hfz10_6
     try clear hfz11_0
     try clear hfz11_1
     try clear hfz11_2
     try clear hfz11_3
     try clear hfz11_4
     try clear hfz11_5
     try clear hfz11_6
     try clear hfz15_0
     try clear hfz15_1
     try clear hfz15_2
     try clear hfz15_3
     try clear hfz15_4
     try clear hfz15_5
     try clear hfz15_6
     try clear hfz17_0
     try clear hfz17_1
     try clear hfz17_2
     try clear hfz17_3
     try clear hfz17_4
     try clear hfz17_5
     try clear hfz17_6
     try clear hfz19_0
     try clear hfz19_1
     try clear hfz19_2
     try clear hfz19_3
     try clear hfz19_4
     try clear hfz19_5
     try clear hfz19_6
     try clear hfz20_0
     try clear hfz20_1
     try clear hfz20_2
     try clear hfz20_3
     try clear hfz20_4
     try clear hfz20_5
     try clear hfz20_6
     try clear hfz6_0
     try clear hfz6_1
     try clear hfz6_2
     try clear hfz6_3
     try clear hfz6_4
     try clear hfz6_5
     try clear hfz6_6
     try clear hfz8_0
     try clear hfz8_1
     try clear hfz8_2
     try clear hfz8_3
     try clear hfz8_4
     try clear hfz8_5
     try clear hfz8_6
     try clear p2
     obtain⟨kq,x47_12,rfl,HA,HJ12,BK162,HB⟩:=hcut
     cases kq with
     |zero=>exact absurd HA.out (by simp [ostinatoref05_Right.j1])
     |succ kj12=>
      have H:=HA.out
      clear HA
      simp only [ostinatoref05_Right.j1] at H
      by_cases c21:x47_12=true
      ·subst c21
       have H1:(some 10)=some r:=by rw [if_pos rfl] at H;exact H
       clear H
       have H:=H1
       clear H1
       obtain rfl:=Option.some.inj H
       go_wp2
       go_ret
       exact⟨by first|rfl|(simp [qao,qan]<;>rfl)|(simp [bneNil,bneNilU]<;>rfl)|(simp [*,qao,qan]<;>rfl),by repeat (first|(with_reducible first|exact HB.out|apply qai|apply qaa|apply qah|refine qae ?_ GE162.out)|exact HB.out)⟩
      ·replace c21:=Bool.eq_false_iff.mpr c21
       subst c21
       have H1:(ostinatoref05_Right.l0 kj12 a1 a0_1 0 a0_0 a0_1 a0_2 a0_3 a0_4 l0_5 l0_6)=some r:=by rw [if_neg (show ¬ (false=true) by decide)] at H;exact H
       clear H
       have H:=H1
       clear H1
       have H':=qaj.mk H
       clear H
       have hcz22_0:wc.cell? ⟨gb162,0,none⟩=some (.int .i64 a0_0):=(qaf BK162.out 0).trans rfl
       have hcz22_1:wc.cell? ⟨gb162,1,none⟩=some (.int .i64 a0_1):=(qaf BK162.out 1).trans rfl
       have hcz22_2:wc.cell? ⟨gb162,2,none⟩=some (.int .i64 a0_2):=(qaf BK162.out 2).trans rfl
       have hcz22_3:wc.cell? ⟨gb162,3,none⟩=some (.int .i64 a0_3):=(qaf BK162.out 3).trans rfl
       have hcz22_4:wc.cell? ⟨gb162,4,none⟩=some (.int .i64 a0_4):=(qaf BK162.out 4).trans rfl
       have hcz22_5:wc.cell? ⟨gb162,5,none⟩=some (.slice A0_5 l0_5.length c0_5):=(qaf BK162.out 5).trans rfl
       have hcz22_6:wc.cell? ⟨gb162,6,none⟩=some (.slice A0_6 l0_6.length c0_6):=(qaf BK162.out 6).trans rfl
       have hfz22_0:=qac BK162.out 0
       have hfz22_1:=qac BK162.out 1
       have hfz22_2:=qac BK162.out 2
       have hfz22_3:=qac BK162.out 3
       have hfz22_4:=qac BK162.out 4
       have hfz22_5:=qac BK162.out 5
       have hfz22_6:=qac BK162.out 6
       go_wp2
       go_loopg [5,6] kj12 (fun kq v5 v6 w'=>∃ (x5_3:Int) (x6_3:Int),v5=.int .i64 x5_3∧v6=.int .i64 x6_3∧qaj (ostinatoref05_Right.l0 kq a1 x5_3 x6_3 a0_0 a0_1 a0_2 a0_3 a0_4 l0_5 l0_6=some r)∧qaj (kq≤kj12)∧qaj (w'.heap[gb162]? = some (.cells #[.int .i64 a0_0,.int .i64 a0_1,.int .i64 a0_2,.int .i64 a0_3,.int .i64 a0_4,(.slice A0_5 l0_5.length c0_5),(.slice A0_6 l0_6.length c0_6)] 52 (0,0)))∧qaj (Below w.heap.size w w'))
       case atStart=>exact⟨(a0_1),(0),(by first|rfl|(simp;done)|(simp [*];done)),(by first|rfl|(simp;done)|(simp [*];done)),H',⟨Nat.le_refl _⟩,⟨by (with_reducible repeat (first|refine qad ?_ _|refine qag ?_|refine qab ?_ _));exact BK162.out⟩,⟨by repeat (first|(with_reducible first|exact HB.out|apply qai|apply qaa|apply qah|refine qae ?_ GE162.out)|exact HB.out)⟩⟩
       case round=>
        clear H'
        try clear c1
        try clear c2
        try clear p2
        try clear c3
        try clear c5
        try clear c5b0
        try clear c7
        try clear c7b0
        try clear c9
        try clear c9b0
        try clear c12
        try clear c14
        try clear c14b0
        try clear c16
        try clear c16b0
        try clear c18
        try clear c18b0
        try clear c21
        try clear hcz10_0
        try clear hcz10_1
        try clear hcz10_2
        try clear hcz10_3
        try clear hcz10_4
        try clear hcz10_5
        try clear hcz10_6
        try clear hcz11_0
        try clear hcz11_1
        try clear hcz11_2
        try clear hcz11_3
        try clear hcz11_4
        try clear hcz11_5
        try clear hcz11_6
        try clear hcz15_0
        try clear hcz15_1
        try clear hcz15_2
        try clear hcz15_3
        try clear hcz15_4
        try clear hcz15_5
        try clear hcz15_6
        try clear hcz17_0
        try clear hcz17_1
        try clear hcz17_2
        try clear hcz17_3
        try clear hcz17_4
        try clear hcz17_5
        try clear hcz17_6
        try clear hcz19_0
        try clear hcz19_1
        try clear hcz19_2
        try clear hcz19_3
        try clear hcz19_4
        try clear hcz19_5
        try clear hcz19_6
        try clear hcz20_0
        try clear hcz20_1
        try clear hcz20_2
        try clear hcz20_3
        try clear hcz20_4
        try clear hcz20_5
        try clear hcz20_6
        try clear hcz22_0
        try clear hcz22_1
        try clear hcz22_2
        try clear hcz22_3
        try clear hcz22_4
        try clear hcz22_5
        try clear hcz22_6
        try clear hcz6_0
        try clear hcz6_1
        try clear hcz6_2
        try clear hcz6_3
        try clear hcz6_4
        try clear hcz6_5
        try clear hcz6_6
        try clear hcz8_0
        try clear hcz8_1
        try clear hcz8_2
        try clear hcz8_3
        try clear hcz8_4
        try clear hcz8_5
        try clear hcz8_6
        try clear hfz10_0
        try clear hfz10_1
        try clear hfz10_2
        try clear hfz10_3
        try clear hfz10_4
        try clear hfz10_5
        try clear hfz10_6
        try clear hfz11_0
        try clear hfz11_1
        try clear hfz11_2
        try clear hfz11_3
        try clear hfz11_4
        try clear hfz11_5
        try clear hfz11_6
        try clear hfz15_0
        try clear hfz15_1
        try clear hfz15_2
        try clear hfz15_3
        try clear hfz15_4
        try clear hfz15_5
        try clear hfz15_6
        try clear hfz17_0
        try clear hfz17_1
        try clear hfz17_2
        try clear hfz17_3
        try clear hfz17_4
        try clear hfz17_5
        try clear hfz17_6
        try clear hfz19_0
        try clear hfz19_1
        try clear hfz19_2
        try clear hfz19_3
        try clear hfz19_4
        try clear hfz19_5
        try clear hfz19_6
        try clear hfz20_0
        try clear hfz20_1
        try clear hfz20_2
        try clear hfz20_3
        try clear hfz20_4
        try clear hfz20_5
        try clear hfz20_6
        try clear hfz22_0
        try clear hfz22_1
        try clear hfz22_2
        try clear hfz22_3
        try clear hfz22_4
        try clear hfz22_5
        try clear hfz22_6
        try clear hfz6_0
        try clear hfz6_1
        try clear hfz6_2
        try clear hfz6_3
        try clear hfz6_4
        try clear hfz6_5
        try clear hfz6_6
        try clear hfz8_0
        try clear hfz8_1
        try clear hfz8_2
        try clear hfz8_3
        try clear hfz8_4
        try clear hfz8_5
        try clear hfz8_6
        try clear p2
        obtain⟨x5_3,x6_3,rfl,rfl,HA,HK3,BK162,HB⟩:=hrel
        cases gk with
        |zero=>exact absurd HA.out (by simp [ostinatoref05_Right.l0])
        |succ k3=>
         have H:=HA.out
         clear HA
         simp only [ostinatoref05_Right.l0] at H
         by_cases c23:x6_3<(l0_5.length:Int)
         ·rw [if_pos c23] at H
          have c23b0:decide (x6_3<(l0_5.length:Int))=true:=decide_eq_true c23
          clear c23
          by_cases c24:0≤x6_3
          ·rw [if_pos c24] at H
           have c24b0:decide (0≤x6_3)=true:=decide_eq_true c24
           clear c24
           by_cases c25:(rd l0_5 x6_3)<1
           ·rw [if_pos c25] at H
            have c25b0:decide ((rd l0_5 x6_3)<1)=true:=decide_eq_true c25
            clear c25
            obtain rfl:=Option.some.inj H
            have hcz26_0:wr.cell? ⟨gb162,0,none⟩=some (.int .i64 a0_0):=(qaf BK162.out 0).trans rfl
            have hcz26_1:wr.cell? ⟨gb162,1,none⟩=some (.int .i64 a0_1):=(qaf BK162.out 1).trans rfl
            have hcz26_2:wr.cell? ⟨gb162,2,none⟩=some (.int .i64 a0_2):=(qaf BK162.out 2).trans rfl
            have hcz26_3:wr.cell? ⟨gb162,3,none⟩=some (.int .i64 a0_3):=(qaf BK162.out 3).trans rfl
            have hcz26_4:wr.cell? ⟨gb162,4,none⟩=some (.int .i64 a0_4):=(qaf BK162.out 4).trans rfl
            have hcz26_5:wr.cell? ⟨gb162,5,none⟩=some (.slice A0_5 l0_5.length c0_5):=(qaf BK162.out 5).trans rfl
            have hcz26_6:wr.cell? ⟨gb162,6,none⟩=some (.slice A0_6 l0_6.length c0_6):=(qaf BK162.out 6).trans rfl
            have hfz26_0:=qac BK162.out 0
            have hfz26_1:=qac BK162.out 1
            have hfz26_2:=qac BK162.out 2
            have hfz26_3:=qac BK162.out 3
            have hfz26_4:=qac BK162.out 4
            have hfz26_5:=qac BK162.out 5
            have hfz26_6:=qac BK162.out 6
            have p163:0≤(x6_3:Int):=of_decide_eq_true (by first|(with_reducible assumption)|assumption)
            have q163:x6_3<(l0_5.length:Int):=of_decide_eq_true (by first|(with_reducible assumption)|assumption)
            obtain⟨ad163,e163,hx163_0⟩:=Kd.at_int HR0_5.out x6_3 p163 q163
            cases e163
            replace hx163_0:=(HB.out.cell (bLt w _ hx163_0)).trans hx163_0
            replace p163:=eq_true p163
            replace q163:=eq_true q163
            go_wp2
            go_ret
            exact⟨by first|rfl|(simp [qao,qan]<;>rfl)|(simp [bneNil,bneNilU]<;>rfl)|(simp [*,qao,qan]<;>rfl),by repeat (first|(with_reducible first|exact HB.out|apply qai|apply qaa|apply qah|refine qae ?_ GE162.out)|exact HB.out)⟩
           ·rw [if_neg c25] at H
            have c25b0:decide ((rd l0_5 x6_3)<1)=false:=decide_eq_false c25
            clear c25
            by_cases c27:(rd l0_5 x6_3) > x5_3
            ·rw [if_pos c27] at H
             have c27b0:decide (x5_3<(rd l0_5 x6_3))=true:=decide_eq_true c27
             clear c27
             obtain rfl:=Option.some.inj H
             have hcz28_0:wr.cell? ⟨gb162,0,none⟩=some (.int .i64 a0_0):=(qaf BK162.out 0).trans rfl
             have hcz28_1:wr.cell? ⟨gb162,1,none⟩=some (.int .i64 a0_1):=(qaf BK162.out 1).trans rfl
             have hcz28_2:wr.cell? ⟨gb162,2,none⟩=some (.int .i64 a0_2):=(qaf BK162.out 2).trans rfl
             have hcz28_3:wr.cell? ⟨gb162,3,none⟩=some (.int .i64 a0_3):=(qaf BK162.out 3).trans rfl
             have hcz28_4:wr.cell? ⟨gb162,4,none⟩=some (.int .i64 a0_4):=(qaf BK162.out 4).trans rfl
             have hcz28_5:wr.cell? ⟨gb162,5,none⟩=some (.slice A0_5 l0_5.length c0_5):=(qaf BK162.out 5).trans rfl
             have hcz28_6:wr.cell? ⟨gb162,6,none⟩=some (.slice A0_6 l0_6.length c0_6):=(qaf BK162.out 6).trans rfl
             have hfz28_0:=qac BK162.out 0
             have hfz28_1:=qac BK162.out 1
             have hfz28_2:=qac BK162.out 2
             have hfz28_3:=qac BK162.out 3
             have hfz28_4:=qac BK162.out 4
             have hfz28_5:=qac BK162.out 5
             have hfz28_6:=qac BK162.out 6
             have p163:0≤(x6_3:Int):=of_decide_eq_true (by first|(with_reducible assumption)|assumption)
             have q163:x6_3<(l0_5.length:Int):=of_decide_eq_true (by first|(with_reducible assumption)|assumption)
             obtain⟨ad163,e163,hx163_0⟩:=Kd.at_int HR0_5.out x6_3 p163 q163
             cases e163
             replace hx163_0:=(HB.out.cell (bLt w _ hx163_0)).trans hx163_0
             replace p163:=eq_true p163
             replace q163:=eq_true q163
             have p164:0≤(x6_3:Int):=of_decide_eq_true (by first|(with_reducible assumption)|assumption)
             have q164:x6_3<(l0_5.length:Int):=of_decide_eq_true (by first|(with_reducible assumption)|assumption)
             obtain⟨ad164,e164,hx164_0⟩:=Kd.at_int HR0_5.out x6_3 p164 q164
             obtain rfl:ad163=ad164:=(by injection e164)
             replace hx164_0:=(HB.out.cell (bLt w _ hx164_0)).trans hx164_0
             replace p164:=eq_true p164
             replace q164:=eq_true q164
             go_wp2
             go_ret
             exact⟨by first|rfl|(simp [qao,qan]<;>rfl)|(simp [bneNil,bneNilU]<;>rfl)|(simp [*,qao,qan]<;>rfl),by repeat (first|(with_reducible first|exact HB.out|apply qai|apply qaa|apply qah|refine qae ?_ GE162.out)|exact HB.out)⟩
            ·rw [if_neg c27] at H
             have c27b0:decide (x5_3<(rd l0_5 x6_3))=false:=decide_eq_false c27
             clear c27
             have H':=qaj.mk H
             clear H
             have hcz29_0:wr.cell? ⟨gb162,0,none⟩=some (.int .i64 a0_0):=(qaf BK162.out 0).trans rfl
             have hcz29_1:wr.cell? ⟨gb162,1,none⟩=some (.int .i64 a0_1):=(qaf BK162.out 1).trans rfl
             have hcz29_2:wr.cell? ⟨gb162,2,none⟩=some (.int .i64 a0_2):=(qaf BK162.out 2).trans rfl
             have hcz29_3:wr.cell? ⟨gb162,3,none⟩=some (.int .i64 a0_3):=(qaf BK162.out 3).trans rfl
             have hcz29_4:wr.cell? ⟨gb162,4,none⟩=some (.int .i64 a0_4):=(qaf BK162.out 4).trans rfl
             have hcz29_5:wr.cell? ⟨gb162,5,none⟩=some (.slice A0_5 l0_5.length c0_5):=(qaf BK162.out 5).trans rfl
             have hcz29_6:wr.cell? ⟨gb162,6,none⟩=some (.slice A0_6 l0_6.length c0_6):=(qaf BK162.out 6).trans rfl
             have hfz29_0:=qac BK162.out 0
             have hfz29_1:=qac BK162.out 1
             have hfz29_2:=qac BK162.out 2
             have hfz29_3:=qac BK162.out 3
             have hfz29_4:=qac BK162.out 4
             have hfz29_5:=qac BK162.out 5
             have hfz29_6:=qac BK162.out 6
             have p163:0≤(x6_3:Int):=of_decide_eq_true (by first|(with_reducible assumption)|assumption)
             have q163:x6_3<(l0_5.length:Int):=of_decide_eq_true (by first|(with_reducible assumption)|assumption)
             obtain⟨ad163,e163,hx163_0⟩:=Kd.at_int HR0_5.out x6_3 p163 q163
             cases e163
             replace hx163_0:=(HB.out.cell (bLt w _ hx163_0)).trans hx163_0
             replace p163:=eq_true p163
             replace q163:=eq_true q163
             have p164:0≤(x6_3:Int):=of_decide_eq_true (by first|(with_reducible assumption)|assumption)
             have q164:x6_3<(l0_5.length:Int):=of_decide_eq_true (by first|(with_reducible assumption)|assumption)
             obtain⟨ad164,e164,hx164_0⟩:=Kd.at_int HR0_5.out x6_3 p164 q164
             obtain rfl:ad163=ad164:=(by injection e164)
             replace hx164_0:=(HB.out.cell (bLt w _ hx164_0)).trans hx164_0
             replace p164:=eq_true p164
             replace q164:=eq_true q164
             have p165:0≤(x6_3:Int):=of_decide_eq_true (by first|(with_reducible assumption)|assumption)
             have q165:x6_3<(l0_5.length:Int):=of_decide_eq_true (by first|(with_reducible assumption)|assumption)
             obtain⟨ad165,e165,hx165_0⟩:=Kd.at_int HR0_5.out x6_3 p165 q165
             obtain rfl:ad163=ad165:=(by injection e165)
             replace hx165_0:=(HB.out.cell (bLt w _ hx165_0)).trans hx165_0
             replace p165:=eq_true p165
             replace q165:=eq_true q165
             go_wp2
             go_roundg k3
             case measure=>have:=HJ2.out;have:=HJ12.out;have:=HK3.out;omega
             case rel=>exact⟨(wrap64 (x5_3 - (rd l0_5 x6_3))),(wrap64 (x6_3+1)),(by first|rfl|(simp;done)|(simp [*];done)),(by first|rfl|(simp;done)|(simp [*];done)),H',⟨by have:=HJ2.out;have:=HJ12.out;have:=HK3.out;omega⟩,⟨by (with_reducible repeat (first|refine qad ?_ _|refine qag ?_|refine qab ?_ _));exact BK162.out⟩,⟨by repeat (first|(with_reducible first|exact HB.out|apply qai|apply qaa|apply qah|refine qae ?_ GE162.out)|exact HB.out)⟩⟩
          ·rw [if_neg c24] at H
           exact absurd H (by simp)
         ·rw [if_neg c23] at H
          have c23b0:decide (x6_3<(l0_5.length:Int))=false:=decide_eq_false c23
          clear c23
          have HC30:=qaj.mk H
          clear H
          have hcz31_0:wr.cell? ⟨gb162,0,none⟩=some (.int .i64 a0_0):=(qaf BK162.out 0).trans rfl
          have hcz31_1:wr.cell? ⟨gb162,1,none⟩=some (.int .i64 a0_1):=(qaf BK162.out 1).trans rfl
          have hcz31_2:wr.cell? ⟨gb162,2,none⟩=some (.int .i64 a0_2):=(qaf BK162.out 2).trans rfl
          have hcz31_3:wr.cell? ⟨gb162,3,none⟩=some (.int .i64 a0_3):=(qaf BK162.out 3).trans rfl
          have hcz31_4:wr.cell? ⟨gb162,4,none⟩=some (.int .i64 a0_4):=(qaf BK162.out 4).trans rfl
          have hcz31_5:wr.cell? ⟨gb162,5,none⟩=some (.slice A0_5 l0_5.length c0_5):=(qaf BK162.out 5).trans rfl
          have hcz31_6:wr.cell? ⟨gb162,6,none⟩=some (.slice A0_6 l0_6.length c0_6):=(qaf BK162.out 6).trans rfl
          have hfz31_0:=qac BK162.out 0
          have hfz31_1:=qac BK162.out 1
          have hfz31_2:=qac BK162.out 2
          have hfz31_3:=qac BK162.out 3
          have hfz31_4:=qac BK162.out 4
          have hfz31_5:=qac BK162.out 5
          have hfz31_6:=qac BK162.out 6
          go_upto_region 12 with (fail)
          go_cut [92] (fun v92 wc=>∃ (kq:Nat) (x92_29:Bool),v92=.bool x92_29∧qaj (ostinatoref05_Right.j3 kq a1 x92_29 a0_0 a0_1 a0_2 a0_3 a0_4 l0_5 l0_6=some r)∧qaj (kq≤k3)∧qaj (wc.heap[gb162]? = some (.cells #[.int .i64 a0_0,.int .i64 a0_1,.int .i64 a0_2,.int .i64 a0_3,.int .i64 a0_4,(.slice A0_5 l0_5.length c0_5),(.slice A0_6 l0_6.length c0_6)] 52 (0,0)))∧qaj (Below w.heap.size w wc))
          case first=>
           have H:=HC30.out
           clear HC30
           by_cases c32:(l0_5.length:Int) > 64
           ·rw [if_pos c32] at H
            have c32b0:decide (64<(l0_5.length:Int))=true:=decide_eq_true c32
            have c32b1:decide (64<l0_5.length)=true:=decide_eq_true (by omega)
            clear c32
            (first|rw [c32b0]|(simp only [qav,qaw];rw [c32b0])|skip)
            have H':=qaj.mk H
            clear H
            have hcz33_0:wr.cell? ⟨gb162,0,none⟩=some (.int .i64 a0_0):=(qaf BK162.out 0).trans rfl
            have hcz33_1:wr.cell? ⟨gb162,1,none⟩=some (.int .i64 a0_1):=(qaf BK162.out 1).trans rfl
            have hcz33_2:wr.cell? ⟨gb162,2,none⟩=some (.int .i64 a0_2):=(qaf BK162.out 2).trans rfl
            have hcz33_3:wr.cell? ⟨gb162,3,none⟩=some (.int .i64 a0_3):=(qaf BK162.out 3).trans rfl
            have hcz33_4:wr.cell? ⟨gb162,4,none⟩=some (.int .i64 a0_4):=(qaf BK162.out 4).trans rfl
            have hcz33_5:wr.cell? ⟨gb162,5,none⟩=some (.slice A0_5 l0_5.length c0_5):=(qaf BK162.out 5).trans rfl
            have hcz33_6:wr.cell? ⟨gb162,6,none⟩=some (.slice A0_6 l0_6.length c0_6):=(qaf BK162.out 6).trans rfl
            have hfz33_0:=qac BK162.out 0
            have hfz33_1:=qac BK162.out 1
            have hfz33_2:=qac BK162.out 2
            have hfz33_3:=qac BK162.out 3
            have hfz33_4:=qac BK162.out 4
            have hfz33_5:=qac BK162.out 5
            have hfz33_6:=qac BK162.out 6
            go_wp2
            go_meet
            case rel=>exact⟨_,(true),(by first|rfl|(simp;done)|(simp [*];done)),H',⟨by have:=HJ2.out;have:=HJ12.out;have:=HK3.out;first|omega|exact Nat.le_refl _⟩,⟨by (with_reducible repeat (first|refine qad ?_ _|refine qag ?_|refine qab ?_ _));exact BK162.out⟩,⟨by repeat (first|(with_reducible first|exact HB.out|apply qai|apply qaa|apply qah|refine qae ?_ GE162.out)|exact HB.out)⟩⟩
           ·rw [if_neg c32] at H
            have c32b0:decide (64<(l0_5.length:Int))=false:=decide_eq_false c32
            have c32b1:decide (64<l0_5.length)=false:=decide_eq_false (by omega)
            clear c32
            (first|rw [c32b0]|(simp only [qav,qaw];rw [c32b0])|skip)
            by_cases c34:(l0_5.length:Int) > 0
            ·rw [if_pos c34] at H
             have c34b0:decide (0<(l0_5.length:Int))=true:=decide_eq_true c34
             have c34b1:decide (0<l0_5.length)=true:=decide_eq_true (by omega)
             clear c34
             have H':=qaj.mk H
             clear H
             have hcz35_0:wr.cell? ⟨gb162,0,none⟩=some (.int .i64 a0_0):=(qaf BK162.out 0).trans rfl
             have hcz35_1:wr.cell? ⟨gb162,1,none⟩=some (.int .i64 a0_1):=(qaf BK162.out 1).trans rfl
             have hcz35_2:wr.cell? ⟨gb162,2,none⟩=some (.int .i64 a0_2):=(qaf BK162.out 2).trans rfl
             have hcz35_3:wr.cell? ⟨gb162,3,none⟩=some (.int .i64 a0_3):=(qaf BK162.out 3).trans rfl
             have hcz35_4:wr.cell? ⟨gb162,4,none⟩=some (.int .i64 a0_4):=(qaf BK162.out 4).trans rfl
             have hcz35_5:wr.cell? ⟨gb162,5,none⟩=some (.slice A0_5 l0_5.length c0_5):=(qaf BK162.out 5).trans rfl
             have hcz35_6:wr.cell? ⟨gb162,6,none⟩=some (.slice A0_6 l0_6.length c0_6):=(qaf BK162.out 6).trans rfl
             have hfz35_0:=qac BK162.out 0
             have hfz35_1:=qac BK162.out 1
             have hfz35_2:=qac BK162.out 2
             have hfz35_3:=qac BK162.out 3
             have hfz35_4:=qac BK162.out 4
             have hfz35_5:=qac BK162.out 5
             have hfz35_6:=qac BK162.out 6
             go_wp2
             go_meet
             case rel=>exact⟨_,((x5_3 != 0)),(by first|rfl|(simp;done)|(simp [*];done)),H',⟨by have:=HJ2.out;have:=HJ12.out;have:=HK3.out;first|omega|exact Nat.le_refl _⟩,⟨by (with_reducible repeat (first|refine qad ?_ _|refine qag ?_|refine qab ?_ _));exact BK162.out⟩,⟨by repeat (first|(with_reducible first|exact HB.out|apply qai|apply qaa|apply qah|refine qae ?_ GE162.out)|exact HB.out)⟩⟩
            ·rw [if_neg c34] at H
             have c34b0:decide (0<(l0_5.length:Int))=false:=decide_eq_false c34
             have c34b1:decide (0<l0_5.length)=false:=decide_eq_false (by omega)
             clear c34
             have H':=qaj.mk H
             clear H
             have hcz36_0:wr.cell? ⟨gb162,0,none⟩=some (.int .i64 a0_0):=(qaf BK162.out 0).trans rfl
             have hcz36_1:wr.cell? ⟨gb162,1,none⟩=some (.int .i64 a0_1):=(qaf BK162.out 1).trans rfl
             have hcz36_2:wr.cell? ⟨gb162,2,none⟩=some (.int .i64 a0_2):=(qaf BK162.out 2).trans rfl
             have hcz36_3:wr.cell? ⟨gb162,3,none⟩=some (.int .i64 a0_3):=(qaf BK162.out 3).trans rfl
             have hcz36_4:wr.cell? ⟨gb162,4,none⟩=some (.int .i64 a0_4):=(qaf BK162.out 4).trans rfl
             have hcz36_5:wr.cell? ⟨gb162,5,none⟩=some (.slice A0_5 l0_5.length c0_5):=(qaf BK162.out 5).trans rfl
             have hcz36_6:wr.cell? ⟨gb162,6,none⟩=some (.slice A0_6 l0_6.length c0_6):=(qaf BK162.out 6).trans rfl
             have hfz36_0:=qac BK162.out 0
             have hfz36_1:=qac BK162.out 1
             have hfz36_2:=qac BK162.out 2
             have hfz36_3:=qac BK162.out 3
             have hfz36_4:=qac BK162.out 4
             have hfz36_5:=qac BK162.out 5
             have hfz36_6:=qac BK162.out 6
             go_wp2
             go_meet
             case rel=>exact⟨_,(false),(by first|rfl|(simp;done)|(simp [*];done)),H',⟨by have:=HJ2.out;have:=HJ12.out;have:=HK3.out;first|omega|exact Nat.le_refl _⟩,⟨by (with_reducible repeat (first|refine qad ?_ _|refine qag ?_|refine qab ?_ _));exact BK162.out⟩,⟨by repeat (first|(with_reducible first|exact HB.out|apply qai|apply qaa|apply qah|refine qae ?_ GE162.out)|exact HB.out)⟩⟩
          case rest=>
           clear HC30
           try clear c1
           try clear p1
           try clear q1
           try clear hx1
           try clear c2
           try clear p2
           try clear c3
           try clear c5
           try clear c5b0
           try clear p6
           try clear c7
           try clear c7b0
           try clear c9
           try clear c9b0
           try clear c12
           try clear c14
           try clear c14b0
           try clear c16
           try clear c16b0
           try clear p16
           try clear q16
           try clear hx16
           try clear c18
           try clear c18b0
           try clear c21
           try clear c23
           try clear c23b0
           try clear c24
           try clear c24b0
           try clear c25
           try clear c25b0
           try clear c27
           try clear c27b0
           try clear c32
           try clear c32b0
           try clear c32b1
           try clear c34
           try clear c34b0
           try clear c34b1
           try clear hcz10_0
           try clear hcz10_1
           try clear hcz10_2
           try clear hcz10_3
           try clear hcz10_4
           try clear hcz10_5
           try clear hcz10_6
           try clear hcz11_0
           try clear hcz11_1
           try clear hcz11_2
           try clear hcz11_3
           try clear hcz11_4
           try clear hcz11_5
           try clear hcz11_6
           try clear hcz15_0
           try clear hcz15_1
           try clear hcz15_2
           try clear hcz15_3
           try clear hcz15_4
           try clear hcz15_5
           try clear hcz15_6
           try clear hcz17_0
           try clear hcz17_1
           try clear hcz17_2
           try clear hcz17_3
           try clear hcz17_4
           try clear hcz17_5
           try clear hcz17_6
           try clear hcz19_0
           try clear hcz19_1
           try clear hcz19_2
           try clear hcz19_3
           try clear hcz19_4
           try clear hcz19_5
           try clear hcz19_6
           try clear hcz20_0
           try clear hcz20_1
           try clear hcz20_2
           try clear hcz20_3
           try clear hcz20_4
           try clear hcz20_5
           try clear hcz20_6
           try clear hcz22_0
           try clear hcz22_1
           try clear hcz22_2
           try clear hcz22_3
           try clear hcz22_4
           try clear hcz22_5
           try clear hcz22_6
           try clear hcz26_0
           try clear hcz26_1
           try clear hcz26_2
           try clear hcz26_3
           try clear hcz26_4
           try clear hcz26_5
           try clear hcz26_6
           try clear hcz28_0
           try clear hcz28_1
           try clear hcz28_2
           try clear hcz28_3
           try clear hcz28_4
           try clear hcz28_5
           try clear hcz28_6
           try clear hcz29_0
           try clear hcz29_1
           try clear hcz29_2
           try clear hcz29_3
           try clear hcz29_4
           try clear hcz29_5
           try clear hcz29_6
           try clear hcz31_0
           try clear hcz31_1
           try clear hcz31_2
           try clear hcz31_3
           try clear hcz31_4
           try clear hcz31_5
           try clear hcz31_6
           try clear hcz33_0
           try clear hcz33_1
           try clear hcz33_2
           try clear hcz33_3
           try clear hcz33_4
           try clear hcz33_5
           try clear hcz33_6
           try clear hcz35_0
           try clear hcz35_1
           try clear hcz35_2
           try clear hcz35_3
           try clear hcz35_4
           try clear hcz35_5
           try clear hcz35_6
           try clear hcz36_0
           try clear hcz36_1
           try clear hcz36_2
           try clear hcz36_3
           try clear hcz36_4
           try clear hcz36_5
           try clear hcz36_6
           try clear hcz6_0
           try clear hcz6_1
           try clear hcz6_2
           try clear hcz6_3
           try clear hcz6_4
           try clear hcz6_5
           try clear hcz6_6
           try clear hcz8_0
           try clear hcz8_1
           try clear hcz8_2
           try clear hcz8_3
           try clear hcz8_4
           try clear hcz8_5
           try clear hcz8_6
           try clear hfz10_0
           try clear hfz10_1
           try clear hfz10_2
           try clear hfz10_3
           try clear hfz10_4
           try clear hfz10_5
           try clear hfz10_6
           try clear hfz11_0
           try clear hfz11_1
           try clear hfz11_2
           try clear hfz11_3
           try clear hfz11_4
           try clear hfz11_5
           try clear hfz11_6
           try clear hfz15_0
           try clear hfz15_1
           try clear hfz15_2
           try clear hfz15_3
           try clear hfz15_4
           try clear hfz15_5
           try clear hfz15_6
           try clear hfz17_0
           try clear hfz17_1
           try clear hfz17_2
           try clear hfz17_3
           try clear hfz17_4
           try clear hfz17_5
           try clear hfz17_6
           try clear hfz19_0
           try clear hfz19_1
           try clear hfz19_2
           try clear hfz19_3
           try clear hfz19_4
           try clear hfz19_5
           try clear hfz19_6
           try clear hfz20_0
           try clear hfz20_1
           try clear hfz20_2
           try clear hfz20_3
           try clear hfz20_4
           try clear hfz20_5
           try clear hfz20_6
           try clear hfz22_0
           try clear hfz22_1
           try clear hfz22_2
           try clear hfz22_3
           try clear hfz22_4
           try clear hfz22_5
           try clear hfz22_6
           try clear hfz26_0
           try clear hfz26_1
           try clear hfz26_2
           try clear hfz26_3
           try clear hfz26_4
           try clear hfz26_5
           try clear hfz26_6
           try clear hfz28_0
           try clear hfz28_1
           try clear hfz28_2
           try clear hfz28_3
           try clear hfz28_4
           try clear hfz28_5
           try clear hfz28_6
           try clear hfz29_0
           try clear hfz29_1
           try clear hfz29_2
           try clear hfz29_3
           try clear hfz29_4
           try clear hfz29_5
           try clear hfz29_6
           try clear hfz31_0
           try clear hfz31_1
           try clear hfz31_2
           try clear hfz31_3
           try clear hfz31_4
           try clear hfz31_5
           try clear hfz31_6
           try clear hfz33_0
           try clear hfz33_1
           try clear hfz33_2
           try clear hfz33_3
           try clear hfz33_4
           try clear hfz33_5
           try clear hfz33_6
           try clear hfz35_0
           try clear hfz35_1
           try clear hfz35_2
           try clear hfz35_3
           try clear hfz35_4
           try clear hfz35_5
           try clear hfz35_6
           try clear hfz36_0
           try clear hfz36_1
           try clear hfz36_2
           try clear hfz36_3
           try clear hfz36_4
           try clear hfz36_5
           try clear hfz36_6
           try clear hfz6_0
           try clear hfz6_1
           try clear hfz6_2
           try clear hfz6_3
           try clear hfz6_4
           try clear hfz6_5
           try clear hfz6_6
           try clear hfz8_0
           try clear hfz8_1
           try clear hfz8_2
           try clear hfz8_3
           try clear hfz8_4
           try clear hfz8_5
           try clear hfz8_6
           try clear hx163_0
           try clear hx164_0
           try clear hx165_0
           try clear p163
           try clear p164
           try clear p165
           try clear p2
           try clear q163
           try clear q164
           try clear q165
           obtain⟨kq,x92_29,rfl,HA,HJ29,BK162,HB⟩:=hcut
           cases kq with
           |zero=>exact absurd HA.out (by simp [ostinatoref05_Right.j3])
           |succ kj29=>
            have H:=HA.out
            clear HA
            simp only [ostinatoref05_Right.j3] at H
            by_cases c37:x92_29=true
            ·subst c37
             have H1:(some 13)=some r:=by rw [if_pos rfl] at H;exact H
             clear H
             have H:=H1
             clear H1
             obtain rfl:=Option.some.inj H
             go_wp2
             go_ret
             exact⟨by first|rfl|(simp [qao,qan]<;>rfl)|(simp [bneNil,bneNilU]<;>rfl)|(simp [*,qao,qan]<;>rfl),by repeat (first|(with_reducible first|exact HB.out|apply qai|apply qaa|apply qah|refine qae ?_ GE162.out)|exact HB.out)⟩
            ·replace c37:=Bool.eq_false_iff.mpr c37
             subst c37
             have H1:(ostinatoref05_Right.l1 kj29 a1 0 a0_0 a0_1 a0_2 a0_3 a0_4 l0_5 l0_6)=some r:=by rw [if_neg (show ¬ (false=true) by decide)] at H;exact H
             clear H
             have H:=H1
             clear H1
             have H':=qaj.mk H
             clear H
             go_wp2
             go_loopg [7] kj29 (fun kq v7 w'=>∃ (x7_5:Int),v7=.int .i64 x7_5∧qaj (ostinatoref05_Right.l1 kq a1 x7_5 a0_0 a0_1 a0_2 a0_3 a0_4 l0_5 l0_6=some r)∧qaj (kq≤kj29)∧qaj (w'.heap[gb162]? = some (.cells #[.int .i64 a0_0,.int .i64 a0_1,.int .i64 a0_2,.int .i64 a0_3,.int .i64 a0_4,(.slice A0_5 l0_5.length c0_5),(.slice A0_6 l0_6.length c0_6)] 52 (0,0)))∧qaj (Below w.heap.size w w'))
             case atStart=>exact⟨(0),(by first|rfl|(simp;done)|(simp [*];done)),H',⟨Nat.le_refl _⟩,⟨by (with_reducible repeat (first|refine qad ?_ _|refine qag ?_|refine qab ?_ _));exact BK162.out⟩,⟨by repeat (first|(with_reducible first|exact HB.out|apply qai|apply qaa|apply qah|refine qae ?_ GE162.out)|exact HB.out)⟩⟩
             case round=>
              clear H'
              try clear c1
              try clear p1
              try clear q1
              try clear hx1
              try clear c2
              try clear p2
              try clear c3
              try clear c5
              try clear c5b0
              try clear p6
              try clear c7
              try clear c7b0
              try clear c9
              try clear c9b0
              try clear c12
              try clear c14
              try clear c14b0
              try clear c16
              try clear c16b0
              try clear p16
              try clear q16
              try clear hx16
              try clear c18
              try clear c18b0
              try clear c21
              try clear c23
              try clear c23b0
              try clear c24
              try clear c24b0
              try clear c25
              try clear c25b0
              try clear c27
              try clear c27b0
              try clear c32
              try clear c32b0
              try clear c32b1
              try clear c34
              try clear c34b0
              try clear c34b1
              try clear c37
              try clear hcz10_0
              try clear hcz10_1
              try clear hcz10_2
              try clear hcz10_3
              try clear hcz10_4
              try clear hcz10_5
              try clear hcz10_6
              try clear hcz11_0
              try clear hcz11_1
              try clear hcz11_2
              try clear hcz11_3
              try clear hcz11_4
              try clear hcz11_5
              try clear hcz11_6
              try clear hcz15_0
              try clear hcz15_1
              try clear hcz15_2
              try clear hcz15_3
              try clear hcz15_4
              try clear hcz15_5
              try clear hcz15_6
              try clear hcz17_0
              try clear hcz17_1
              try clear hcz17_2
              try clear hcz17_3
              try clear hcz17_4
              try clear hcz17_5
              try clear hcz17_6
              try clear hcz19_0
              try clear hcz19_1
              try clear hcz19_2
              try clear hcz19_3
              try clear hcz19_4
              try clear hcz19_5
              try clear hcz19_6
              try clear hcz20_0
              try clear hcz20_1
              try clear hcz20_2
              try clear hcz20_3
              try clear hcz20_4
              try clear hcz20_5
              try clear hcz20_6
              try clear hcz22_0
              try clear hcz22_1
              try clear hcz22_2
              try clear hcz22_3
              try clear hcz22_4
              try clear hcz22_5
              try clear hcz22_6
              try clear hcz26_0
              try clear hcz26_1
              try clear hcz26_2
              try clear hcz26_3
              try clear hcz26_4
              try clear hcz26_5
              try clear hcz26_6
              try clear hcz28_0
              try clear hcz28_1
              try clear hcz28_2
              try clear hcz28_3
              try clear hcz28_4
              try clear hcz28_5
              try clear hcz28_6
              try clear hcz29_0
              try clear hcz29_1
              try clear hcz29_2
              try clear hcz29_3
              try clear hcz29_4
              try clear hcz29_5
              try clear hcz29_6
              try clear hcz31_0
              try clear hcz31_1
              try clear hcz31_2
              try clear hcz31_3
              try clear hcz31_4
              try clear hcz31_5
              try clear hcz31_6
              try clear hcz33_0
              try clear hcz33_1
              try clear hcz33_2
              try clear hcz33_3
              try clear hcz33_4
              try clear hcz33_5
              try clear hcz33_6
              try clear hcz35_0
              try clear hcz35_1
              try clear hcz35_2
              try clear hcz35_3
              try clear hcz35_4
              try clear hcz35_5
              try clear hcz35_6
              try clear hcz36_0
              try clear hcz36_1
              try clear hcz36_2
              try clear hcz36_3
              try clear hcz36_4
              try clear hcz36_5
              try clear hcz36_6
              try clear hcz6_0
              try clear hcz6_1
              try clear hcz6_2
              try clear hcz6_3
              try clear hcz6_4
              try clear hcz6_5
              try clear hcz6_6
              try clear hcz8_0
              try clear hcz8_1
              try clear hcz8_2
              try clear hcz8_3
              try clear hcz8_4
              try clear hcz8_5
              try clear hcz8_6
              try clear hfz10_0
              try clear hfz10_1
              try clear hfz10_2
              try clear hfz10_3
              try clear hfz10_4
              try clear hfz10_5
              try clear hfz10_6
              try clear hfz11_0
              try clear hfz11_1
              try clear hfz11_2
              try clear hfz11_3
              try clear hfz11_4
              try clear hfz11_5
              try clear hfz11_6
              try clear hfz15_0
              try clear hfz15_1
              try clear hfz15_2
              try clear hfz15_3
              try clear hfz15_4
              try clear hfz15_5
              try clear hfz15_6
              try clear hfz17_0
              try clear hfz17_1
              try clear hfz17_2
              try clear hfz17_3
              try clear hfz17_4
              try clear hfz17_5
              try clear hfz17_6
              try clear hfz19_0
              try clear hfz19_1
              try clear hfz19_2
              try clear hfz19_3
              try clear hfz19_4
              try clear hfz19_5
              try clear hfz19_6
              try clear hfz20_0
              try clear hfz20_1
              try clear hfz20_2
              try clear hfz20_3
              try clear hfz20_4
              try clear hfz20_5
              try clear hfz20_6
              try clear hfz22_0
              try clear hfz22_1
              try clear hfz22_2
              try clear hfz22_3
              try clear hfz22_4
              try clear hfz22_5
              try clear hfz22_6
              try clear hfz26_0
              try clear hfz26_1
              try clear hfz26_2
              try clear hfz26_3
              try clear hfz26_4
              try clear hfz26_5
              try clear hfz26_6
              try clear hfz28_0
              try clear hfz28_1
              try clear hfz28_2
              try clear hfz28_3
              try clear hfz28_4
              try clear hfz28_5
              try clear hfz28_6
              try clear hfz29_0
              try clear hfz29_1
              try clear hfz29_2
              try clear hfz29_3
              try clear hfz29_4
              try clear hfz29_5
              try clear hfz29_6
              try clear hfz31_0
              try clear hfz31_1
              try clear hfz31_2
              try clear hfz31_3
              try clear hfz31_4
              try clear hfz31_5
              try clear hfz31_6
              try clear hfz33_0
              try clear hfz33_1
              try clear hfz33_2
              try clear hfz33_3
              try clear hfz33_4
              try clear hfz33_5
              try clear hfz33_6
              try clear hfz35_0
              try clear hfz35_1
              try clear hfz35_2
              try clear hfz35_3
              try clear hfz35_4
              try clear hfz35_5
              try clear hfz35_6
              try clear hfz36_0
              try clear hfz36_1
              try clear hfz36_2
              try clear hfz36_3
              try clear hfz36_4
              try clear hfz36_5
              try clear hfz36_6
              try clear hfz6_0
              try clear hfz6_1
              try clear hfz6_2
              try clear hfz6_3
              try clear hfz6_4
              try clear hfz6_5
              try clear hfz6_6
              try clear hfz8_0
              try clear hfz8_1
              try clear hfz8_2
              try clear hfz8_3
              try clear hfz8_4
              try clear hfz8_5
              try clear hfz8_6
              try clear hx163_0
              try clear hx164_0
              try clear hx165_0
              try clear p1
              try clear p16
              try clear p163
              try clear p164
              try clear p165
              try clear p2
              try clear p6
              try clear q1
              try clear q16
              try clear q163
              try clear q164
              try clear q165
              obtain⟨x7_5,rfl,HA,HK5,BK162,HB⟩:=hrel
              cases gk with
              |zero=>exact absurd HA.out (by simp [ostinatoref05_Right.l1])
              |succ k5=>
               have H:=HA.out
               clear HA
               simp only [ostinatoref05_Right.l1] at H
               by_cases c38:x7_5<(l0_6.length:Int)
               ·rw [if_pos c38] at H
                have c38b0:decide (x7_5<(l0_6.length:Int))=true:=decide_eq_true c38
                clear c38
                by_cases c39:0≤x7_5
                ·rw [if_pos c39] at H
                 have c39b0:decide (0≤x7_5)=true:=decide_eq_true c39
                 clear c39
                 by_cases c40:(rd l0_6 x7_5)<0
                 ·rw [if_pos c40] at H
                  have c40b0:decide ((rd l0_6 x7_5)<0)=true:=decide_eq_true c40
                  clear c40
                  obtain rfl:=Option.some.inj H
                  have hcz41_0:wr.cell? ⟨gb162,0,none⟩=some (.int .i64 a0_0):=(qaf BK162.out 0).trans rfl
                  have hcz41_1:wr.cell? ⟨gb162,1,none⟩=some (.int .i64 a0_1):=(qaf BK162.out 1).trans rfl
                  have hcz41_2:wr.cell? ⟨gb162,2,none⟩=some (.int .i64 a0_2):=(qaf BK162.out 2).trans rfl
                  have hcz41_3:wr.cell? ⟨gb162,3,none⟩=some (.int .i64 a0_3):=(qaf BK162.out 3).trans rfl
                  have hcz41_4:wr.cell? ⟨gb162,4,none⟩=some (.int .i64 a0_4):=(qaf BK162.out 4).trans rfl
                  have hcz41_5:wr.cell? ⟨gb162,5,none⟩=some (.slice A0_5 l0_5.length c0_5):=(qaf BK162.out 5).trans rfl
                  have hcz41_6:wr.cell? ⟨gb162,6,none⟩=some (.slice A0_6 l0_6.length c0_6):=(qaf BK162.out 6).trans rfl
                  have hfz41_0:=qac BK162.out 0
                  have hfz41_1:=qac BK162.out 1
                  have hfz41_2:=qac BK162.out 2
                  have hfz41_3:=qac BK162.out 3
                  have hfz41_4:=qac BK162.out 4
                  have hfz41_5:=qac BK162.out 5
                  have hfz41_6:=qac BK162.out 6
                  have p166:0≤(x7_5:Int):=of_decide_eq_true (by first|(with_reducible assumption)|assumption)
                  have q166:x7_5<(l0_6.length:Int):=of_decide_eq_true (by first|(with_reducible assumption)|assumption)
                  obtain⟨ad166,e166,hx166_0⟩:=Kd.at_int HR0_6.out x7_5 p166 q166
                  cases e166
                  replace hx166_0:=(HB.out.cell (bLt w _ hx166_0)).trans hx166_0
                  replace p166:=eq_true p166
                  replace q166:=eq_true q166
                  go_wp2
                  go_ret
                  exact⟨by first|rfl|(simp [qao,qan]<;>rfl)|(simp [bneNil,bneNilU]<;>rfl)|(simp [*,qao,qan]<;>rfl),by repeat (first|(with_reducible first|exact HB.out|apply qai|apply qaa|apply qah|refine qae ?_ GE162.out)|exact HB.out)⟩
                 ·rw [if_neg c40] at H
                  have c40b0:decide ((rd l0_6 x7_5)<0)=false:=decide_eq_false c40
                  clear c40
                  by_cases c42:(rd l0_6 x7_5) ≥ a1
                  ·rw [if_pos c42] at H
                   have c42b0:decide (a1≤(rd l0_6 x7_5))=true:=decide_eq_true c42
                   clear c42
                   obtain rfl:=Option.some.inj H
                   have hcz43_0:wr.cell? ⟨gb162,0,none⟩=some (.int .i64 a0_0):=(qaf BK162.out 0).trans rfl
                   have hcz43_1:wr.cell? ⟨gb162,1,none⟩=some (.int .i64 a0_1):=(qaf BK162.out 1).trans rfl
                   have hcz43_2:wr.cell? ⟨gb162,2,none⟩=some (.int .i64 a0_2):=(qaf BK162.out 2).trans rfl
                   have hcz43_3:wr.cell? ⟨gb162,3,none⟩=some (.int .i64 a0_3):=(qaf BK162.out 3).trans rfl
                   have hcz43_4:wr.cell? ⟨gb162,4,none⟩=some (.int .i64 a0_4):=(qaf BK162.out 4).trans rfl
                   have hcz43_5:wr.cell? ⟨gb162,5,none⟩=some (.slice A0_5 l0_5.length c0_5):=(qaf BK162.out 5).trans rfl
                   have hcz43_6:wr.cell? ⟨gb162,6,none⟩=some (.slice A0_6 l0_6.length c0_6):=(qaf BK162.out 6).trans rfl
                   have hfz43_0:=qac BK162.out 0
                   have hfz43_1:=qac BK162.out 1
                   have hfz43_2:=qac BK162.out 2
                   have hfz43_3:=qac BK162.out 3
                   have hfz43_4:=qac BK162.out 4
                   have hfz43_5:=qac BK162.out 5
                   have hfz43_6:=qac BK162.out 6
                   have p166:0≤(x7_5:Int):=of_decide_eq_true (by first|(with_reducible assumption)|assumption)
                   have q166:x7_5<(l0_6.length:Int):=of_decide_eq_true (by first|(with_reducible assumption)|assumption)
                   obtain⟨ad166,e166,hx166_0⟩:=Kd.at_int HR0_6.out x7_5 p166 q166
                   cases e166
                   replace hx166_0:=(HB.out.cell (bLt w _ hx166_0)).trans hx166_0
                   replace p166:=eq_true p166
                   replace q166:=eq_true q166
                   have p167:0≤(x7_5:Int):=of_decide_eq_true (by first|(with_reducible assumption)|assumption)
                   have q167:x7_5<(l0_6.length:Int):=of_decide_eq_true (by first|(with_reducible assumption)|assumption)
                   obtain⟨ad167,e167,hx167_0⟩:=Kd.at_int HR0_6.out x7_5 p167 q167
                   obtain rfl:ad166=ad167:=(by injection e167)
                   replace hx167_0:=(HB.out.cell (bLt w _ hx167_0)).trans hx167_0
                   replace p167:=eq_true p167
                   replace q167:=eq_true q167
                   go_wp2
                   go_ret
                   exact⟨by first|rfl|(simp [qao,qan]<;>rfl)|(simp [bneNil,bneNilU]<;>rfl)|(simp [*,qao,qan]<;>rfl),by repeat (first|(with_reducible first|exact HB.out|apply qai|apply qaa|apply qah|refine qae ?_ GE162.out)|exact HB.out)⟩
                  ·rw [if_neg c42] at H
                   have c42b0:decide (a1≤(rd l0_6 x7_5))=false:=decide_eq_false c42
                   clear c42
                   have H':=qaj.mk H
                   clear H
                   have hcz44_0:wr.cell? ⟨gb162,0,none⟩=some (.int .i64 a0_0):=(qaf BK162.out 0).trans rfl
                   have hcz44_1:wr.cell? ⟨gb162,1,none⟩=some (.int .i64 a0_1):=(qaf BK162.out 1).trans rfl
                   have hcz44_2:wr.cell? ⟨gb162,2,none⟩=some (.int .i64 a0_2):=(qaf BK162.out 2).trans rfl
                   have hcz44_3:wr.cell? ⟨gb162,3,none⟩=some (.int .i64 a0_3):=(qaf BK162.out 3).trans rfl
                   have hcz44_4:wr.cell? ⟨gb162,4,none⟩=some (.int .i64 a0_4):=(qaf BK162.out 4).trans rfl
                   have hcz44_5:wr.cell? ⟨gb162,5,none⟩=some (.slice A0_5 l0_5.length c0_5):=(qaf BK162.out 5).trans rfl
                   have hcz44_6:wr.cell? ⟨gb162,6,none⟩=some (.slice A0_6 l0_6.length c0_6):=(qaf BK162.out 6).trans rfl
                   have hfz44_0:=qac BK162.out 0
                   have hfz44_1:=qac BK162.out 1
                   have hfz44_2:=qac BK162.out 2
                   have hfz44_3:=qac BK162.out 3
                   have hfz44_4:=qac BK162.out 4
                   have hfz44_5:=qac BK162.out 5
                   have hfz44_6:=qac BK162.out 6
                   have p166:0≤(x7_5:Int):=of_decide_eq_true (by first|(with_reducible assumption)|assumption)
                   have q166:x7_5<(l0_6.length:Int):=of_decide_eq_true (by first|(with_reducible assumption)|assumption)
                   obtain⟨ad166,e166,hx166_0⟩:=Kd.at_int HR0_6.out x7_5 p166 q166
                   cases e166
                   replace hx166_0:=(HB.out.cell (bLt w _ hx166_0)).trans hx166_0
                   replace p166:=eq_true p166
                   replace q166:=eq_true q166
                   have p167:0≤(x7_5:Int):=of_decide_eq_true (by first|(with_reducible assumption)|assumption)
                   have q167:x7_5<(l0_6.length:Int):=of_decide_eq_true (by first|(with_reducible assumption)|assumption)
                   obtain⟨ad167,e167,hx167_0⟩:=Kd.at_int HR0_6.out x7_5 p167 q167
                   obtain rfl:ad166=ad167:=(by injection e167)
                   replace hx167_0:=(HB.out.cell (bLt w _ hx167_0)).trans hx167_0
                   replace p167:=eq_true p167
                   replace q167:=eq_true q167
                   go_wp2
                   go_roundg k5
                   case measure=>have:=HJ2.out;have:=HJ12.out;have:=HK3.out;have:=HJ29.out;have:=HK5.out;omega
                   case rel=>exact⟨(wrap64 (x7_5+1)),(by first|rfl|(simp;done)|(simp [*];done)),H',⟨by have:=HJ2.out;have:=HJ12.out;have:=HK3.out;have:=HJ29.out;have:=HK5.out;omega⟩,⟨by (with_reducible repeat (first|refine qad ?_ _|refine qag ?_|refine qab ?_ _));exact BK162.out⟩,⟨by repeat (first|(with_reducible first|exact HB.out|apply qai|apply qaa|apply qah|refine qae ?_ GE162.out)|exact HB.out)⟩⟩
                ·rw [if_neg c39] at H
                 exact absurd H (by simp)
               ·rw [if_neg c38] at H
                have c38b0:decide (x7_5<(l0_6.length:Int))=false:=decide_eq_false c38
                clear c38
                by_cases c45:(l0_6.length:Int) > 64
                ·rw [if_pos c45] at H
                 have c45b0:decide (64<(l0_6.length:Int))=true:=decide_eq_true c45
                 have c45b1:decide (64<l0_6.length)=true:=decide_eq_true (by omega)
                 clear c45
                 obtain rfl:=Option.some.inj H
                 have hcz46_0:wr.cell? ⟨gb162,0,none⟩=some (.int .i64 a0_0):=(qaf BK162.out 0).trans rfl
                 have hcz46_1:wr.cell? ⟨gb162,1,none⟩=some (.int .i64 a0_1):=(qaf BK162.out 1).trans rfl
                 have hcz46_2:wr.cell? ⟨gb162,2,none⟩=some (.int .i64 a0_2):=(qaf BK162.out 2).trans rfl
                 have hcz46_3:wr.cell? ⟨gb162,3,none⟩=some (.int .i64 a0_3):=(qaf BK162.out 3).trans rfl
                 have hcz46_4:wr.cell? ⟨gb162,4,none⟩=some (.int .i64 a0_4):=(qaf BK162.out 4).trans rfl
                 have hcz46_5:wr.cell? ⟨gb162,5,none⟩=some (.slice A0_5 l0_5.length c0_5):=(qaf BK162.out 5).trans rfl
                 have hcz46_6:wr.cell? ⟨gb162,6,none⟩=some (.slice A0_6 l0_6.length c0_6):=(qaf BK162.out 6).trans rfl
                 have hfz46_0:=qac BK162.out 0
                 have hfz46_1:=qac BK162.out 1
                 have hfz46_2:=qac BK162.out 2
                 have hfz46_3:=qac BK162.out 3
                 have hfz46_4:=qac BK162.out 4
                 have hfz46_5:=qac BK162.out 5
                 have hfz46_6:=qac BK162.out 6
                 go_wp2
                 go_ret
                 exact⟨by first|rfl|(simp [qao,qan]<;>rfl)|(simp [bneNil,bneNilU]<;>rfl)|(simp [*,qao,qan]<;>rfl),by repeat (first|(with_reducible first|exact HB.out|apply qai|apply qaa|apply qah|refine qae ?_ GE162.out)|exact HB.out)⟩
                ·rw [if_neg c45] at H
                 have c45b0:decide (64<(l0_6.length:Int))=false:=decide_eq_false c45
                 have c45b1:decide (64<l0_6.length)=false:=decide_eq_false (by omega)
                 clear c45
                 obtain rfl:=Option.some.inj H
                 have hcz47_0:wr.cell? ⟨gb162,0,none⟩=some (.int .i64 a0_0):=(qaf BK162.out 0).trans rfl
                 have hcz47_1:wr.cell? ⟨gb162,1,none⟩=some (.int .i64 a0_1):=(qaf BK162.out 1).trans rfl
                 have hcz47_2:wr.cell? ⟨gb162,2,none⟩=some (.int .i64 a0_2):=(qaf BK162.out 2).trans rfl
                 have hcz47_3:wr.cell? ⟨gb162,3,none⟩=some (.int .i64 a0_3):=(qaf BK162.out 3).trans rfl
                 have hcz47_4:wr.cell? ⟨gb162,4,none⟩=some (.int .i64 a0_4):=(qaf BK162.out 4).trans rfl
                 have hcz47_5:wr.cell? ⟨gb162,5,none⟩=some (.slice A0_5 l0_5.length c0_5):=(qaf BK162.out 5).trans rfl
                 have hcz47_6:wr.cell? ⟨gb162,6,none⟩=some (.slice A0_6 l0_6.length c0_6):=(qaf BK162.out 6).trans rfl
                 have hfz47_0:=qac BK162.out 0
                 have hfz47_1:=qac BK162.out 1
                 have hfz47_2:=qac BK162.out 2
                 have hfz47_3:=qac BK162.out 3
                 have hfz47_4:=qac BK162.out 4
                 have hfz47_5:=qac BK162.out 5
                 have hfz47_6:=qac BK162.out 6
                 go_wp2
                 go_ret
                 exact⟨by first|rfl|(simp [qao,qan]<;>rfl)|(simp [bneNil,bneNilU]<;>rfl)|(simp [*,qao,qan]<;>rfl),by repeat (first|(with_reducible first|exact HB.out|apply qai|apply qaa|apply qah|refine qae ?_ GE162.out)|exact HB.out)⟩
end
end Go.Proofs.YtcfknijdhmildaaDoor.PParseCuts
end
