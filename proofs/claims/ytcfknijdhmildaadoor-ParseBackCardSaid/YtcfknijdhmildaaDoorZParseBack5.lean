/- Texts of this claim, one behind the other: PParseBack7, PParseBack, QParseBackQAwk, QParseBackQSm, QParseBackPMade, PrnA, QParseBackQGd, PrnB, PureParseBack, Laid, LaidTab. -/
import Derived.Test.YtcfknijdhmildaaDoorZParseBack3
import Derived.Test.YtcfknijdhmildaaDoorZParseBack4
import Derived.Test.YtcfknijdhmildaaDoorZParseBack1
import Derived.Test.YtcfknijdhmildaaDoorZParseBack2
import Derived.Test.YtcfknijdhmildaaDoorRows
import Derived.Test.YtcfknijdhmildaaDoorCards
import Derived.Test.YtcfknijdhmildaaDoorTie
import Derived.ProofKit
import Derived.LaidMore
import Derived.Lay
import Derived.LaidLaws
import Derived.LaidHandle
import Derived.HandedShaped
import Derived.SevenTiedAt
import Derived.Lib.LaidU8
import Derived.Lib.LaidTab

set_option maxHeartbeats 8000000
set_option maxRecDepth 100000
set_option linter.unusedVariables false
set_option linter.unusedSimpArgs false
section
namespace Go.Proofs.YtcfknijdhmildaaDoor.PParseBack
open Go.RowKit Go.Proofs.YtcfknijdhmildaaDoorW.PrintWords Go.Proofs.YtcfknijdhmildaaDoorW.PrintLast Go.Proofs.YtcfknijdhmildaaDoorW.PrintMore
attribute [local go_sem] max2_int min2_int max_two min_two max_three min_three max_four min_four
set_option linter.unusedVariables false
set_option linter.unusedSimpArgs false
noncomputable section
mutual
def ostinatolaw07_ParseBack.l0:Nat→Bool→ByteArray→Int→Int→Bool→ByteArray→Int→Int→Int→List (S52)→Option (Bool)
 |0,_,_,_,_,_,_,_,_,_,_=>none
 |k+1,x3,x5,x7,x8,x9,x10,x11,x182000,x182001,x182002=>if x11<(x5.size:Int) then (if 0≤x11 then (if (bt x5 x11)=10 then (if x10.size+9≤9223372036854775807 then (ostinatolaw07_ParseBack.j1 k x3 x5 x7 x8 x9 (x10++(⟨#[32,35,32,110,111,116,101,61,49]⟩:ByteArray)) x11 x182000 x182001 x182002) else (none)) else (ostinatolaw07_ParseBack.j1 k x3 x5 x7 x8 x9 x10 x11 x182000 x182001 x182002)) else (none)) else ((parse_Parse.f x10).bind fun bt192=>((ostinatoref05_Same.f k bt192.1 bt192.2.1 bt192.2.2.1 x182000 x182001 x182002).bind fun t200=>(if x3=true then (if x5.toList=([]:List UInt8) then (some false) else (if x8=0 then (if x7=(x5.size:Int) then (if x9=true then (if bt192.2.2.2.2=0 then (if bt192.2.2.2.1=(x10.size:Int) then (some t200) else (some false)) else (some false)) else (some false)) else (some false)) else (some false))) else (some false))))
def ostinatolaw07_ParseBack.j1:Nat→Bool→ByteArray→Int→Int→Bool→ByteArray→Int→Int→Int→List (S52)→Option (Bool)
 |0,_,_,_,_,_,_,_,_,_,_=>none
 |k+1,x3,x5,x7,x8,x9,x10,x11,x182000,x182001,x182002=>if 0≤x11 then (if x11<(x5.size:Int) then (if (bt x5 x11)=32 then (if x10.size+1≤9223372036854775807 then ((some (([bt x5 x11]:List Int):List Int)).bind fun y201=>(if (x10++(⟨#[9]⟩:ByteArray)).size+(strOfNums y201).size≤9223372036854775807 then (if (bt x5 x11)=10 then (if ((x10++(⟨#[9]⟩:ByteArray))++(strOfNums y201)).size+2≤9223372036854775807 then (ostinatolaw07_ParseBack.l0 k x3 x5 x7 x8 x9 (((x10++(⟨#[9]⟩:ByteArray))++(strOfNums y201))++(⟨#[32,10]⟩:ByteArray)) (wrap64 (x11+1)) x182000 x182001 x182002) else (none)) else (ostinatolaw07_ParseBack.l0 k x3 x5 x7 x8 x9 ((x10++(⟨#[9]⟩:ByteArray))++(strOfNums y201)) (wrap64 (x11+1)) x182000 x182001 x182002)) else (none))) else (none)) else ((some (([bt x5 x11]:List Int):List Int)).bind fun y204=>(if x10.size+(strOfNums y204).size≤9223372036854775807 then (if (bt x5 x11)=10 then (if (x10++(strOfNums y204)).size+2≤9223372036854775807 then (ostinatolaw07_ParseBack.l0 k x3 x5 x7 x8 x9 ((x10++(strOfNums y204))++(⟨#[32,10]⟩:ByteArray)) (wrap64 (x11+1)) x182000 x182001 x182002) else (none)) else (ostinatolaw07_ParseBack.l0 k x3 x5 x7 x8 x9 (x10++(strOfNums y204)) (wrap64 (x11+1)) x182000 x182001 x182002)) else (none)))) else (none)) else (none)
end
def ostinatolaw07_ParseBack.f (k:Nat) (a0_0:Int) (a0_1:Int) (l0_2:List (S60)):Option (Bool):=(ostinatolaw07_awake.f).bind fun t175=>((ostinatolaw07_Sys_made.f k a0_0 a0_1 l0_2).bind fun bt176=>((parse_Print.f bt176.1 bt176.2.1 bt176.2.2).bind fun t182=>((parse_Parse.f t182).bind fun bt183=>((ostinatoref05_Same.f k bt183.1 bt183.2.1 bt183.2.2.1 bt176.1 bt176.2.1 bt176.2.2).bind fun t191=>(ostinatolaw07_ParseBack.l0 k t175 t182 bt183.2.2.2.1 bt183.2.2.2.2 t191 (⟨#[]⟩:ByteArray) 0 bt176.1 bt176.2.1 bt176.2.2)))))
theorem ostinatolaw07_ParseBack.calls (k:Nat) (a0_0:Int) (a0_1:Int) (A0_2:Option Addr) (c0_2:Nat) (l0_2:List (S60)) (r:Bool) (w:World) (hr0_2:Kd.C k60 w A0_2 l0_2.length l0_2) (hc0_2:l0_2.length≤c0_2) (h:ostinatolaw07_ParseBack.f k a0_0 a0_1 l0_2=some r) (hT:Tabs w) :
  Calls Tryd.prog 4 #[.agg #[.int .i64 a0_0,.int .i64 a0_1,.slice A0_2 l0_2.length c0_2]] w fun e w'=>e=.returned (.bool r)∧Below w.heap.size w w':=by
 have hu24:=Tryd.underlying24
 have hu32:=Tryd.underlying32
 have HR0_2:=qah.mk hr0_2
 have HC0_2:=qah.mk hc0_2
 clear hr0_2 hc0_2
 have HB:=qah.mk (Below.refl w.heap.size w)
 have H:((ostinatolaw07_awake.f).bind fun t175=>((ostinatolaw07_Sys_made.f k a0_0 a0_1 l0_2).bind fun bt176=>((parse_Print.f bt176.1 bt176.2.1 bt176.2.2).bind fun t182=>((parse_Parse.f t182).bind fun bt183=>((ostinatoref05_Same.f k bt183.1 bt183.2.1 bt183.2.2.1 bt176.1 bt176.2.1 bt176.2.2).bind fun t191=>(ostinatolaw07_ParseBack.l0 k t175 t182 bt183.2.2.2.1 bt183.2.2.2.2 t191 (⟨#[]⟩:ByteArray) 0 bt176.1 bt176.2.1 bt176.2.2))))))=some r:=h
 clear h
 have HT:=qah.mk hT
 clear hT
 replace H:=Option.bind_eq_some_iff.mp H
 obtain⟨t175,A20,H⟩:=H
 replace H:((ostinatolaw07_Sys_made.f k a0_0 a0_1 l0_2).bind fun bt176=>((parse_Print.f bt176.1 bt176.2.1 bt176.2.2).bind fun t182=>((parse_Parse.f t182).bind fun bt183=>((ostinatoref05_Same.f k bt183.1 bt183.2.1 bt183.2.2.1 bt176.1 bt176.2.1 bt176.2.2).bind fun t191=>(ostinatolaw07_ParseBack.l0 k t175 t182 bt183.2.2.2.1 bt183.2.2.2.2 t191 (⟨#[]⟩:ByteArray) 0 bt176.1 bt176.2.1 bt176.2.2)))))=some r:=H
 have A2:=qah.mk A20
 clear A20
 replace H:=Option.bind_eq_some_iff.mp H
 obtain⟨⟨t176,t177,t178⟩,A30,H⟩:=H
 replace H:((parse_Print.f t176 t177 t178).bind fun t182=>((parse_Parse.f t182).bind fun bt183=>((ostinatoref05_Same.f k bt183.1 bt183.2.1 bt183.2.2.1 t176 t177 t178).bind fun t191=>(ostinatolaw07_ParseBack.l0 k t175 t182 bt183.2.2.2.1 bt183.2.2.2.2 t191 (⟨#[]⟩:ByteArray) 0 t176 t177 t178))))=some r:=H
 have A3:=qah.mk A30
 clear A30
 replace H:=Option.bind_eq_some_iff.mp H
 obtain⟨t182,A40,H⟩:=H
 replace H:((parse_Parse.f t182).bind fun bt183=>((ostinatoref05_Same.f k bt183.1 bt183.2.1 bt183.2.2.1 t176 t177 t178).bind fun t191=>(ostinatolaw07_ParseBack.l0 k t175 t182 bt183.2.2.2.1 bt183.2.2.2.2 t191 (⟨#[]⟩:ByteArray) 0 t176 t177 t178)))=some r:=H
 have A4:=qah.mk A40
 clear A40
 replace H:=Option.bind_eq_some_iff.mp H
 obtain⟨⟨t183,t184,t185,t188,t189⟩,A50,H⟩:=H
 replace H:((ostinatoref05_Same.f k t183 t184 t185 t176 t177 t178).bind fun t191=>(ostinatolaw07_ParseBack.l0 k t175 t182 t188 t189 t191 (⟨#[]⟩:ByteArray) 0 t176 t177 t178))=some r:=H
 have A5:=qah.mk A50
 clear A50
 replace H:=Option.bind_eq_some_iff.mp H
 obtain⟨t191,A60,H⟩:=H
 replace H:(ostinatolaw07_ParseBack.l0 k t175 t182 t188 t189 t191 (⟨#[]⟩:ByteArray) 0 t176 t177 t178)=some r:=H
 have A6:=qah.mk A60
 clear A60
 have H':=qah.mk H
 clear H
 go_enter Tryd.func4,Tryd.ntmps4
 go_wp2_with (first|((with_reducible refine qaA (N:=1) rfl ?_);(try (refine qaD (by rfl) ?_;dsimp only));refine qaz ?hg (N:=1) ?hd (cs:=#[.int .i64 a0_0,.int .i64 a0_1,.slice A0_2 l0_2.length c0_2]) (t:=24) ?hr ?_;(case hd=>rfl);(case hg=>rfl);(case hr=>first|(go_simp;done)|(go_simp;rfl));intro gb174 hg w7 hbox hb;have n0_:=qah.mk (qan (by repeat (first|(with_reducible first|exact HB.out|apply qai|apply qag|apply qaj)|exact HB.out)) hb);have n1_:=qah.mk (hbox);have n2_:=qah.mk ((by rw [hg];exact (qal (by repeat (first|(with_reducible first|exact HB.out|apply qai|apply qag|apply qaj)|exact HB.out))):w.heap.size≤gb174));have n3_:=qah.mk ((by rw [hg];exact (qal (by repeat (first|(with_reducible first|exact HB.out|apply qai|apply qag|apply qaj)|exact HB.out))):w.heap.size≤gb174));clear HB;have HB:=n0_;have BK174:=n1_;have GW174:=n2_;have GE174:=n3_;clear n0_ n1_ n2_ n3_;clear hb hbox hg)|((with_reducible refine qax (f:=8) rfl ?_);refine qaO (some 16) rfl rfl Tryd.func8 (by kernel_rfl) rfl #[] rfl (by (try simp only [List.map_toArray,List.map_cons,List.map_nil]);first|done|rfl|(simp only [List.length_drop,List.length_take];rfl)) ?_;(with_reducible refine (ostinatolaw07_awake.calls  t175 _ A2.out (Tabs.below HT.out (by repeat (first|(with_reducible first|exact HB.out|apply qai|apply qag|apply qaj|refine qac ?_ GE174.out)|exact HB.out)))).mono ?_);rintro e w8 ⟨rfl,hb⟩;refine⟨_,rfl,?_⟩;have n0_:=qah.mk (qak (g:=gb174) (o:=.cells #[.int .i64 a0_0,.int .i64 a0_1,.slice A0_2 l0_2.length c0_2] 24 (0,0)) (by (with_reducible repeat (first|refine qab ?_ _|refine qae ?_|refine qaa ?_ _));exact BK174.out) hb);have n1_:=qah.mk (qan (by repeat (first|(with_reducible first|exact HB.out|apply qai|apply qag|apply qaj|refine qac ?_ GE174.out)|exact HB.out)) hb);clear BK174;clear HB;have BK174:=n0_;have HB:=n1_;clear n0_ n1_;(try clear hb);(try clear hb2);(try clear hk);(try clear hi);have hcz9_0:w8.cell? ⟨gb174,0,none⟩=some (.int .i64 a0_0):=(qaf BK174.out 0).trans rfl;have hcz9_1:w8.cell? ⟨gb174,1,none⟩=some (.int .i64 a0_1):=(qaf BK174.out 1).trans rfl;have hcz9_2:w8.cell? ⟨gb174,2,none⟩=some (.slice A0_2 l0_2.length c0_2):=(qaf BK174.out 2).trans rfl;have hfz9_0:=qad BK174.out 0;have hfz9_1:=qad BK174.out 1;have hfz9_2:=qad BK174.out 2)|((with_reducible refine qax (f:=11) rfl ?_);refine qaO (some 18) rfl rfl Tryd.func11 (by kernel_rfl) rfl #[.agg #[.int .i64 a0_0,.int .i64 a0_1,.slice A0_2 l0_2.length c0_2]] rfl (by (try simp only [List.map_toArray,List.map_cons,List.map_nil]);first|done|rfl|(simp only [List.length_drop,List.length_take];rfl)) ?_;(with_reducible refine (ostinatolaw07_Sys_made.calls k a0_0 a0_1 (fun k_=>k_<w.heap.size) _ _ l0_2 t176 t177 t178 _ ?side1 A3.out).mono ?_);(case side1=>exact Kd.V_mk HC0_2.out (Kd.F_below (Kd.C_F k60_heap HR0_2.out) (by repeat (first|(with_reducible first|exact HB.out|apply qai|apply qag|apply qaj|refine qac ?_ GE174.out)|exact HB.out))));rintro e w10 ⟨v179,rfl,ho0,hb⟩;refine⟨_,rfl,?_⟩;have n0_:=qah.mk (Kd.N_lower (Kd.N_mono (ok':=fun k_=>k_≠gb174) ho0 (fun k_ hk_=>Or.elim hk_ (fun hs_=>fun e_=>Nat.not_le.2 hs_ (by rw [e_];exact GW174.out)) (fun hn_=>(Kd.freshB (g:=gb174) (o:=.cells #[.int .i64 a0_0,.int .i64 a0_1,.slice A0_2 l0_2.length c0_2] 24 (0,0)) (by (with_reducible repeat (first|refine qab ?_ _|refine qae ?_|refine qaa ?_ _));exact BK174.out) k_ hn_)))) (qal (by repeat (first|(with_reducible first|exact HB.out|apply qai|apply qag|apply qaj|refine qac ?_ GE174.out)|exact HB.out))));have n1_:=qah.mk (qak (g:=gb174) (o:=.cells #[.int .i64 a0_0,.int .i64 a0_1,.slice A0_2 l0_2.length c0_2] 24 (0,0)) (by (with_reducible repeat (first|refine qab ?_ _|refine qae ?_|refine qaa ?_ _));exact BK174.out) hb);have n2_:=qah.mk (qan (by repeat (first|(with_reducible first|exact HB.out|apply qai|apply qag|apply qaj|refine qac ?_ GE174.out)|exact HB.out)) hb);clear BK174;clear HB;have HO180:=n0_;have BK174:=n1_;have HB:=n2_;clear n0_ n1_ n2_;(try clear hb);(try clear hb2);(try clear hk);(try clear hi);(try clear ho0))|((with_reducible refine qaA (N:=4) rfl ?_);(try (refine qaD (by rfl) ?_;dsimp only));refine qaz ?hg (N:=4) ?hd (cs:=#[.int .i64 0,.int .i64 0,.slice none 0 0]) (t:=32) ?hr ?_;(case hd=>rfl);(case hg=>rfl);(case hr=>first|(go_simp;done)|(go_simp;rfl));intro gb181 hg w11 hbox hb;have n0_:=qah.mk (Kd.N_below (Kd.N_elderB (by (with_reducible repeat (first|apply Kd.N_alloc|apply Kd.N_drewN|apply Kd.N_drew));exact HO180.out) gb181 (Nat.le_of_eq hg.symm)) hb);have n1_:=qah.mk (qak (g:=gb174) (o:=.cells #[.int .i64 a0_0,.int .i64 a0_1,.slice A0_2 l0_2.length c0_2] 24 (0,0)) (by (with_reducible repeat (first|refine qab ?_ _|refine qae ?_|refine qaa ?_ _));exact BK174.out) hb);have n2_:=qah.mk (qan (by repeat (first|(with_reducible first|exact HB.out|apply qai|apply qag|apply qaj|refine qac ?_ GE174.out)|exact HB.out)) hb);have n3_:=qah.mk (hbox);have n4_:=qah.mk ((by rw [hg];exact (qal (by repeat (first|(with_reducible first|exact HB.out|apply qai|apply qag|apply qaj|refine qac ?_ GE174.out)|exact HB.out))):w.heap.size≤gb181));have n5_:=qah.mk ((by rw [hg];exact (qal (by repeat (first|(with_reducible first|exact HB.out|apply qai|apply qag|apply qaj|refine qac ?_ GE174.out)|exact HB.out))):w.heap.size≤gb181));have n6_:=qah.mk ((by rw [hg];exact Nat.ne_of_lt (qau (g:=gb174) (o:=.cells #[.int .i64 a0_0,.int .i64 a0_1,.slice A0_2 l0_2.length c0_2] 24 (0,0)) (by (with_reducible repeat (first|refine qab ?_ _|refine qae ?_|refine qaa ?_ _));exact BK174.out)):gb174≠gb181));have n7_:=qah.mk ((by rw [hg];exact Nat.ne_of_gt (qau (g:=gb174) (o:=.cells #[.int .i64 a0_0,.int .i64 a0_1,.slice A0_2 l0_2.length c0_2] 24 (0,0)) (by (with_reducible repeat (first|refine qab ?_ _|refine qae ?_|refine qaa ?_ _));exact BK174.out)):gb181≠gb174));clear HO180;clear BK174;clear HB;have HO180:=n0_;have BK174:=n1_;have HB:=n2_;have BK181:=n3_;have GW181:=n4_;have GE181:=n5_;have NB174_181:=n6_;have NB181_174:=n7_;clear n0_ n1_ n2_ n3_ n4_ n5_ n6_ n7_;clear hb hbox hg;have hnb12:=NB181_174.out;have hnc12:=NB174_181.out;have hcz13_0:w11.cell? ⟨gb181,0,none⟩=some (.int .i64 0):=(qaf BK181.out 0).trans rfl;have hcz13_1:w11.cell? ⟨gb181,1,none⟩=some (.int .i64 0):=(qaf BK181.out 1).trans rfl;have hcz13_2:w11.cell? ⟨gb181,2,none⟩=some (.slice none 0 0):=(qaf BK181.out 2).trans rfl;have hfz13_0:=qad BK181.out 0;have hfz13_1:=qad BK181.out 1;have hfz13_2:=qad BK181.out 2;obtain⟨Ao14,co14,eo14⟩:=Kd.N_slice HO180.out;subst eo14)|((with_reducible refine qax (f:=15) rfl ?_);refine qaO (some 20) rfl rfl Tryd.func15 (by kernel_rfl) rfl #[.agg #[.int .i64 t176,.int .i64 t177,.slice Ao14 t178.length co14]] rfl (by (try simp only [List.map_toArray,List.map_cons,List.map_nil]);first|done|rfl|(simp only [List.length_drop,List.length_take];rfl)) ?_;(with_reducible refine (parse_Print.calls t176 t177 _ _ t178 t182 _ ?side1 ?side2 A4.out (Tabs.below HT.out (by repeat (first|(with_reducible first|exact HB.out|apply qai|apply qag|apply qaj|refine qac ?_ GE174.out|refine qac ?_ GE181.out)|exact HB.out)))).mono ?_);(case side1=>refine (Kd.N_reads' (e:=52) (base:=w.heap.size) (ok:=fun k_=>(k_≠gb174∧k_≠gb181)) (n:=t178.length) (c:=co14) ?_).2.2;exact (by (with_reducible repeat (first|apply Kd.N_alloc|apply Kd.N_drewN|apply Kd.N_drew));exact (Kd.N_mono (Kd.N_far (p:=⟨gb181,2,none⟩) (Kd.N_far (p:=⟨gb181,1,none⟩) (Kd.N_far (p:=⟨gb181,0,none⟩) (Kd.N_mono HO180.out (fun k_ hk=>(⟨hk,hk.2⟩:_∧k_≠gb181))) (fun _ hk=>hk.2) (.int .i64 t176)) (fun _ hk=>hk.2) (.int .i64 t177)) (fun _ hk=>hk.2) (.slice Ao14 t178.length co14)) (fun _ h_=>h_.1))));(case side2=>exact (Kd.N_reads' HO180.out).2.1);rintro e w15 ⟨rfl,hb⟩;refine⟨_,rfl,?_⟩;have n0_:=qah.mk (Kd.N_below (by (with_reducible repeat (first|apply Kd.N_alloc|apply Kd.N_drewN|apply Kd.N_drew));exact (Kd.N_mono (Kd.N_far (p:=⟨gb181,2,none⟩) (Kd.N_far (p:=⟨gb181,1,none⟩) (Kd.N_far (p:=⟨gb181,0,none⟩) (Kd.N_mono HO180.out (fun k_ hk=>(⟨hk,hk.2⟩:_∧k_≠gb181))) (fun _ hk=>hk.2) (.int .i64 t176)) (fun _ hk=>hk.2) (.int .i64 t177)) (fun _ hk=>hk.2) (.slice Ao14 t178.length co14)) (fun _ h_=>h_.1))) hb);have n1_:=qah.mk (qak (g:=gb174) (o:=.cells #[.int .i64 a0_0,.int .i64 a0_1,.slice A0_2 l0_2.length c0_2] 24 (0,0)) (by (with_reducible repeat (first|refine qab ?_ _|refine qae ?_|refine qaa ?_ _));refine qam ?_ NB174_181.out _;(with_reducible repeat (first|refine qab ?_ _|refine qae ?_|refine qaa ?_ _));refine qam ?_ NB174_181.out _;(with_reducible repeat (first|refine qab ?_ _|refine qae ?_|refine qaa ?_ _));refine qam ?_ NB174_181.out _;(with_reducible repeat (first|refine qab ?_ _|refine qae ?_|refine qaa ?_ _));exact BK174.out) hb);have n2_:=qah.mk (qak (g:=gb181) (o:=.cells #[.int .i64 t176,.int .i64 t177,.slice Ao14 t178.length co14] 32 (0,0)) (by (with_reducible repeat (first|refine qab ?_ _|refine qae ?_|refine qaa ?_ _));refine qaq (cs:=#[.int .i64 t176,.int .i64 t177,.slice none 0 0]) ?_ 2 _ rfl;(with_reducible repeat (first|refine qab ?_ _|refine qae ?_|refine qaa ?_ _));refine qaq (cs:=#[.int .i64 t176,.int .i64 0,.slice none 0 0]) ?_ 1 _ rfl;(with_reducible repeat (first|refine qab ?_ _|refine qae ?_|refine qaa ?_ _));refine qaq (cs:=#[.int .i64 0,.int .i64 0,.slice none 0 0]) ?_ 0 _ rfl;(with_reducible repeat (first|refine qab ?_ _|refine qae ?_|refine qaa ?_ _));exact BK181.out) hb);have n3_:=qah.mk (qan (by repeat (first|(with_reducible first|exact HB.out|apply qai|apply qag|apply qaj|refine qac ?_ GE174.out|refine qac ?_ GE181.out)|exact HB.out)) hb);clear HO180;clear BK174;clear BK181;clear HB;have HO180:=n0_;have BK174:=n1_;have BK181:=n2_;have HB:=n3_;clear n0_ n1_ n2_ n3_;(try clear hb);(try clear hb2);(try clear hk);(try clear hi))|((with_reducible refine qax (f:=12) rfl ?_);refine qaO (some 23) rfl rfl Tryd.func12 (by kernel_rfl) rfl #[.string t182] rfl (by (try simp only [List.map_toArray,List.map_cons,List.map_nil]);first|done|rfl|(simp only [List.length_drop,List.length_take];rfl)) ?_;(with_reducible refine (parse_Parse.calls t182 t183 t184 t185 t188 t189 _ A5.out (Tabs.below HT.out (by repeat (first|(with_reducible first|exact HB.out|apply qai|apply qag|apply qaj|refine qac ?_ GE174.out|refine qac ?_ GE181.out)|exact HB.out)))).mono ?_);rintro e w16 ⟨v186,rfl,ho0,hb⟩;refine⟨_,rfl,?_⟩;have n0_:=qah.mk (Kd.N_elder' (by (with_reducible repeat (first|apply Kd.N_alloc|apply Kd.N_drewN|apply Kd.N_drew));exact HO180.out) (Kd.S_base ho0) hb);have n1_:=qah.mk (Kd.N_lower (Kd.N_mono (ok':=fun k_=>some k_≠(.slice Ao14 t178.length co14:Value).ownBlock∧k_≠gb174∧k_≠gb181) (Kd.S_N (Kd.S_bound ho0)) (fun k_ hk_=>⟨(Kd.fresh' (Kd.N_lt (by (with_reducible repeat (first|apply Kd.N_alloc|apply Kd.N_drewN|apply Kd.N_drew));exact HO180.out)) k_ hk_.2.1),(Kd.freshB (g:=gb174) (o:=.cells #[.int .i64 a0_0,.int .i64 a0_1,.slice A0_2 l0_2.length c0_2] 24 (0,0)) (by (with_reducible repeat (first|refine qab ?_ _|refine qae ?_|refine qaa ?_ _));exact BK174.out) k_ hk_.2.1),(Kd.freshB (g:=gb181) (o:=.cells #[.int .i64 t176,.int .i64 t177,.slice Ao14 t178.length co14] 32 (0,0)) (by (with_reducible repeat (first|refine qab ?_ _|refine qae ?_|refine qaa ?_ _));exact BK181.out) k_ hk_.2.1)⟩)) (qal (by repeat (first|(with_reducible first|exact HB.out|apply qai|apply qag|apply qaj|refine qac ?_ GE174.out|refine qac ?_ GE181.out)|exact HB.out))));have n2_:=qah.mk (qak (g:=gb174) (o:=.cells #[.int .i64 a0_0,.int .i64 a0_1,.slice A0_2 l0_2.length c0_2] 24 (0,0)) (by (with_reducible repeat (first|refine qab ?_ _|refine qae ?_|refine qaa ?_ _));exact BK174.out) hb);have n3_:=qah.mk (qak (g:=gb181) (o:=.cells #[.int .i64 t176,.int .i64 t177,.slice Ao14 t178.length co14] 32 (0,0)) (by (with_reducible repeat (first|refine qab ?_ _|refine qae ?_|refine qaa ?_ _));exact BK181.out) hb);have n4_:=qah.mk (qan (by repeat (first|(with_reducible first|exact HB.out|apply qai|apply qag|apply qaj|refine qac ?_ GE174.out|refine qac ?_ GE181.out)|exact HB.out)) hb);clear HO180;clear BK174;clear BK181;clear HB;have HO180:=n0_;have HO187:=n1_;have BK174:=n2_;have BK181:=n3_;have HB:=n4_;clear n0_ n1_ n2_ n3_ n4_;(try clear hb);(try clear hb2);(try clear hk);(try clear hi);(try clear ho0))|((with_reducible refine qaA (N:=6) rfl ?_);(try (refine qaD (by rfl) ?_;dsimp only));refine qaz ?hg (N:=6) ?hd (cs:=#[.int .i64 0,.int .i64 0,.slice none 0 0]) (t:=32) ?hr ?_;(case hd=>rfl);(case hg=>rfl);(case hr=>first|(go_simp;done)|(go_simp;rfl));intro gb190 hg w17 hbox hb;have n0_:=qah.mk (Kd.N_below (Kd.N_elderB (by (with_reducible repeat (first|apply Kd.N_alloc|apply Kd.N_drewN|apply Kd.N_drew));exact HO180.out) gb190 (Nat.le_of_eq hg.symm)) hb);have n1_:=qah.mk (Kd.N_below (Kd.N_elderB (by (with_reducible repeat (first|apply Kd.N_alloc|apply Kd.N_drewN|apply Kd.N_drew));exact HO187.out) gb190 (Nat.le_of_eq hg.symm)) hb);have n2_:=qah.mk (qak (g:=gb174) (o:=.cells #[.int .i64 a0_0,.int .i64 a0_1,.slice A0_2 l0_2.length c0_2] 24 (0,0)) (by (with_reducible repeat (first|refine qab ?_ _|refine qae ?_|refine qaa ?_ _));exact BK174.out) hb);have n3_:=qah.mk (qak (g:=gb181) (o:=.cells #[.int .i64 t176,.int .i64 t177,.slice Ao14 t178.length co14] 32 (0,0)) (by (with_reducible repeat (first|refine qab ?_ _|refine qae ?_|refine qaa ?_ _));exact BK181.out) hb);have n4_:=qah.mk (qan (by repeat (first|(with_reducible first|exact HB.out|apply qai|apply qag|apply qaj|refine qac ?_ GE174.out|refine qac ?_ GE181.out)|exact HB.out)) hb);have n5_:=qah.mk (hbox);have n6_:=qah.mk ((by rw [hg];exact (qal (by repeat (first|(with_reducible first|exact HB.out|apply qai|apply qag|apply qaj|refine qac ?_ GE174.out|refine qac ?_ GE181.out)|exact HB.out))):w.heap.size≤gb190));have n7_:=qah.mk ((by rw [hg];exact (qal (by repeat (first|(with_reducible first|exact HB.out|apply qai|apply qag|apply qaj|refine qac ?_ GE174.out|refine qac ?_ GE181.out)|exact HB.out))):w.heap.size≤gb190));have n8_:=qah.mk ((by rw [hg];exact Nat.ne_of_lt (qau (g:=gb174) (o:=.cells #[.int .i64 a0_0,.int .i64 a0_1,.slice A0_2 l0_2.length c0_2] 24 (0,0)) (by (with_reducible repeat (first|refine qab ?_ _|refine qae ?_|refine qaa ?_ _));exact BK174.out)):gb174≠gb190));have n9_:=qah.mk ((by rw [hg];exact Nat.ne_of_gt (qau (g:=gb174) (o:=.cells #[.int .i64 a0_0,.int .i64 a0_1,.slice A0_2 l0_2.length c0_2] 24 (0,0)) (by (with_reducible repeat (first|refine qab ?_ _|refine qae ?_|refine qaa ?_ _));exact BK174.out)):gb190≠gb174));have n10_:=qah.mk ((by rw [hg];exact Nat.ne_of_lt (qau (g:=gb181) (o:=.cells #[.int .i64 t176,.int .i64 t177,.slice Ao14 t178.length co14] 32 (0,0)) (by (with_reducible repeat (first|refine qab ?_ _|refine qae ?_|refine qaa ?_ _));exact BK181.out)):gb181≠gb190));have n11_:=qah.mk ((by rw [hg];exact Nat.ne_of_gt (qau (g:=gb181) (o:=.cells #[.int .i64 t176,.int .i64 t177,.slice Ao14 t178.length co14] 32 (0,0)) (by (with_reducible repeat (first|refine qab ?_ _|refine qae ?_|refine qaa ?_ _));exact BK181.out)):gb190≠gb181));clear HO180;clear HO187;clear BK174;clear BK181;clear HB;have HO180:=n0_;have HO187:=n1_;have BK174:=n2_;have BK181:=n3_;have HB:=n4_;have BK190:=n5_;have GW190:=n6_;have GE190:=n7_;have NB174_190:=n8_;have NB190_174:=n9_;have NB181_190:=n10_;have NB190_181:=n11_;clear n0_ n1_ n2_ n3_ n4_ n5_ n6_ n7_ n8_ n9_ n10_ n11_;clear hb hbox hg;have hnb18:=NB190_174.out;have hnc18:=NB174_190.out;have hnb19:=NB190_181.out;have hnc19:=NB181_190.out;have hcz20_0:w17.cell? ⟨gb190,0,none⟩=some (.int .i64 0):=(qaf BK190.out 0).trans rfl;have hcz20_1:w17.cell? ⟨gb190,1,none⟩=some (.int .i64 0):=(qaf BK190.out 1).trans rfl;have hcz20_2:w17.cell? ⟨gb190,2,none⟩=some (.slice none 0 0):=(qaf BK190.out 2).trans rfl;have hfz20_0:=qad BK190.out 0;have hfz20_1:=qad BK190.out 1;have hfz20_2:=qad BK190.out 2;obtain⟨Ao21,co21,eo21⟩:=Kd.N_slice HO187.out;subst eo21;have hcz22_0:w17.cell? ⟨gb181,0,none⟩=some (.int .i64 t176):=(qaf BK181.out 0).trans rfl;have hcz22_1:w17.cell? ⟨gb181,1,none⟩=some (.int .i64 t177):=(qaf BK181.out 1).trans rfl;have hcz22_2:w17.cell? ⟨gb181,2,none⟩=some (.slice Ao14 t178.length co14):=(qaf BK181.out 2).trans rfl;have hfz22_0:=qad BK181.out 0;have hfz22_1:=qad BK181.out 1;have hfz22_2:=qad BK181.out 2)|((with_reducible refine qax (f:=14) rfl ?_);refine qaO (some 29) rfl rfl Tryd.func14 (by kernel_rfl) rfl #[.agg #[.int .i64 t183,.int .i64 t184,.slice Ao21 t185.length co21],.agg #[.int .i64 t176,.int .i64 t177,.slice Ao14 t178.length co14]] rfl (by (try simp only [List.map_toArray,List.map_cons,List.map_nil]);first|done|rfl|(simp only [List.length_drop,List.length_take];rfl)) ?_;(with_reducible refine (ostinatoref05_Same.calls k t183 t184 _ _ t185 t176 t177 _ _ t178 t191 _ ?side1 ?side2 ?side3 ?side4 A6.out).mono ?_);(case side1=>refine (Kd.N_reads' (e:=52) (base:=w.heap.size) (ok:=fun k_=>((some k_≠(.slice Ao14 t178.length co14:Value).ownBlock∧(k_≠gb174∧k_≠gb181))∧k_≠gb190)) (n:=t185.length) (c:=co21) ?_).2.2;exact (by (with_reducible repeat (first|apply Kd.N_alloc|apply Kd.N_drewN|apply Kd.N_drew));exact (Kd.N_mono (Kd.N_far (p:=⟨gb190,2,none⟩) (Kd.N_far (p:=⟨gb190,1,none⟩) (Kd.N_far (p:=⟨gb190,0,none⟩) (Kd.N_mono HO187.out (fun k_ hk=>(⟨hk,hk.2⟩:_∧k_≠gb190))) (fun _ hk=>hk.2) (.int .i64 t183)) (fun _ hk=>hk.2) (.int .i64 t184)) (fun _ hk=>hk.2) (.slice Ao21 t185.length co21)) (fun _ h_=>h_.1))));(case side2=>exact (Kd.N_reads' HO187.out).2.1);(case side3=>refine (Kd.N_reads' (e:=52) (base:=w.heap.size) (ok:=fun k_=>(((k_≠gb174∧k_≠gb181)∧some k_≠(.slice Ao21 t185.length co21:Value).ownBlock)∧k_≠gb190)) (n:=t178.length) (c:=co14) ?_).2.2;exact (by (with_reducible repeat (first|apply Kd.N_alloc|apply Kd.N_drewN|apply Kd.N_drew));exact (Kd.N_mono (Kd.N_far (p:=⟨gb190,2,none⟩) (Kd.N_far (p:=⟨gb190,1,none⟩) (Kd.N_far (p:=⟨gb190,0,none⟩) (Kd.N_mono HO180.out (fun k_ hk=>(⟨hk,hk.2⟩:_∧k_≠gb190))) (fun _ hk=>hk.2) (.int .i64 t183)) (fun _ hk=>hk.2) (.int .i64 t184)) (fun _ hk=>hk.2) (.slice Ao21 t185.length co21)) (fun _ h_=>h_.1))));(case side4=>exact (Kd.N_reads' HO180.out).2.1);rintro e w23 ⟨rfl,hb⟩;refine⟨_,rfl,?_⟩;have n0_:=qah.mk (Kd.N_below (by (with_reducible repeat (first|apply Kd.N_alloc|apply Kd.N_drewN|apply Kd.N_drew));exact (Kd.N_mono (Kd.N_far (p:=⟨gb190,2,none⟩) (Kd.N_far (p:=⟨gb190,1,none⟩) (Kd.N_far (p:=⟨gb190,0,none⟩) (Kd.N_mono HO180.out (fun k_ hk=>(⟨hk,hk.2⟩:_∧k_≠gb190))) (fun _ hk=>hk.2) (.int .i64 t183)) (fun _ hk=>hk.2) (.int .i64 t184)) (fun _ hk=>hk.2) (.slice Ao21 t185.length co21)) (fun _ h_=>h_.1))) hb);have n1_:=qah.mk (Kd.N_below (by (with_reducible repeat (first|apply Kd.N_alloc|apply Kd.N_drewN|apply Kd.N_drew));exact (Kd.N_mono (Kd.N_far (p:=⟨gb190,2,none⟩) (Kd.N_far (p:=⟨gb190,1,none⟩) (Kd.N_far (p:=⟨gb190,0,none⟩) (Kd.N_mono HO187.out (fun k_ hk=>(⟨hk,hk.2⟩:_∧k_≠gb190))) (fun _ hk=>hk.2) (.int .i64 t183)) (fun _ hk=>hk.2) (.int .i64 t184)) (fun _ hk=>hk.2) (.slice Ao21 t185.length co21)) (fun _ h_=>h_.1))) hb);have n2_:=qah.mk (qak (g:=gb174) (o:=.cells #[.int .i64 a0_0,.int .i64 a0_1,.slice A0_2 l0_2.length c0_2] 24 (0,0)) (by (with_reducible repeat (first|refine qab ?_ _|refine qae ?_|refine qaa ?_ _));refine qam ?_ NB174_190.out _;(with_reducible repeat (first|refine qab ?_ _|refine qae ?_|refine qaa ?_ _));refine qam ?_ NB174_190.out _;(with_reducible repeat (first|refine qab ?_ _|refine qae ?_|refine qaa ?_ _));refine qam ?_ NB174_190.out _;(with_reducible repeat (first|refine qab ?_ _|refine qae ?_|refine qaa ?_ _));exact BK174.out) hb);have n3_:=qah.mk (qak (g:=gb181) (o:=.cells #[.int .i64 t176,.int .i64 t177,.slice Ao14 t178.length co14] 32 (0,0)) (by (with_reducible repeat (first|refine qab ?_ _|refine qae ?_|refine qaa ?_ _));refine qam ?_ NB181_190.out _;(with_reducible repeat (first|refine qab ?_ _|refine qae ?_|refine qaa ?_ _));refine qam ?_ NB181_190.out _;(with_reducible repeat (first|refine qab ?_ _|refine qae ?_|refine qaa ?_ _));refine qam ?_ NB181_190.out _;(with_reducible repeat (first|refine qab ?_ _|refine qae ?_|refine qaa ?_ _));exact BK181.out) hb);have n4_:=qah.mk (qak (g:=gb190) (o:=.cells #[.int .i64 t183,.int .i64 t184,.slice Ao21 t185.length co21] 32 (0,0)) (by (with_reducible repeat (first|refine qab ?_ _|refine qae ?_|refine qaa ?_ _));refine qaq (cs:=#[.int .i64 t183,.int .i64 t184,.slice none 0 0]) ?_ 2 _ rfl;(with_reducible repeat (first|refine qab ?_ _|refine qae ?_|refine qaa ?_ _));refine qaq (cs:=#[.int .i64 t183,.int .i64 0,.slice none 0 0]) ?_ 1 _ rfl;(with_reducible repeat (first|refine qab ?_ _|refine qae ?_|refine qaa ?_ _));refine qaq (cs:=#[.int .i64 0,.int .i64 0,.slice none 0 0]) ?_ 0 _ rfl;(with_reducible repeat (first|refine qab ?_ _|refine qae ?_|refine qaa ?_ _));exact BK190.out) hb);have n5_:=qah.mk (qan (by repeat (first|(with_reducible first|exact HB.out|apply qai|apply qag|apply qaj|refine qac ?_ GE174.out|refine qac ?_ GE181.out|refine qac ?_ GE190.out)|exact HB.out)) hb);clear HO180;clear HO187;clear BK174;clear BK181;clear BK190;clear HB;have HO180:=n0_;have HO187:=n1_;have BK174:=n2_;have BK181:=n3_;have BK190:=n4_;have HB:=n5_;clear n0_ n1_ n2_ n3_ n4_ n5_;(try clear hb);(try clear hb2);(try clear hk);(try clear hi)))
 go_loopg [10,11] k (fun kq v10 v11 w'=>∃ (x10_1:ByteArray) (x11_1:Int),v10=.string x10_1∧v11=.int .i64 x11_1∧qah (ostinatolaw07_ParseBack.l0 kq t175 t182 t188 t189 t191 x10_1 x11_1 t176 t177 t178=some r)∧qah (kq≤k)∧qah (Kd.N k52 52 w' w.heap.size (fun k_=>some k_≠((.slice Ao21 t185.length co21):Value).ownBlock∧k_≠gb174∧k_≠gb181∧k_≠gb190) (.slice Ao14 t178.length co14) t178)∧qah (Kd.N k52 52 w' w.heap.size (fun k_=>some k_≠((.slice Ao14 t178.length co14):Value).ownBlock∧k_≠gb174∧k_≠gb181∧k_≠gb190) (.slice Ao21 t185.length co21) t185)∧qah (w'.heap[gb174]? = some (.cells #[.int .i64 a0_0,.int .i64 a0_1,(.slice A0_2 l0_2.length c0_2)] 24 (0,0)))∧qah (w'.heap[gb181]? = some (.cells #[.int .i64 t176,.int .i64 t177,(.slice Ao14 t178.length co14)] 32 (0,0)))∧qah (w'.heap[gb190]? = some (.cells #[.int .i64 t183,.int .i64 t184,(.slice Ao21 t185.length co21)] 32 (0,0)))∧qah (Below w.heap.size w w'))
 case atStart=>exact⟨((⟨#[]⟩:ByteArray)),(0),(by first|rfl|(simp;done)|(simp [*];done)),(by first|rfl|(simp;done)|(simp [*];done)),H',⟨Nat.le_refl _⟩,⟨by (with_reducible repeat (first|apply Kd.N_alloc|apply Kd.N_drewN|apply Kd.N_drew));exact Kd.N_mono HO180.out (fun _ hk=>⟨hk.1.2,⟨hk.1.1.1,⟨hk.1.1.2,hk.2⟩⟩⟩)⟩,⟨by (with_reducible repeat (first|apply Kd.N_alloc|apply Kd.N_drewN|apply Kd.N_drew));exact Kd.N_mono HO187.out (fun _ hk=>⟨hk.1.1,⟨hk.1.2.1,⟨hk.1.2.2,hk.2⟩⟩⟩)⟩,⟨by (with_reducible repeat (first|refine qab ?_ _|refine qae ?_|refine qaa ?_ _));exact BK174.out⟩,⟨by (with_reducible repeat (first|refine qab ?_ _|refine qae ?_|refine qaa ?_ _));exact BK181.out⟩,⟨by (with_reducible repeat (first|refine qab ?_ _|refine qae ?_|refine qaa ?_ _));exact BK190.out⟩,⟨by repeat (first|(with_reducible first|exact HB.out|apply qai|apply qag|apply qaj|refine qac ?_ GE174.out|refine qac ?_ GE181.out|refine qac ?_ GE190.out)|exact HB.out)⟩⟩
 case round=>
  clear H'
  try clear c1
  try clear p2
  try clear c4
  try clear c8
  try clear c11
  try clear c12
  try clear c14
  try clear c15
  try clear c18
  try clear c19
  try clear hcz13_0
  try clear hcz13_1
  try clear hcz13_2
  try clear hcz20_0
  try clear hcz20_1
  try clear hcz20_2
  try clear hcz22_0
  try clear hcz22_1
  try clear hcz22_2
  try clear hcz9_0
  try clear hcz9_1
  try clear hcz9_2
  try clear hfz13_0
  try clear hfz13_1
  try clear hfz13_2
  try clear hfz20_0
  try clear hfz20_1
  try clear hfz20_2
  try clear hfz22_0
  try clear hfz22_1
  try clear hfz22_2
  try clear hfz9_0
  try clear hfz9_1
  try clear hfz9_2
  obtain⟨x10_1,x11_1,rfl,rfl,HA,HK1,HO_182002,HO_191002,BK174,BK181,BK190,HB⟩:=hrel
  cases gk with
  |zero=>exact absurd HA.out (by simp [ostinatolaw07_ParseBack.l0])
  |succ k1=>
   have H:=HA.out
   clear HA
   simp only [ostinatolaw07_ParseBack.l0] at H
   by_cases c24:x11_1<(t182.size:Int)
   ·rw [if_pos c24] at H
    have c24b0:decide (x11_1<(t182.size:Int))=true:=decide_eq_true c24
    clear c24
    by_cases c25:0≤x11_1
    ·rw [if_pos c25] at H
     have c25b0:decide (0≤x11_1)=true:=decide_eq_true c25
     clear c25
     have HC27:=qah.mk H
     clear H
     have p26:0≤(x11_1:Int):=of_decide_eq_true (by first|(with_reducible assumption)|assumption)
     have q26:x11_1<(t182.size:Int):=of_decide_eq_true (by first|(with_reducible assumption)|assumption)
     have hx26:=bt_at t182 x11_1
     replace p26:=eq_true p26
     replace q26:=eq_true q26
     go_upto_if 39 with (fail)
     go_cut [10] (fun v10 wc=>∃ (kq:Nat) (x10_26:ByteArray),v10=.string x10_26∧qah (ostinatolaw07_ParseBack.j1 kq t175 t182 t188 t189 t191 x10_26 x11_1 t176 t177 t178=some r)∧qah (kq≤k1)∧qah (Kd.N k52 52 wc w.heap.size (fun k_=>some k_≠((.slice Ao21 t185.length co21):Value).ownBlock∧k_≠gb174∧k_≠gb181∧k_≠gb190) (.slice Ao14 t178.length co14) t178)∧qah (Kd.N k52 52 wc w.heap.size (fun k_=>some k_≠((.slice Ao14 t178.length co14):Value).ownBlock∧k_≠gb174∧k_≠gb181∧k_≠gb190) (.slice Ao21 t185.length co21) t185)∧qah (wc.heap[gb174]? = some (.cells #[.int .i64 a0_0,.int .i64 a0_1,(.slice A0_2 l0_2.length c0_2)] 24 (0,0)))∧qah (wc.heap[gb181]? = some (.cells #[.int .i64 t176,.int .i64 t177,(.slice Ao14 t178.length co14)] 32 (0,0)))∧qah (wc.heap[gb190]? = some (.cells #[.int .i64 t183,.int .i64 t184,(.slice Ao21 t185.length co21)] 32 (0,0)))∧qah (Below w.heap.size w wc))
     case first=>
      have H:=HC27.out
      clear HC27
      by_cases c28:(bt t182 x11_1)=10
      ·rw [if_pos c28] at H
       have c28b0:((bt t182 x11_1) == 10)=true:=beq_iff_eq.mpr c28
       have c28b1:((bt t182 x11_1) != 10)=false:=bne_eq_false_iff_eq.mpr c28
       clear c28
       (first|rw [c28b0]|(simp only [qaE,qaF];rw [c28b0])|skip)
       by_cases c29:x10_1.size+9≤9223372036854775807
       ·rw [if_pos c29] at H
        have c29b0:=eq_true c29
        have c29b1:decide (x10_1.size+9≤9223372036854775807)=true:=decide_eq_true c29
        try have c29b2:(9223372036854775807<x10_1.size+9)=False:=eq_false (Nat.not_lt.2 c29)
        have H':=qah.mk H
        clear H
        go_wp2
        go_meet
        case rel=>exact⟨_,(x10_1++(⟨#[32,35,32,110,111,116,101,61,49]⟩:ByteArray)),(by first|rfl|(simp;done)|(simp [*];done)),H',⟨by have:=HK1.out;first|omega|exact Nat.le_refl _⟩,⟨by (with_reducible repeat (first|apply Kd.N_alloc|apply Kd.N_drewN|apply Kd.N_drew));exact HO_182002.out⟩,⟨by (with_reducible repeat (first|apply Kd.N_alloc|apply Kd.N_drewN|apply Kd.N_drew));exact HO_191002.out⟩,⟨by (with_reducible repeat (first|refine qab ?_ _|refine qae ?_|refine qaa ?_ _));exact BK174.out⟩,⟨by (with_reducible repeat (first|refine qab ?_ _|refine qae ?_|refine qaa ?_ _));exact BK181.out⟩,⟨by (with_reducible repeat (first|refine qab ?_ _|refine qae ?_|refine qaa ?_ _));exact BK190.out⟩,⟨by repeat (first|(with_reducible first|exact HB.out|apply qai|apply qag|apply qaj|refine qac ?_ GE174.out|refine qac ?_ GE181.out|refine qac ?_ GE190.out)|exact HB.out)⟩⟩
       ·rw [if_neg c29] at H
        exact absurd H (by simp)
      ·rw [if_neg c28] at H
       have c28b0:((bt t182 x11_1) == 10)=false:=beq_eq_false_iff_ne.mpr c28
       have c28b1:((bt t182 x11_1) != 10)=true:=bne_iff_ne.mpr c28
       (first|rw [c28b0]|(simp only [qaE,qaF];rw [c28b0])|skip)
       have H':=qah.mk H
       clear H
       go_wp2
       go_meet
       case rel=>exact⟨_,(x10_1),(by first|rfl|(simp;done)|(simp [*];done)),H',⟨by have:=HK1.out;first|omega|exact Nat.le_refl _⟩,⟨by (with_reducible repeat (first|apply Kd.N_alloc|apply Kd.N_drewN|apply Kd.N_drew));exact HO_182002.out⟩,⟨by (with_reducible repeat (first|apply Kd.N_alloc|apply Kd.N_drewN|apply Kd.N_drew));exact HO_191002.out⟩,⟨by (with_reducible repeat (first|refine qab ?_ _|refine qae ?_|refine qaa ?_ _));exact BK174.out⟩,⟨by (with_reducible repeat (first|refine qab ?_ _|refine qae ?_|refine qaa ?_ _));exact BK181.out⟩,⟨by (with_reducible repeat (first|refine qab ?_ _|refine qae ?_|refine qaa ?_ _));exact BK190.out⟩,⟨by repeat (first|(with_reducible first|exact HB.out|apply qai|apply qag|apply qaj|refine qac ?_ GE174.out|refine qac ?_ GE181.out|refine qac ?_ GE190.out)|exact HB.out)⟩⟩
     case rest=>
      clear HC27
      try clear c1
      try clear c2
      try clear p2
      try clear q2
      try clear hx2
      try clear c4
      try clear c8
      try clear c11
      try clear c12
      try clear c14
      try clear c15
      try clear c18
      try clear c19
      try clear c24
      try clear c24b0
      try clear c25
      try clear c25b0
      try clear p26
      try clear q26
      try clear hx26
      try clear c28
      try clear c28b0
      try clear c28b1
      try clear c29
      try clear c29b0
      try clear c29b1
      try clear c29b2
      try clear hcz13_0
      try clear hcz13_1
      try clear hcz13_2
      try clear hcz20_0
      try clear hcz20_1
      try clear hcz20_2
      try clear hcz22_0
      try clear hcz22_1
      try clear hcz22_2
      try clear hcz9_0
      try clear hcz9_1
      try clear hcz9_2
      try clear hfz13_0
      try clear hfz13_1
      try clear hfz13_2
      try clear hfz20_0
      try clear hfz20_1
      try clear hfz20_2
      try clear hfz22_0
      try clear hfz22_1
      try clear hfz22_2
      try clear hfz9_0
      try clear hfz9_1
      try clear hfz9_2
      try clear p2
      try clear p26
      try clear q26
      obtain⟨kq,x10_26,rfl,HA,HJ26,HO_182002,HO_191002,BK174,BK181,BK190,HB⟩:=hcut
      cases kq with
      |zero=>exact absurd HA.out (by simp [ostinatolaw07_ParseBack.j1])
      |succ kj26=>
       have H:=HA.out
       clear HA
       simp only [ostinatolaw07_ParseBack.j1] at H
       by_cases c30:0≤x11_1
       ·rw [if_pos c30] at H
        have c30b0:decide (0≤x11_1)=true:=decide_eq_true c30
        clear c30
        by_cases c31:x11_1<(t182.size:Int)
        ·rw [if_pos c31] at H
         have c31b0:decide (x11_1<(t182.size:Int))=true:=decide_eq_true c31
         clear c31
         by_cases c33:(bt t182 x11_1)=32
         ·rw [if_pos c33] at H
          have c33b0:((bt t182 x11_1) == 32)=true:=beq_iff_eq.mpr c33
          have c33b1:((bt t182 x11_1) != 32)=false:=bne_eq_false_iff_eq.mpr c33
          clear c33
          by_cases c34:x10_26.size+1≤9223372036854775807
          ·rw [if_pos c34] at H
           have c34b0:=eq_true c34
           have c34b1:decide (x10_26.size+1≤9223372036854775807)=true:=decide_eq_true c34
           try have c34b2:(9223372036854775807<x10_26.size+1)=False:=eq_false (Nat.not_lt.2 c34)
           obtain⟨y201,hy201⟩:∃ y_:List Int,y_=(([bt t182 x11_1]:List Int)):=⟨_,rfl⟩
           replace H:(if (x10_26++(⟨#[9]⟩:ByteArray)).size+(strOfNums y201).size≤9223372036854775807 then (if (bt t182 x11_1)=10 then (if ((x10_26++(⟨#[9]⟩:ByteArray))++(strOfNums y201)).size+2≤9223372036854775807 then (ostinatolaw07_ParseBack.l0 kj26 t175 t182 t188 t189 t191 (((x10_26++(⟨#[9]⟩:ByteArray))++(strOfNums y201))++(⟨#[32,10]⟩:ByteArray)) (wrap64 (x11_1+1)) t176 t177 t178) else (none)) else (ostinatolaw07_ParseBack.l0 kj26 t175 t182 t188 t189 t191 ((x10_26++(⟨#[9]⟩:ByteArray))++(strOfNums y201)) (wrap64 (x11_1+1)) t176 t177 t178)) else (none))=some r:=by first|(rw [hy201];with_reducible exact H)|(have H2_:=(Option.bind_some _ _).symm.trans H;rw [hy201];with_reducible exact H2_)|(have H2_:=(Option.bind_some _ _).symm.trans H;with_reducible exact H2_)|with_reducible exact H|(rw [hy201];exact H)|exact H
           have Ny201:=qah.mk hy201
           clear hy201
           by_cases c36:(x10_26++(⟨#[9]⟩:ByteArray)).size+(strOfNums y201).size≤9223372036854775807
           ·rw [if_pos c36] at H
            have c36b0:=eq_true c36
            have c36b1:decide ((x10_26++(⟨#[9]⟩:ByteArray)).size+(strOfNums y201).size≤9223372036854775807)=true:=decide_eq_true c36
            try have c36b2:(9223372036854775807<(x10_26++(⟨#[9]⟩:ByteArray)).size+(strOfNums y201).size)=False:=eq_false (Nat.not_lt.2 c36)
            try have c36b4:(9223372036854775807<x10_26.size+1+(strOfNums y201).size)=False:=eq_false (Nat.not_lt.2 (by have e:=c36;simp only [ByteArray.size_append,show (⟨#[9]⟩:ByteArray).size=1 from rfl] at e;omega))
            by_cases c38:(bt t182 x11_1)=10
            ·rw [if_pos c38] at H
             have c38b0:((bt t182 x11_1) == 10)=true:=beq_iff_eq.mpr c38
             have c38b1:((bt t182 x11_1) != 10)=false:=bne_eq_false_iff_eq.mpr c38
             clear c38
             by_cases c39:((x10_26++(⟨#[9]⟩:ByteArray))++(strOfNums y201)).size+2≤9223372036854775807
             ·rw [if_pos c39] at H
              have c39b0:=eq_true c39
              have c39b1:decide (((x10_26++(⟨#[9]⟩:ByteArray))++(strOfNums y201)).size+2≤9223372036854775807)=true:=decide_eq_true c39
              try have c39b2:(9223372036854775807<((x10_26++(⟨#[9]⟩:ByteArray))++(strOfNums y201)).size+2)=False:=eq_false (Nat.not_lt.2 c39)
              try have c39b4:(9223372036854775807<x10_26.size+1+(strOfNums y201).size+2)=False:=eq_false (Nat.not_lt.2 (by have e:=c39;simp only [ByteArray.size_append,show (⟨#[9]⟩:ByteArray).size=1 from rfl] at e;omega))
              have H':=qah.mk H
              clear H
              have p32:0≤(x11_1:Int):=of_decide_eq_true (by first|(with_reducible assumption)|assumption)
              have q32:x11_1<(t182.size:Int):=of_decide_eq_true (by first|(with_reducible assumption)|assumption)
              have hx32:=bt_at t182 x11_1
              replace p32:=eq_true p32
              replace q32:=eq_true q32
              have p35:0≤(x11_1:Int):=of_decide_eq_true (by first|(with_reducible assumption)|assumption)
              have q35:x11_1<(t182.size:Int):=of_decide_eq_true (by first|(with_reducible assumption)|assumption)
              have hx35:=bt_at t182 x11_1
              replace p35:=eq_true p35
              replace q35:=eq_true q35
              go_wp2_with (first|((with_reducible refine qaA (N:=52) rfl ?_);(try (refine qaD (by rfl) ?_;dsimp only));refine Kd.R_lit (Kd.int .u8) _ 5 ?hg (N:=52) ?hd (xs:=([bt t182 x11_1]:List Int)) (inner:=[.int .u8 (bt t182 x11_1)]) (ok:=fun _=>True) (okp:=fun _=>True) ?hr ?hp (fun _ hk=>hk) trivial (Below.refl _ _) (Nat.le_refl _) (by simp) ?_;(case hd=>rfl);(case hg=>rfl);(case hr=>first|(go_simp;done)|(go_simp;rfl));(case hp=>exact (Reps.one (show Kd.M (Kd.int .u8) _ _ _ (bt t182 x11_1) [.int .u8 (bt t182 x11_1)] from rfl) (Reps.none _ _)));intro v202 w40 ho41 hb hg_ hnew_;clear hg_ hnew_;(first|rw [← Ny201.out] at ho41|(simp only [Int.reduceToNat] at ho41;rw [← Ny201.out] at ho41));have n0_:=qah.mk (Kd.N_elder' (by (with_reducible repeat (first|apply Kd.N_alloc|apply Kd.N_drewN|apply Kd.N_drew));exact HO_182002.out) (Kd.R_base ho41) hb);have n1_:=qah.mk (Kd.N_elder' (by (with_reducible repeat (first|apply Kd.N_alloc|apply Kd.N_drewN|apply Kd.N_drew));exact HO_191002.out) (Kd.R_base ho41) hb);have n2_:=qah.mk (Kd.R_lower ho41 (qal (by repeat (first|(with_reducible first|exact HB.out|apply qai|apply qag|apply qaj|refine qac ?_ GE174.out|refine qac ?_ GE181.out|refine qac ?_ GE190.out)|exact HB.out))));have n3_:=qah.mk (qak (g:=gb174) (o:=.cells #[.int .i64 a0_0,.int .i64 a0_1,.slice A0_2 l0_2.length c0_2] 24 (0,0)) (by (with_reducible repeat (first|refine qab ?_ _|refine qae ?_|refine qaa ?_ _));exact BK174.out) hb);have n4_:=qah.mk (qak (g:=gb181) (o:=.cells #[.int .i64 t176,.int .i64 t177,.slice Ao14 t178.length co14] 32 (0,0)) (by (with_reducible repeat (first|refine qab ?_ _|refine qae ?_|refine qaa ?_ _));exact BK181.out) hb);have n5_:=qah.mk (qak (g:=gb190) (o:=.cells #[.int .i64 t183,.int .i64 t184,.slice Ao21 t185.length co21] 32 (0,0)) (by (with_reducible repeat (first|refine qab ?_ _|refine qae ?_|refine qaa ?_ _));exact BK190.out) hb);have n6_:=qah.mk (qan (by repeat (first|(with_reducible first|exact HB.out|apply qai|apply qag|apply qaj|refine qac ?_ GE174.out|refine qac ?_ GE181.out|refine qac ?_ GE190.out)|exact HB.out)) hb);clear HO_182002;clear HO_191002;clear BK174;clear BK181;clear BK190;clear HB;have HO_182002:=n0_;have HO_191002:=n1_;have HO203:=n2_;have BK174:=n3_;have BK181:=n4_;have BK190:=n5_;have HB:=n6_;clear n0_ n1_ n2_ n3_ n4_ n5_ n6_;clear hb ho41;have hcv42:=own_string (P:=Tryd.prog) Tryd.underlying34 Tryd.underlying5 Tryd.underlying9 (Kd.own_of_R HO203.out);have p37:0≤(x11_1:Int):=of_decide_eq_true (by first|(with_reducible assumption)|assumption);have q37:x11_1<(t182.size:Int):=of_decide_eq_true (by first|(with_reducible assumption)|assumption);have hx37:=bt_at t182 x11_1;replace p37:=eq_true p37;replace q37:=eq_true q37))
              go_roundg kj26
              case measure=>have:=HK1.out;have:=HJ26.out;omega
              case rel=>exact⟨(((x10_26++(⟨#[9]⟩:ByteArray))++(strOfNums y201))++(⟨#[32,10]⟩:ByteArray)),(wrap64 (x11_1+1)),(by first|rfl|(simp;done)|(simp [*];done)),(by first|rfl|(simp;done)|(simp [*];done)),H',⟨by have:=HK1.out;have:=HJ26.out;omega⟩,⟨by (with_reducible repeat (first|apply Kd.N_alloc|apply Kd.N_drewN|apply Kd.N_drew));exact Kd.N_mono HO_182002.out (fun _ hk=>⟨hk.1.1,⟨hk.1.2.1,⟨hk.1.2.2.1,hk.1.2.2.2⟩⟩⟩)⟩,⟨by (with_reducible repeat (first|apply Kd.N_alloc|apply Kd.N_drewN|apply Kd.N_drew));exact Kd.N_mono HO_191002.out (fun _ hk=>⟨hk.1.1,⟨hk.1.2.1,⟨hk.1.2.2.1,hk.1.2.2.2⟩⟩⟩)⟩,⟨by (with_reducible repeat (first|refine qab ?_ _|refine qae ?_|refine qaa ?_ _));exact BK174.out⟩,⟨by (with_reducible repeat (first|refine qab ?_ _|refine qae ?_|refine qaa ?_ _));exact BK181.out⟩,⟨by (with_reducible repeat (first|refine qab ?_ _|refine qae ?_|refine qaa ?_ _));exact BK190.out⟩,⟨by repeat (first|(with_reducible first|exact HB.out|apply qai|apply qag|apply qaj|refine qac ?_ GE174.out|refine qac ?_ GE181.out|refine qac ?_ GE190.out)|exact HB.out)⟩⟩
             ·rw [if_neg c39] at H
              exact absurd H (by simp)
            ·rw [if_neg c38] at H
             have c38b0:((bt t182 x11_1) == 10)=false:=beq_eq_false_iff_ne.mpr c38
             have c38b1:((bt t182 x11_1) != 10)=true:=bne_iff_ne.mpr c38
             have H':=qah.mk H
             clear H
             have p32:0≤(x11_1:Int):=of_decide_eq_true (by first|(with_reducible assumption)|assumption)
             have q32:x11_1<(t182.size:Int):=of_decide_eq_true (by first|(with_reducible assumption)|assumption)
             have hx32:=bt_at t182 x11_1
             replace p32:=eq_true p32
             replace q32:=eq_true q32
             have p35:0≤(x11_1:Int):=of_decide_eq_true (by first|(with_reducible assumption)|assumption)
             have q35:x11_1<(t182.size:Int):=of_decide_eq_true (by first|(with_reducible assumption)|assumption)
             have hx35:=bt_at t182 x11_1
             replace p35:=eq_true p35
             replace q35:=eq_true q35
             go_wp2_with (first|((with_reducible refine qaA (N:=52) rfl ?_);(try (refine qaD (by rfl) ?_;dsimp only));refine Kd.R_lit (Kd.int .u8) _ 5 ?hg (N:=52) ?hd (xs:=([bt t182 x11_1]:List Int)) (inner:=[.int .u8 (bt t182 x11_1)]) (ok:=fun _=>True) (okp:=fun _=>True) ?hr ?hp (fun _ hk=>hk) trivial (Below.refl _ _) (Nat.le_refl _) (by simp) ?_;(case hd=>rfl);(case hg=>rfl);(case hr=>first|(go_simp;done)|(go_simp;rfl));(case hp=>exact (Reps.one (show Kd.M (Kd.int .u8) _ _ _ (bt t182 x11_1) [.int .u8 (bt t182 x11_1)] from rfl) (Reps.none _ _)));intro v202 w43 ho44 hb hg_ hnew_;clear hg_ hnew_;(first|rw [← Ny201.out] at ho44|(simp only [Int.reduceToNat] at ho44;rw [← Ny201.out] at ho44));have n0_:=qah.mk (Kd.N_elder' (by (with_reducible repeat (first|apply Kd.N_alloc|apply Kd.N_drewN|apply Kd.N_drew));exact HO_182002.out) (Kd.R_base ho44) hb);have n1_:=qah.mk (Kd.N_elder' (by (with_reducible repeat (first|apply Kd.N_alloc|apply Kd.N_drewN|apply Kd.N_drew));exact HO_191002.out) (Kd.R_base ho44) hb);have n2_:=qah.mk (Kd.R_lower ho44 (qal (by repeat (first|(with_reducible first|exact HB.out|apply qai|apply qag|apply qaj|refine qac ?_ GE174.out|refine qac ?_ GE181.out|refine qac ?_ GE190.out)|exact HB.out))));have n3_:=qah.mk (qak (g:=gb174) (o:=.cells #[.int .i64 a0_0,.int .i64 a0_1,.slice A0_2 l0_2.length c0_2] 24 (0,0)) (by (with_reducible repeat (first|refine qab ?_ _|refine qae ?_|refine qaa ?_ _));exact BK174.out) hb);have n4_:=qah.mk (qak (g:=gb181) (o:=.cells #[.int .i64 t176,.int .i64 t177,.slice Ao14 t178.length co14] 32 (0,0)) (by (with_reducible repeat (first|refine qab ?_ _|refine qae ?_|refine qaa ?_ _));exact BK181.out) hb);have n5_:=qah.mk (qak (g:=gb190) (o:=.cells #[.int .i64 t183,.int .i64 t184,.slice Ao21 t185.length co21] 32 (0,0)) (by (with_reducible repeat (first|refine qab ?_ _|refine qae ?_|refine qaa ?_ _));exact BK190.out) hb);have n6_:=qah.mk (qan (by repeat (first|(with_reducible first|exact HB.out|apply qai|apply qag|apply qaj|refine qac ?_ GE174.out|refine qac ?_ GE181.out|refine qac ?_ GE190.out)|exact HB.out)) hb);clear HO_182002;clear HO_191002;clear BK174;clear BK181;clear BK190;clear HB;have HO_182002:=n0_;have HO_191002:=n1_;have HO203:=n2_;have BK174:=n3_;have BK181:=n4_;have BK190:=n5_;have HB:=n6_;clear n0_ n1_ n2_ n3_ n4_ n5_ n6_;clear hb ho44;have hcv45:=own_string (P:=Tryd.prog) Tryd.underlying34 Tryd.underlying5 Tryd.underlying9 (Kd.own_of_R HO203.out);have p37:0≤(x11_1:Int):=of_decide_eq_true (by first|(with_reducible assumption)|assumption);have q37:x11_1<(t182.size:Int):=of_decide_eq_true (by first|(with_reducible assumption)|assumption);have hx37:=bt_at t182 x11_1;replace p37:=eq_true p37;replace q37:=eq_true q37))
             go_roundg kj26
             case measure=>have:=HK1.out;have:=HJ26.out;omega
             case rel=>exact⟨((x10_26++(⟨#[9]⟩:ByteArray))++(strOfNums y201)),(wrap64 (x11_1+1)),(by first|rfl|(simp;done)|(simp [*];done)),(by first|rfl|(simp;done)|(simp [*];done)),H',⟨by have:=HK1.out;have:=HJ26.out;omega⟩,⟨by (with_reducible repeat (first|apply Kd.N_alloc|apply Kd.N_drewN|apply Kd.N_drew));exact Kd.N_mono HO_182002.out (fun _ hk=>⟨hk.1.1,⟨hk.1.2.1,⟨hk.1.2.2.1,hk.1.2.2.2⟩⟩⟩)⟩,⟨by (with_reducible repeat (first|apply Kd.N_alloc|apply Kd.N_drewN|apply Kd.N_drew));exact Kd.N_mono HO_191002.out (fun _ hk=>⟨hk.1.1,⟨hk.1.2.1,⟨hk.1.2.2.1,hk.1.2.2.2⟩⟩⟩)⟩,⟨by (with_reducible repeat (first|refine qab ?_ _|refine qae ?_|refine qaa ?_ _));exact BK174.out⟩,⟨by (with_reducible repeat (first|refine qab ?_ _|refine qae ?_|refine qaa ?_ _));exact BK181.out⟩,⟨by (with_reducible repeat (first|refine qab ?_ _|refine qae ?_|refine qaa ?_ _));exact BK190.out⟩,⟨by repeat (first|(with_reducible first|exact HB.out|apply qai|apply qag|apply qaj|refine qac ?_ GE174.out|refine qac ?_ GE181.out|refine qac ?_ GE190.out)|exact HB.out)⟩⟩
           ·rw [if_neg c36] at H
            exact absurd H (by simp)
          ·rw [if_neg c34] at H
           exact absurd H (by simp)
         ·rw [if_neg c33] at H
          have c33b0:((bt t182 x11_1) == 32)=false:=beq_eq_false_iff_ne.mpr c33
          have c33b1:((bt t182 x11_1) != 32)=true:=bne_iff_ne.mpr c33
          obtain⟨y204,hy204⟩:∃ y_:List Int,y_=(([bt t182 x11_1]:List Int)):=⟨_,rfl⟩
          replace H:(if x10_26.size+(strOfNums y204).size≤9223372036854775807 then (if (bt t182 x11_1)=10 then (if (x10_26++(strOfNums y204)).size+2≤9223372036854775807 then (ostinatolaw07_ParseBack.l0 kj26 t175 t182 t188 t189 t191 ((x10_26++(strOfNums y204))++(⟨#[32,10]⟩:ByteArray)) (wrap64 (x11_1+1)) t176 t177 t178) else (none)) else (ostinatolaw07_ParseBack.l0 kj26 t175 t182 t188 t189 t191 (x10_26++(strOfNums y204)) (wrap64 (x11_1+1)) t176 t177 t178)) else (none))=some r:=by first|(rw [hy204];with_reducible exact H)|(have H2_:=(Option.bind_some _ _).symm.trans H;rw [hy204];with_reducible exact H2_)|(have H2_:=(Option.bind_some _ _).symm.trans H;with_reducible exact H2_)|with_reducible exact H|(rw [hy204];exact H)|exact H
          have Ny204:=qah.mk hy204
          clear hy204
          by_cases c47:x10_26.size+(strOfNums y204).size≤9223372036854775807
          ·rw [if_pos c47] at H
           have c47b0:=eq_true c47
           have c47b1:decide (x10_26.size+(strOfNums y204).size≤9223372036854775807)=true:=decide_eq_true c47
           try have c47b2:(9223372036854775807<x10_26.size+(strOfNums y204).size)=False:=eq_false (Nat.not_lt.2 c47)
           by_cases c49:(bt t182 x11_1)=10
           ·rw [if_pos c49] at H
            have c49b0:((bt t182 x11_1) == 10)=true:=beq_iff_eq.mpr c49
            have c49b1:((bt t182 x11_1) != 10)=false:=bne_eq_false_iff_eq.mpr c49
            clear c49
            by_cases c50:(x10_26++(strOfNums y204)).size+2≤9223372036854775807
            ·rw [if_pos c50] at H
             have c50b0:=eq_true c50
             have c50b1:decide ((x10_26++(strOfNums y204)).size+2≤9223372036854775807)=true:=decide_eq_true c50
             try have c50b2:(9223372036854775807<(x10_26++(strOfNums y204)).size+2)=False:=eq_false (Nat.not_lt.2 c50)
             try have c50b4:(9223372036854775807<x10_26.size+(strOfNums y204).size+2)=False:=eq_false (Nat.not_lt.2 (by have e:=c50;simp only [ByteArray.size_append] at e;omega))
             have H':=qah.mk H
             clear H
             have p32:0≤(x11_1:Int):=of_decide_eq_true (by first|(with_reducible assumption)|assumption)
             have q32:x11_1<(t182.size:Int):=of_decide_eq_true (by first|(with_reducible assumption)|assumption)
             have hx32:=bt_at t182 x11_1
             replace p32:=eq_true p32
             replace q32:=eq_true q32
             have p46:0≤(x11_1:Int):=of_decide_eq_true (by first|(with_reducible assumption)|assumption)
             have q46:x11_1<(t182.size:Int):=of_decide_eq_true (by first|(with_reducible assumption)|assumption)
             have hx46:=bt_at t182 x11_1
             replace p46:=eq_true p46
             replace q46:=eq_true q46
             go_wp2_with (first|((with_reducible refine qaA (N:=52) rfl ?_);(try (refine qaD (by rfl) ?_;dsimp only));refine Kd.R_lit (Kd.int .u8) _ 5 ?hg (N:=52) ?hd (xs:=([bt t182 x11_1]:List Int)) (inner:=[.int .u8 (bt t182 x11_1)]) (ok:=fun _=>True) (okp:=fun _=>True) ?hr ?hp (fun _ hk=>hk) trivial (Below.refl _ _) (Nat.le_refl _) (by simp) ?_;(case hd=>rfl);(case hg=>rfl);(case hr=>first|(go_simp;done)|(go_simp;rfl));(case hp=>exact (Reps.one (show Kd.M (Kd.int .u8) _ _ _ (bt t182 x11_1) [.int .u8 (bt t182 x11_1)] from rfl) (Reps.none _ _)));intro v205 w51 ho52 hb hg_ hnew_;clear hg_ hnew_;(first|rw [← Ny204.out] at ho52|(simp only [Int.reduceToNat] at ho52;rw [← Ny204.out] at ho52));have n0_:=qah.mk (Kd.N_elder' (by (with_reducible repeat (first|apply Kd.N_alloc|apply Kd.N_drewN|apply Kd.N_drew));exact HO_182002.out) (Kd.R_base ho52) hb);have n1_:=qah.mk (Kd.N_elder' (by (with_reducible repeat (first|apply Kd.N_alloc|apply Kd.N_drewN|apply Kd.N_drew));exact HO_191002.out) (Kd.R_base ho52) hb);have n2_:=qah.mk (Kd.R_lower ho52 (qal (by repeat (first|(with_reducible first|exact HB.out|apply qai|apply qag|apply qaj|refine qac ?_ GE174.out|refine qac ?_ GE181.out|refine qac ?_ GE190.out)|exact HB.out))));have n3_:=qah.mk (qak (g:=gb174) (o:=.cells #[.int .i64 a0_0,.int .i64 a0_1,.slice A0_2 l0_2.length c0_2] 24 (0,0)) (by (with_reducible repeat (first|refine qab ?_ _|refine qae ?_|refine qaa ?_ _));exact BK174.out) hb);have n4_:=qah.mk (qak (g:=gb181) (o:=.cells #[.int .i64 t176,.int .i64 t177,.slice Ao14 t178.length co14] 32 (0,0)) (by (with_reducible repeat (first|refine qab ?_ _|refine qae ?_|refine qaa ?_ _));exact BK181.out) hb);have n5_:=qah.mk (qak (g:=gb190) (o:=.cells #[.int .i64 t183,.int .i64 t184,.slice Ao21 t185.length co21] 32 (0,0)) (by (with_reducible repeat (first|refine qab ?_ _|refine qae ?_|refine qaa ?_ _));exact BK190.out) hb);have n6_:=qah.mk (qan (by repeat (first|(with_reducible first|exact HB.out|apply qai|apply qag|apply qaj|refine qac ?_ GE174.out|refine qac ?_ GE181.out|refine qac ?_ GE190.out)|exact HB.out)) hb);clear HO_182002;clear HO_191002;clear BK174;clear BK181;clear BK190;clear HB;have HO_182002:=n0_;have HO_191002:=n1_;have HO206:=n2_;have BK174:=n3_;have BK181:=n4_;have BK190:=n5_;have HB:=n6_;clear n0_ n1_ n2_ n3_ n4_ n5_ n6_;clear hb ho52;have hcv53:=own_string (P:=Tryd.prog) Tryd.underlying34 Tryd.underlying5 Tryd.underlying9 (Kd.own_of_R HO206.out);have p48:0≤(x11_1:Int):=of_decide_eq_true (by first|(with_reducible assumption)|assumption);have q48:x11_1<(t182.size:Int):=of_decide_eq_true (by first|(with_reducible assumption)|assumption);have hx48:=bt_at t182 x11_1;replace p48:=eq_true p48;replace q48:=eq_true q48))
             go_roundg kj26
             case measure=>have:=HK1.out;have:=HJ26.out;omega
             case rel=>exact⟨((x10_26++(strOfNums y204))++(⟨#[32,10]⟩:ByteArray)),(wrap64 (x11_1+1)),(by first|rfl|(simp;done)|(simp [*];done)),(by first|rfl|(simp;done)|(simp [*];done)),H',⟨by have:=HK1.out;have:=HJ26.out;omega⟩,⟨by (with_reducible repeat (first|apply Kd.N_alloc|apply Kd.N_drewN|apply Kd.N_drew));exact Kd.N_mono HO_182002.out (fun _ hk=>⟨hk.1.1,⟨hk.1.2.1,⟨hk.1.2.2.1,hk.1.2.2.2⟩⟩⟩)⟩,⟨by (with_reducible repeat (first|apply Kd.N_alloc|apply Kd.N_drewN|apply Kd.N_drew));exact Kd.N_mono HO_191002.out (fun _ hk=>⟨hk.1.1,⟨hk.1.2.1,⟨hk.1.2.2.1,hk.1.2.2.2⟩⟩⟩)⟩,⟨by (with_reducible repeat (first|refine qab ?_ _|refine qae ?_|refine qaa ?_ _));exact BK174.out⟩,⟨by (with_reducible repeat (first|refine qab ?_ _|refine qae ?_|refine qaa ?_ _));exact BK181.out⟩,⟨by (with_reducible repeat (first|refine qab ?_ _|refine qae ?_|refine qaa ?_ _));exact BK190.out⟩,⟨by repeat (first|(with_reducible first|exact HB.out|apply qai|apply qag|apply qaj|refine qac ?_ GE174.out|refine qac ?_ GE181.out|refine qac ?_ GE190.out)|exact HB.out)⟩⟩
            ·rw [if_neg c50] at H
             exact absurd H (by simp)
           ·rw [if_neg c49] at H
            have c49b0:((bt t182 x11_1) == 10)=false:=beq_eq_false_iff_ne.mpr c49
            have c49b1:((bt t182 x11_1) != 10)=true:=bne_iff_ne.mpr c49
            have H':=qah.mk H
            clear H
            have p32:0≤(x11_1:Int):=of_decide_eq_true (by first|(with_reducible assumption)|assumption)
            have q32:x11_1<(t182.size:Int):=of_decide_eq_true (by first|(with_reducible assumption)|assumption)
            have hx32:=bt_at t182 x11_1
            replace p32:=eq_true p32
            replace q32:=eq_true q32
            have p46:0≤(x11_1:Int):=of_decide_eq_true (by first|(with_reducible assumption)|assumption)
            have q46:x11_1<(t182.size:Int):=of_decide_eq_true (by first|(with_reducible assumption)|assumption)
            have hx46:=bt_at t182 x11_1
            replace p46:=eq_true p46
            replace q46:=eq_true q46
            go_wp2_with (first|((with_reducible refine qaA (N:=52) rfl ?_);(try (refine qaD (by rfl) ?_;dsimp only));refine Kd.R_lit (Kd.int .u8) _ 5 ?hg (N:=52) ?hd (xs:=([bt t182 x11_1]:List Int)) (inner:=[.int .u8 (bt t182 x11_1)]) (ok:=fun _=>True) (okp:=fun _=>True) ?hr ?hp (fun _ hk=>hk) trivial (Below.refl _ _) (Nat.le_refl _) (by simp) ?_;(case hd=>rfl);(case hg=>rfl);(case hr=>first|(go_simp;done)|(go_simp;rfl));(case hp=>exact (Reps.one (show Kd.M (Kd.int .u8) _ _ _ (bt t182 x11_1) [.int .u8 (bt t182 x11_1)] from rfl) (Reps.none _ _)));intro v205 w54 ho55 hb hg_ hnew_;clear hg_ hnew_;(first|rw [← Ny204.out] at ho55|(simp only [Int.reduceToNat] at ho55;rw [← Ny204.out] at ho55));have n0_:=qah.mk (Kd.N_elder' (by (with_reducible repeat (first|apply Kd.N_alloc|apply Kd.N_drewN|apply Kd.N_drew));exact HO_182002.out) (Kd.R_base ho55) hb);have n1_:=qah.mk (Kd.N_elder' (by (with_reducible repeat (first|apply Kd.N_alloc|apply Kd.N_drewN|apply Kd.N_drew));exact HO_191002.out) (Kd.R_base ho55) hb);have n2_:=qah.mk (Kd.R_lower ho55 (qal (by repeat (first|(with_reducible first|exact HB.out|apply qai|apply qag|apply qaj|refine qac ?_ GE174.out|refine qac ?_ GE181.out|refine qac ?_ GE190.out)|exact HB.out))));have n3_:=qah.mk (qak (g:=gb174) (o:=.cells #[.int .i64 a0_0,.int .i64 a0_1,.slice A0_2 l0_2.length c0_2] 24 (0,0)) (by (with_reducible repeat (first|refine qab ?_ _|refine qae ?_|refine qaa ?_ _));exact BK174.out) hb);have n4_:=qah.mk (qak (g:=gb181) (o:=.cells #[.int .i64 t176,.int .i64 t177,.slice Ao14 t178.length co14] 32 (0,0)) (by (with_reducible repeat (first|refine qab ?_ _|refine qae ?_|refine qaa ?_ _));exact BK181.out) hb);have n5_:=qah.mk (qak (g:=gb190) (o:=.cells #[.int .i64 t183,.int .i64 t184,.slice Ao21 t185.length co21] 32 (0,0)) (by (with_reducible repeat (first|refine qab ?_ _|refine qae ?_|refine qaa ?_ _));exact BK190.out) hb);have n6_:=qah.mk (qan (by repeat (first|(with_reducible first|exact HB.out|apply qai|apply qag|apply qaj|refine qac ?_ GE174.out|refine qac ?_ GE181.out|refine qac ?_ GE190.out)|exact HB.out)) hb);clear HO_182002;clear HO_191002;clear BK174;clear BK181;clear BK190;clear HB;have HO_182002:=n0_;have HO_191002:=n1_;have HO206:=n2_;have BK174:=n3_;have BK181:=n4_;have BK190:=n5_;have HB:=n6_;clear n0_ n1_ n2_ n3_ n4_ n5_ n6_;clear hb ho55;have hcv56:=own_string (P:=Tryd.prog) Tryd.underlying34 Tryd.underlying5 Tryd.underlying9 (Kd.own_of_R HO206.out);have p48:0≤(x11_1:Int):=of_decide_eq_true (by first|(with_reducible assumption)|assumption);have q48:x11_1<(t182.size:Int):=of_decide_eq_true (by first|(with_reducible assumption)|assumption);have hx48:=bt_at t182 x11_1;replace p48:=eq_true p48;replace q48:=eq_true q48))
            go_roundg kj26
            case measure=>have:=HK1.out;have:=HJ26.out;omega
            case rel=>exact⟨(x10_26++(strOfNums y204)),(wrap64 (x11_1+1)),(by first|rfl|(simp;done)|(simp [*];done)),(by first|rfl|(simp;done)|(simp [*];done)),H',⟨by have:=HK1.out;have:=HJ26.out;omega⟩,⟨by (with_reducible repeat (first|apply Kd.N_alloc|apply Kd.N_drewN|apply Kd.N_drew));exact Kd.N_mono HO_182002.out (fun _ hk=>⟨hk.1.1,⟨hk.1.2.1,⟨hk.1.2.2.1,hk.1.2.2.2⟩⟩⟩)⟩,⟨by (with_reducible repeat (first|apply Kd.N_alloc|apply Kd.N_drewN|apply Kd.N_drew));exact Kd.N_mono HO_191002.out (fun _ hk=>⟨hk.1.1,⟨hk.1.2.1,⟨hk.1.2.2.1,hk.1.2.2.2⟩⟩⟩)⟩,⟨by (with_reducible repeat (first|refine qab ?_ _|refine qae ?_|refine qaa ?_ _));exact BK174.out⟩,⟨by (with_reducible repeat (first|refine qab ?_ _|refine qae ?_|refine qaa ?_ _));exact BK181.out⟩,⟨by (with_reducible repeat (first|refine qab ?_ _|refine qae ?_|refine qaa ?_ _));exact BK190.out⟩,⟨by repeat (first|(with_reducible first|exact HB.out|apply qai|apply qag|apply qaj|refine qac ?_ GE174.out|refine qac ?_ GE181.out|refine qac ?_ GE190.out)|exact HB.out)⟩⟩
          ·rw [if_neg c47] at H
           exact absurd H (by simp)
        ·rw [if_neg c31] at H
         exact absurd H (by simp)
       ·rw [if_neg c30] at H
        exact absurd H (by simp)
    ·rw [if_neg c25] at H
     exact absurd H (by simp)
   ·rw [if_neg c24] at H
    have c24b0:decide (x11_1<(t182.size:Int))=false:=decide_eq_false c24
    clear c24
    replace H:=Option.bind_eq_some_iff.mp H
    obtain⟨⟨t192,t193,t194,t197,t198⟩,A570,H⟩:=H
    replace H:((ostinatoref05_Same.f k1 t192 t193 t194 t176 t177 t178).bind fun t200=>(if t175=true then (if t182.toList=([]:List UInt8) then (some false) else (if t189=0 then (if t188=(t182.size:Int) then (if t191=true then (if t198=0 then (if t197=(x10_1.size:Int) then (some t200) else (some false)) else (some false)) else (some false)) else (some false)) else (some false))) else (some false)))=some r:=H
    have A57:=qah.mk A570
    clear A570
    replace H:=Option.bind_eq_some_iff.mp H
    obtain⟨t200,A580,H⟩:=H
    replace H:(if t175=true then (if t182.toList=([]:List UInt8) then (some false) else (if t189=0 then (if t188=(t182.size:Int) then (if t191=true then (if t198=0 then (if t197=(x10_1.size:Int) then (some t200) else (some false)) else (some false)) else (some false)) else (some false)) else (some false))) else (some false))=some r:=H
    have A58:=qah.mk A580
    clear A580
    by_cases c59:t175=true
    ·subst c59
     have H1:(if t182.toList=([]:List UInt8) then (some false) else (if t189=0 then (if t188=(t182.size:Int) then (if t191=true then (if t198=0 then (if t197=(x10_1.size:Int) then (some t200) else (some false)) else (some false)) else (some false)) else (some false)) else (some false)))=some r:=by rw [if_pos rfl] at H;exact H
     clear H
     have H:=H1
     clear H1
     by_cases c60:t182.toList=([]:List UInt8)
     ·rw [if_pos c60] at H
      have c60b0:(t182.toList == ([]:List UInt8))=true:=beq_iff_eq.mpr c60
      have c60b1:(t182.toList != ([]:List UInt8))=false:=bne_eq_false_iff_eq.mpr c60
      clear c60
      obtain rfl:=Option.some.inj H
      go_wp2_with (first|((with_reducible refine qax (f:=12) rfl ?_);refine qaO (some 63) rfl rfl Tryd.func12 (by kernel_rfl) rfl #[.string x10_1] rfl (by (try simp only [List.map_toArray,List.map_cons,List.map_nil]);first|done|rfl|(simp only [List.length_drop,List.length_take];rfl)) ?_;(with_reducible refine (parse_Parse.calls x10_1 t192 t193 t194 t197 t198 _ A57.out (Tabs.below HT.out (by repeat (first|(with_reducible first|exact HB.out|apply qai|apply qag|apply qaj|refine qac ?_ GE174.out|refine qac ?_ GE181.out|refine qac ?_ GE190.out)|exact HB.out)))).mono ?_);rintro e w61 ⟨v195,rfl,ho0,hb⟩;refine⟨_,rfl,?_⟩;have n0_:=qah.mk (Kd.N_elder' (by (with_reducible repeat (first|apply Kd.N_alloc|apply Kd.N_drewN|apply Kd.N_drew));exact HO_182002.out) (Kd.S_base ho0) hb);have n1_:=qah.mk (Kd.N_elder' (by (with_reducible repeat (first|apply Kd.N_alloc|apply Kd.N_drewN|apply Kd.N_drew));exact HO_191002.out) (Kd.S_base ho0) hb);have n2_:=qah.mk (Kd.N_lower (Kd.N_mono (ok':=fun k_=>some k_≠(.slice Ao14 t178.length co14:Value).ownBlock∧some k_≠(.slice Ao21 t185.length co21:Value).ownBlock∧k_≠gb174∧k_≠gb181∧k_≠gb190) (Kd.S_N (Kd.S_bound ho0)) (fun k_ hk_=>⟨(Kd.fresh' (Kd.N_lt (by (with_reducible repeat (first|apply Kd.N_alloc|apply Kd.N_drewN|apply Kd.N_drew));exact HO_182002.out)) k_ hk_.2.1),(Kd.fresh' (Kd.N_lt (by (with_reducible repeat (first|apply Kd.N_alloc|apply Kd.N_drewN|apply Kd.N_drew));exact HO_191002.out)) k_ hk_.2.1),(Kd.freshB (g:=gb174) (o:=.cells #[.int .i64 a0_0,.int .i64 a0_1,.slice A0_2 l0_2.length c0_2] 24 (0,0)) (by (with_reducible repeat (first|refine qab ?_ _|refine qae ?_|refine qaa ?_ _));exact BK174.out) k_ hk_.2.1),(Kd.freshB (g:=gb181) (o:=.cells #[.int .i64 t176,.int .i64 t177,.slice Ao14 t178.length co14] 32 (0,0)) (by (with_reducible repeat (first|refine qab ?_ _|refine qae ?_|refine qaa ?_ _));exact BK181.out) k_ hk_.2.1),(Kd.freshB (g:=gb190) (o:=.cells #[.int .i64 t183,.int .i64 t184,.slice Ao21 t185.length co21] 32 (0,0)) (by (with_reducible repeat (first|refine qab ?_ _|refine qae ?_|refine qaa ?_ _));exact BK190.out) k_ hk_.2.1)⟩)) (qal (by repeat (first|(with_reducible first|exact HB.out|apply qai|apply qag|apply qaj|refine qac ?_ GE174.out|refine qac ?_ GE181.out|refine qac ?_ GE190.out)|exact HB.out))));have n3_:=qah.mk (qak (g:=gb174) (o:=.cells #[.int .i64 a0_0,.int .i64 a0_1,.slice A0_2 l0_2.length c0_2] 24 (0,0)) (by (with_reducible repeat (first|refine qab ?_ _|refine qae ?_|refine qaa ?_ _));exact BK174.out) hb);have n4_:=qah.mk (qak (g:=gb181) (o:=.cells #[.int .i64 t176,.int .i64 t177,.slice Ao14 t178.length co14] 32 (0,0)) (by (with_reducible repeat (first|refine qab ?_ _|refine qae ?_|refine qaa ?_ _));exact BK181.out) hb);have n5_:=qah.mk (qak (g:=gb190) (o:=.cells #[.int .i64 t183,.int .i64 t184,.slice Ao21 t185.length co21] 32 (0,0)) (by (with_reducible repeat (first|refine qab ?_ _|refine qae ?_|refine qaa ?_ _));exact BK190.out) hb);have n6_:=qah.mk (qan (by repeat (first|(with_reducible first|exact HB.out|apply qai|apply qag|apply qaj|refine qac ?_ GE174.out|refine qac ?_ GE181.out|refine qac ?_ GE190.out)|exact HB.out)) hb);clear HO_182002;clear HO_191002;clear BK174;clear BK181;clear BK190;clear HB;have HO_182002:=n0_;have HO_191002:=n1_;have HO196:=n2_;have BK174:=n3_;have BK181:=n4_;have BK190:=n5_;have HB:=n6_;clear n0_ n1_ n2_ n3_ n4_ n5_ n6_;(try clear hb);(try clear hb2);(try clear hk);(try clear hi);(try clear ho0))|((with_reducible refine qaA (N:=12) rfl ?_);(try (refine qaD (by rfl) ?_;dsimp only));refine qaz ?hg (N:=12) ?hd (cs:=#[.int .i64 0,.int .i64 0,.slice none 0 0]) (t:=32) ?hr ?_;(case hd=>rfl);(case hg=>rfl);(case hr=>first|(go_simp;done)|(go_simp;rfl));intro gb199 hg w62 hbox hb;have n0_:=qah.mk (Kd.N_below (Kd.N_elderB (by (with_reducible repeat (first|apply Kd.N_alloc|apply Kd.N_drewN|apply Kd.N_drew));exact HO_182002.out) gb199 (Nat.le_of_eq hg.symm)) hb);have n1_:=qah.mk (Kd.N_below (Kd.N_elderB (by (with_reducible repeat (first|apply Kd.N_alloc|apply Kd.N_drewN|apply Kd.N_drew));exact HO_191002.out) gb199 (Nat.le_of_eq hg.symm)) hb);have n2_:=qah.mk (Kd.N_below (Kd.N_elderB (by (with_reducible repeat (first|apply Kd.N_alloc|apply Kd.N_drewN|apply Kd.N_drew));exact HO196.out) gb199 (Nat.le_of_eq hg.symm)) hb);have n3_:=qah.mk (qak (g:=gb174) (o:=.cells #[.int .i64 a0_0,.int .i64 a0_1,.slice A0_2 l0_2.length c0_2] 24 (0,0)) (by (with_reducible repeat (first|refine qab ?_ _|refine qae ?_|refine qaa ?_ _));exact BK174.out) hb);have n4_:=qah.mk (qak (g:=gb181) (o:=.cells #[.int .i64 t176,.int .i64 t177,.slice Ao14 t178.length co14] 32 (0,0)) (by (with_reducible repeat (first|refine qab ?_ _|refine qae ?_|refine qaa ?_ _));exact BK181.out) hb);have n5_:=qah.mk (qak (g:=gb190) (o:=.cells #[.int .i64 t183,.int .i64 t184,.slice Ao21 t185.length co21] 32 (0,0)) (by (with_reducible repeat (first|refine qab ?_ _|refine qae ?_|refine qaa ?_ _));exact BK190.out) hb);have n6_:=qah.mk (qan (by repeat (first|(with_reducible first|exact HB.out|apply qai|apply qag|apply qaj|refine qac ?_ GE174.out|refine qac ?_ GE181.out|refine qac ?_ GE190.out)|exact HB.out)) hb);have n7_:=qah.mk (hbox);have n8_:=qah.mk ((by rw [hg];exact (qal (by repeat (first|(with_reducible first|exact HB.out|apply qai|apply qag|apply qaj|refine qac ?_ GE174.out|refine qac ?_ GE181.out|refine qac ?_ GE190.out)|exact HB.out))):w.heap.size≤gb199));have n9_:=qah.mk ((by rw [hg];exact (qal (by repeat (first|(with_reducible first|exact HB.out|apply qai|apply qag|apply qaj|refine qac ?_ GE174.out|refine qac ?_ GE181.out|refine qac ?_ GE190.out)|exact HB.out))):w.heap.size≤gb199));have n10_:=qah.mk ((by rw [hg];exact Nat.ne_of_lt (qau (g:=gb174) (o:=.cells #[.int .i64 a0_0,.int .i64 a0_1,.slice A0_2 l0_2.length c0_2] 24 (0,0)) (by (with_reducible repeat (first|refine qab ?_ _|refine qae ?_|refine qaa ?_ _));exact BK174.out)):gb174≠gb199));have n11_:=qah.mk ((by rw [hg];exact Nat.ne_of_gt (qau (g:=gb174) (o:=.cells #[.int .i64 a0_0,.int .i64 a0_1,.slice A0_2 l0_2.length c0_2] 24 (0,0)) (by (with_reducible repeat (first|refine qab ?_ _|refine qae ?_|refine qaa ?_ _));exact BK174.out)):gb199≠gb174));have n12_:=qah.mk ((by rw [hg];exact Nat.ne_of_lt (qau (g:=gb181) (o:=.cells #[.int .i64 t176,.int .i64 t177,.slice Ao14 t178.length co14] 32 (0,0)) (by (with_reducible repeat (first|refine qab ?_ _|refine qae ?_|refine qaa ?_ _));exact BK181.out)):gb181≠gb199));have n13_:=qah.mk ((by rw [hg];exact Nat.ne_of_gt (qau (g:=gb181) (o:=.cells #[.int .i64 t176,.int .i64 t177,.slice Ao14 t178.length co14] 32 (0,0)) (by (with_reducible repeat (first|refine qab ?_ _|refine qae ?_|refine qaa ?_ _));exact BK181.out)):gb199≠gb181));have n14_:=qah.mk ((by rw [hg];exact Nat.ne_of_lt (qau (g:=gb190) (o:=.cells #[.int .i64 t183,.int .i64 t184,.slice Ao21 t185.length co21] 32 (0,0)) (by (with_reducible repeat (first|refine qab ?_ _|refine qae ?_|refine qaa ?_ _));exact BK190.out)):gb190≠gb199));have n15_:=qah.mk ((by rw [hg];exact Nat.ne_of_gt (qau (g:=gb190) (o:=.cells #[.int .i64 t183,.int .i64 t184,.slice Ao21 t185.length co21] 32 (0,0)) (by (with_reducible repeat (first|refine qab ?_ _|refine qae ?_|refine qaa ?_ _));exact BK190.out)):gb199≠gb190));clear HO_182002;clear HO_191002;clear HO196;clear BK174;clear BK181;clear BK190;clear HB;have HO_182002:=n0_;have HO_191002:=n1_;have HO196:=n2_;have BK174:=n3_;have BK181:=n4_;have BK190:=n5_;have HB:=n6_;have BK199:=n7_;have GW199:=n8_;have GE199:=n9_;have NB174_199:=n10_;have NB199_174:=n11_;have NB181_199:=n12_;have NB199_181:=n13_;have NB190_199:=n14_;have NB199_190:=n15_;clear n0_ n1_ n2_ n3_ n4_ n5_ n6_ n7_ n8_ n9_ n10_ n11_ n12_ n13_ n14_ n15_;clear hb hbox hg;have hnb63:=NB199_174.out;have hnc63:=NB174_199.out;have hnb64:=NB199_181.out;have hnc64:=NB181_199.out;have hnb65:=NB199_190.out;have hnc65:=NB190_199.out;have hcz66_0:w62.cell? ⟨gb199,0,none⟩=some (.int .i64 0):=(qaf BK199.out 0).trans rfl;have hcz66_1:w62.cell? ⟨gb199,1,none⟩=some (.int .i64 0):=(qaf BK199.out 1).trans rfl;have hcz66_2:w62.cell? ⟨gb199,2,none⟩=some (.slice none 0 0):=(qaf BK199.out 2).trans rfl;have hfz66_0:=qad BK199.out 0;have hfz66_1:=qad BK199.out 1;have hfz66_2:=qad BK199.out 2;obtain⟨Ao67,co67,eo67⟩:=Kd.N_slice HO196.out;subst eo67;have hnb68:=NB181_174.out;have hnc68:=NB174_181.out;have hnb69:=NB181_190.out;have hnc69:=NB190_181.out;have hcz70_0:w62.cell? ⟨gb181,0,none⟩=some (.int .i64 t176):=(qaf BK181.out 0).trans rfl;have hcz70_1:w62.cell? ⟨gb181,1,none⟩=some (.int .i64 t177):=(qaf BK181.out 1).trans rfl;have hcz70_2:w62.cell? ⟨gb181,2,none⟩=some (.slice Ao14 t178.length co14):=(qaf BK181.out 2).trans rfl;have hfz70_0:=qad BK181.out 0;have hfz70_1:=qad BK181.out 1;have hfz70_2:=qad BK181.out 2)|((with_reducible refine qax (f:=14) rfl ?_);refine qaO (some 69) rfl rfl Tryd.func14 (by kernel_rfl) rfl #[.agg #[.int .i64 t192,.int .i64 t193,.slice Ao67 t194.length co67],.agg #[.int .i64 t176,.int .i64 t177,.slice Ao14 t178.length co14]] rfl (by (try simp only [List.map_toArray,List.map_cons,List.map_nil]);first|done|rfl|(simp only [List.length_drop,List.length_take];rfl)) ?_;(with_reducible refine (ostinatoref05_Same.calls k1 t192 t193 _ _ t194 t176 t177 _ _ t178 t200 _ ?side1 ?side2 ?side3 ?side4 A58.out).mono ?_);(case side1=>refine (Kd.N_reads' (e:=52) (base:=w.heap.size) (ok:=fun k_=>((some k_≠(.slice Ao14 t178.length co14:Value).ownBlock∧(some k_≠(.slice Ao21 t185.length co21:Value).ownBlock∧(k_≠gb174∧(k_≠gb181∧k_≠gb190))))∧k_≠gb199)) (n:=t194.length) (c:=co67) ?_).2.2;exact (by (with_reducible repeat (first|apply Kd.N_alloc|apply Kd.N_drewN|apply Kd.N_drew));exact (Kd.N_mono (Kd.N_far (p:=⟨gb199,2,none⟩) (Kd.N_far (p:=⟨gb199,1,none⟩) (Kd.N_far (p:=⟨gb199,0,none⟩) (Kd.N_mono HO196.out (fun k_ hk=>(⟨hk,hk.2⟩:_∧k_≠gb199))) (fun _ hk=>hk.2) (.int .i64 t192)) (fun _ hk=>hk.2) (.int .i64 t193)) (fun _ hk=>hk.2) (.slice Ao67 t194.length co67)) (fun _ h_=>h_.1))));(case side2=>exact (Kd.N_reads' HO196.out).2.1);(case side3=>refine (Kd.N_reads' (e:=52) (base:=w.heap.size) (ok:=fun k_=>(((some k_≠(.slice Ao21 t185.length co21:Value).ownBlock∧(k_≠gb174∧(k_≠gb181∧k_≠gb190)))∧some k_≠(.slice Ao67 t194.length co67:Value).ownBlock)∧k_≠gb199)) (n:=t178.length) (c:=co14) ?_).2.2;exact (by (with_reducible repeat (first|apply Kd.N_alloc|apply Kd.N_drewN|apply Kd.N_drew));exact (Kd.N_mono (Kd.N_far (p:=⟨gb199,2,none⟩) (Kd.N_far (p:=⟨gb199,1,none⟩) (Kd.N_far (p:=⟨gb199,0,none⟩) (Kd.N_mono HO_182002.out (fun k_ hk=>(⟨hk,hk.2⟩:_∧k_≠gb199))) (fun _ hk=>hk.2) (.int .i64 t192)) (fun _ hk=>hk.2) (.int .i64 t193)) (fun _ hk=>hk.2) (.slice Ao67 t194.length co67)) (fun _ h_=>h_.1))));(case side4=>exact (Kd.N_reads' HO_182002.out).2.1);rintro e w71 ⟨rfl,hb⟩;refine⟨_,rfl,?_⟩;have n0_:=qah.mk (Kd.N_below (by (with_reducible repeat (first|apply Kd.N_alloc|apply Kd.N_drewN|apply Kd.N_drew));exact (Kd.N_mono (Kd.N_far (p:=⟨gb199,2,none⟩) (Kd.N_far (p:=⟨gb199,1,none⟩) (Kd.N_far (p:=⟨gb199,0,none⟩) (Kd.N_mono HO_182002.out (fun k_ hk=>(⟨hk,hk.2⟩:_∧k_≠gb199))) (fun _ hk=>hk.2) (.int .i64 t192)) (fun _ hk=>hk.2) (.int .i64 t193)) (fun _ hk=>hk.2) (.slice Ao67 t194.length co67)) (fun _ h_=>h_.1))) hb);have n1_:=qah.mk (Kd.N_below (by (with_reducible repeat (first|apply Kd.N_alloc|apply Kd.N_drewN|apply Kd.N_drew));exact (Kd.N_mono (Kd.N_far (p:=⟨gb199,2,none⟩) (Kd.N_far (p:=⟨gb199,1,none⟩) (Kd.N_far (p:=⟨gb199,0,none⟩) (Kd.N_mono HO_191002.out (fun k_ hk=>(⟨hk,hk.2⟩:_∧k_≠gb199))) (fun _ hk=>hk.2) (.int .i64 t192)) (fun _ hk=>hk.2) (.int .i64 t193)) (fun _ hk=>hk.2) (.slice Ao67 t194.length co67)) (fun _ h_=>h_.1))) hb);have n2_:=qah.mk (Kd.N_below (by (with_reducible repeat (first|apply Kd.N_alloc|apply Kd.N_drewN|apply Kd.N_drew));exact (Kd.N_mono (Kd.N_far (p:=⟨gb199,2,none⟩) (Kd.N_far (p:=⟨gb199,1,none⟩) (Kd.N_far (p:=⟨gb199,0,none⟩) (Kd.N_mono HO196.out (fun k_ hk=>(⟨hk,hk.2⟩:_∧k_≠gb199))) (fun _ hk=>hk.2) (.int .i64 t192)) (fun _ hk=>hk.2) (.int .i64 t193)) (fun _ hk=>hk.2) (.slice Ao67 t194.length co67)) (fun _ h_=>h_.1))) hb);have n3_:=qah.mk (qak (g:=gb174) (o:=.cells #[.int .i64 a0_0,.int .i64 a0_1,.slice A0_2 l0_2.length c0_2] 24 (0,0)) (by (with_reducible repeat (first|refine qab ?_ _|refine qae ?_|refine qaa ?_ _));refine qam ?_ NB174_199.out _;(with_reducible repeat (first|refine qab ?_ _|refine qae ?_|refine qaa ?_ _));refine qam ?_ NB174_199.out _;(with_reducible repeat (first|refine qab ?_ _|refine qae ?_|refine qaa ?_ _));refine qam ?_ NB174_199.out _;(with_reducible repeat (first|refine qab ?_ _|refine qae ?_|refine qaa ?_ _));exact BK174.out) hb);have n4_:=qah.mk (qak (g:=gb181) (o:=.cells #[.int .i64 t176,.int .i64 t177,.slice Ao14 t178.length co14] 32 (0,0)) (by (with_reducible repeat (first|refine qab ?_ _|refine qae ?_|refine qaa ?_ _));refine qam ?_ NB181_199.out _;(with_reducible repeat (first|refine qab ?_ _|refine qae ?_|refine qaa ?_ _));refine qam ?_ NB181_199.out _;(with_reducible repeat (first|refine qab ?_ _|refine qae ?_|refine qaa ?_ _));refine qam ?_ NB181_199.out _;(with_reducible repeat (first|refine qab ?_ _|refine qae ?_|refine qaa ?_ _));exact BK181.out) hb);have n5_:=qah.mk (qak (g:=gb190) (o:=.cells #[.int .i64 t183,.int .i64 t184,.slice Ao21 t185.length co21] 32 (0,0)) (by (with_reducible repeat (first|refine qab ?_ _|refine qae ?_|refine qaa ?_ _));refine qam ?_ NB190_199.out _;(with_reducible repeat (first|refine qab ?_ _|refine qae ?_|refine qaa ?_ _));refine qam ?_ NB190_199.out _;(with_reducible repeat (first|refine qab ?_ _|refine qae ?_|refine qaa ?_ _));refine qam ?_ NB190_199.out _;(with_reducible repeat (first|refine qab ?_ _|refine qae ?_|refine qaa ?_ _));exact BK190.out) hb);have n6_:=qah.mk (qak (g:=gb199) (o:=.cells #[.int .i64 t192,.int .i64 t193,.slice Ao67 t194.length co67] 32 (0,0)) (by (with_reducible repeat (first|refine qab ?_ _|refine qae ?_|refine qaa ?_ _));refine qaq (cs:=#[.int .i64 t192,.int .i64 t193,.slice none 0 0]) ?_ 2 _ rfl;(with_reducible repeat (first|refine qab ?_ _|refine qae ?_|refine qaa ?_ _));refine qaq (cs:=#[.int .i64 t192,.int .i64 0,.slice none 0 0]) ?_ 1 _ rfl;(with_reducible repeat (first|refine qab ?_ _|refine qae ?_|refine qaa ?_ _));refine qaq (cs:=#[.int .i64 0,.int .i64 0,.slice none 0 0]) ?_ 0 _ rfl;(with_reducible repeat (first|refine qab ?_ _|refine qae ?_|refine qaa ?_ _));exact BK199.out) hb);have n7_:=qah.mk (qan (by repeat (first|(with_reducible first|exact HB.out|apply qai|apply qag|apply qaj|refine qac ?_ GE174.out|refine qac ?_ GE181.out|refine qac ?_ GE190.out|refine qac ?_ GE199.out)|exact HB.out)) hb);clear HO_182002;clear HO_191002;clear HO196;clear BK174;clear BK181;clear BK190;clear BK199;clear HB;have HO_182002:=n0_;have HO_191002:=n1_;have HO196:=n2_;have BK174:=n3_;have BK181:=n4_;have BK190:=n5_;have BK199:=n6_;have HB:=n7_;clear n0_ n1_ n2_ n3_ n4_ n5_ n6_ n7_;(try clear hb);(try clear hb2);(try clear hk);(try clear hi)))
      go_ret
      exact⟨by first|rfl|(simp [qat,qas]<;>rfl)|(simp [bneNil,bneNilU]<;>rfl)|(simp [*,qat,qas]<;>rfl),by repeat (first|(with_reducible first|exact HB.out|apply qai|apply qag|apply qaj|refine qac ?_ GE174.out|refine qac ?_ GE181.out|refine qac ?_ GE190.out|refine qac ?_ GE199.out)|exact HB.out)⟩
     ·rw [if_neg c60] at H
      have c60b0:(t182.toList == ([]:List UInt8))=false:=beq_eq_false_iff_ne.mpr c60
      have c60b1:(t182.toList != ([]:List UInt8))=true:=bne_iff_ne.mpr c60
      by_cases c72:t189=0
      ·rw [if_pos c72] at H
       have c72b0:(t189 == 0)=true:=beq_iff_eq.mpr c72
       have c72b1:(t189 != 0)=false:=bne_eq_false_iff_eq.mpr c72
       clear c72
       by_cases c73:t188=(t182.size:Int)
       ·rw [if_pos c73] at H
        have c73b0:(t188 == (t182.size:Int))=true:=beq_iff_eq.mpr c73
        have c73b1:(t188 != (t182.size:Int))=false:=bne_eq_false_iff_eq.mpr c73
        clear c73
        by_cases c74:t191=true
        ·subst c74
         have H1:(if t198=0 then (if t197=(x10_1.size:Int) then (some t200) else (some false)) else (some false))=some r:=by rw [if_pos rfl] at H;exact H
         clear H
         have H:=H1
         clear H1
         by_cases c75:t198=0
         ·rw [if_pos c75] at H
          have c75b0:(t198 == 0)=true:=beq_iff_eq.mpr c75
          have c75b1:(t198 != 0)=false:=bne_eq_false_iff_eq.mpr c75
          clear c75
          by_cases c76:t197=(x10_1.size:Int)
          ·rw [if_pos c76] at H
           have c76b0:(t197 == (x10_1.size:Int))=true:=beq_iff_eq.mpr c76
           have c76b1:(t197 != (x10_1.size:Int))=false:=bne_eq_false_iff_eq.mpr c76
           clear c76
           obtain rfl:=Option.some.inj H
           go_wp2_with (first|((with_reducible refine qax (f:=12) rfl ?_);refine qaO (some 63) rfl rfl Tryd.func12 (by kernel_rfl) rfl #[.string x10_1] rfl (by (try simp only [List.map_toArray,List.map_cons,List.map_nil]);first|done|rfl|(simp only [List.length_drop,List.length_take];rfl)) ?_;(with_reducible refine (parse_Parse.calls x10_1 t192 t193 t194 t197 t198 _ A57.out (Tabs.below HT.out (by repeat (first|(with_reducible first|exact HB.out|apply qai|apply qag|apply qaj|refine qac ?_ GE174.out|refine qac ?_ GE181.out|refine qac ?_ GE190.out)|exact HB.out)))).mono ?_);rintro e w77 ⟨v195,rfl,ho0,hb⟩;refine⟨_,rfl,?_⟩;have n0_:=qah.mk (Kd.N_elder' (by (with_reducible repeat (first|apply Kd.N_alloc|apply Kd.N_drewN|apply Kd.N_drew));exact HO_182002.out) (Kd.S_base ho0) hb);have n1_:=qah.mk (Kd.N_elder' (by (with_reducible repeat (first|apply Kd.N_alloc|apply Kd.N_drewN|apply Kd.N_drew));exact HO_191002.out) (Kd.S_base ho0) hb);have n2_:=qah.mk (Kd.N_lower (Kd.N_mono (ok':=fun k_=>some k_≠(.slice Ao14 t178.length co14:Value).ownBlock∧some k_≠(.slice Ao21 t185.length co21:Value).ownBlock∧k_≠gb174∧k_≠gb181∧k_≠gb190) (Kd.S_N (Kd.S_bound ho0)) (fun k_ hk_=>⟨(Kd.fresh' (Kd.N_lt (by (with_reducible repeat (first|apply Kd.N_alloc|apply Kd.N_drewN|apply Kd.N_drew));exact HO_182002.out)) k_ hk_.2.1),(Kd.fresh' (Kd.N_lt (by (with_reducible repeat (first|apply Kd.N_alloc|apply Kd.N_drewN|apply Kd.N_drew));exact HO_191002.out)) k_ hk_.2.1),(Kd.freshB (g:=gb174) (o:=.cells #[.int .i64 a0_0,.int .i64 a0_1,.slice A0_2 l0_2.length c0_2] 24 (0,0)) (by (with_reducible repeat (first|refine qab ?_ _|refine qae ?_|refine qaa ?_ _));exact BK174.out) k_ hk_.2.1),(Kd.freshB (g:=gb181) (o:=.cells #[.int .i64 t176,.int .i64 t177,.slice Ao14 t178.length co14] 32 (0,0)) (by (with_reducible repeat (first|refine qab ?_ _|refine qae ?_|refine qaa ?_ _));exact BK181.out) k_ hk_.2.1),(Kd.freshB (g:=gb190) (o:=.cells #[.int .i64 t183,.int .i64 t184,.slice Ao21 t185.length co21] 32 (0,0)) (by (with_reducible repeat (first|refine qab ?_ _|refine qae ?_|refine qaa ?_ _));exact BK190.out) k_ hk_.2.1)⟩)) (qal (by repeat (first|(with_reducible first|exact HB.out|apply qai|apply qag|apply qaj|refine qac ?_ GE174.out|refine qac ?_ GE181.out|refine qac ?_ GE190.out)|exact HB.out))));have n3_:=qah.mk (qak (g:=gb174) (o:=.cells #[.int .i64 a0_0,.int .i64 a0_1,.slice A0_2 l0_2.length c0_2] 24 (0,0)) (by (with_reducible repeat (first|refine qab ?_ _|refine qae ?_|refine qaa ?_ _));exact BK174.out) hb);have n4_:=qah.mk (qak (g:=gb181) (o:=.cells #[.int .i64 t176,.int .i64 t177,.slice Ao14 t178.length co14] 32 (0,0)) (by (with_reducible repeat (first|refine qab ?_ _|refine qae ?_|refine qaa ?_ _));exact BK181.out) hb);have n5_:=qah.mk (qak (g:=gb190) (o:=.cells #[.int .i64 t183,.int .i64 t184,.slice Ao21 t185.length co21] 32 (0,0)) (by (with_reducible repeat (first|refine qab ?_ _|refine qae ?_|refine qaa ?_ _));exact BK190.out) hb);have n6_:=qah.mk (qan (by repeat (first|(with_reducible first|exact HB.out|apply qai|apply qag|apply qaj|refine qac ?_ GE174.out|refine qac ?_ GE181.out|refine qac ?_ GE190.out)|exact HB.out)) hb);clear HO_182002;clear HO_191002;clear BK174;clear BK181;clear BK190;clear HB;have HO_182002:=n0_;have HO_191002:=n1_;have HO196:=n2_;have BK174:=n3_;have BK181:=n4_;have BK190:=n5_;have HB:=n6_;clear n0_ n1_ n2_ n3_ n4_ n5_ n6_;(try clear hb);(try clear hb2);(try clear hk);(try clear hi);(try clear ho0))|((with_reducible refine qaA (N:=12) rfl ?_);(try (refine qaD (by rfl) ?_;dsimp only));refine qaz ?hg (N:=12) ?hd (cs:=#[.int .i64 0,.int .i64 0,.slice none 0 0]) (t:=32) ?hr ?_;(case hd=>rfl);(case hg=>rfl);(case hr=>first|(go_simp;done)|(go_simp;rfl));intro gb199 hg w78 hbox hb;have n0_:=qah.mk (Kd.N_below (Kd.N_elderB (by (with_reducible repeat (first|apply Kd.N_alloc|apply Kd.N_drewN|apply Kd.N_drew));exact HO_182002.out) gb199 (Nat.le_of_eq hg.symm)) hb);have n1_:=qah.mk (Kd.N_below (Kd.N_elderB (by (with_reducible repeat (first|apply Kd.N_alloc|apply Kd.N_drewN|apply Kd.N_drew));exact HO_191002.out) gb199 (Nat.le_of_eq hg.symm)) hb);have n2_:=qah.mk (Kd.N_below (Kd.N_elderB (by (with_reducible repeat (first|apply Kd.N_alloc|apply Kd.N_drewN|apply Kd.N_drew));exact HO196.out) gb199 (Nat.le_of_eq hg.symm)) hb);have n3_:=qah.mk (qak (g:=gb174) (o:=.cells #[.int .i64 a0_0,.int .i64 a0_1,.slice A0_2 l0_2.length c0_2] 24 (0,0)) (by (with_reducible repeat (first|refine qab ?_ _|refine qae ?_|refine qaa ?_ _));exact BK174.out) hb);have n4_:=qah.mk (qak (g:=gb181) (o:=.cells #[.int .i64 t176,.int .i64 t177,.slice Ao14 t178.length co14] 32 (0,0)) (by (with_reducible repeat (first|refine qab ?_ _|refine qae ?_|refine qaa ?_ _));exact BK181.out) hb);have n5_:=qah.mk (qak (g:=gb190) (o:=.cells #[.int .i64 t183,.int .i64 t184,.slice Ao21 t185.length co21] 32 (0,0)) (by (with_reducible repeat (first|refine qab ?_ _|refine qae ?_|refine qaa ?_ _));exact BK190.out) hb);have n6_:=qah.mk (qan (by repeat (first|(with_reducible first|exact HB.out|apply qai|apply qag|apply qaj|refine qac ?_ GE174.out|refine qac ?_ GE181.out|refine qac ?_ GE190.out)|exact HB.out)) hb);have n7_:=qah.mk (hbox);have n8_:=qah.mk ((by rw [hg];exact (qal (by repeat (first|(with_reducible first|exact HB.out|apply qai|apply qag|apply qaj|refine qac ?_ GE174.out|refine qac ?_ GE181.out|refine qac ?_ GE190.out)|exact HB.out))):w.heap.size≤gb199));have n9_:=qah.mk ((by rw [hg];exact (qal (by repeat (first|(with_reducible first|exact HB.out|apply qai|apply qag|apply qaj|refine qac ?_ GE174.out|refine qac ?_ GE181.out|refine qac ?_ GE190.out)|exact HB.out))):w.heap.size≤gb199));have n10_:=qah.mk ((by rw [hg];exact Nat.ne_of_lt (qau (g:=gb174) (o:=.cells #[.int .i64 a0_0,.int .i64 a0_1,.slice A0_2 l0_2.length c0_2] 24 (0,0)) (by (with_reducible repeat (first|refine qab ?_ _|refine qae ?_|refine qaa ?_ _));exact BK174.out)):gb174≠gb199));have n11_:=qah.mk ((by rw [hg];exact Nat.ne_of_gt (qau (g:=gb174) (o:=.cells #[.int .i64 a0_0,.int .i64 a0_1,.slice A0_2 l0_2.length c0_2] 24 (0,0)) (by (with_reducible repeat (first|refine qab ?_ _|refine qae ?_|refine qaa ?_ _));exact BK174.out)):gb199≠gb174));have n12_:=qah.mk ((by rw [hg];exact Nat.ne_of_lt (qau (g:=gb181) (o:=.cells #[.int .i64 t176,.int .i64 t177,.slice Ao14 t178.length co14] 32 (0,0)) (by (with_reducible repeat (first|refine qab ?_ _|refine qae ?_|refine qaa ?_ _));exact BK181.out)):gb181≠gb199));have n13_:=qah.mk ((by rw [hg];exact Nat.ne_of_gt (qau (g:=gb181) (o:=.cells #[.int .i64 t176,.int .i64 t177,.slice Ao14 t178.length co14] 32 (0,0)) (by (with_reducible repeat (first|refine qab ?_ _|refine qae ?_|refine qaa ?_ _));exact BK181.out)):gb199≠gb181));have n14_:=qah.mk ((by rw [hg];exact Nat.ne_of_lt (qau (g:=gb190) (o:=.cells #[.int .i64 t183,.int .i64 t184,.slice Ao21 t185.length co21] 32 (0,0)) (by (with_reducible repeat (first|refine qab ?_ _|refine qae ?_|refine qaa ?_ _));exact BK190.out)):gb190≠gb199));have n15_:=qah.mk ((by rw [hg];exact Nat.ne_of_gt (qau (g:=gb190) (o:=.cells #[.int .i64 t183,.int .i64 t184,.slice Ao21 t185.length co21] 32 (0,0)) (by (with_reducible repeat (first|refine qab ?_ _|refine qae ?_|refine qaa ?_ _));exact BK190.out)):gb199≠gb190));clear HO_182002;clear HO_191002;clear HO196;clear BK174;clear BK181;clear BK190;clear HB;have HO_182002:=n0_;have HO_191002:=n1_;have HO196:=n2_;have BK174:=n3_;have BK181:=n4_;have BK190:=n5_;have HB:=n6_;have BK199:=n7_;have GW199:=n8_;have GE199:=n9_;have NB174_199:=n10_;have NB199_174:=n11_;have NB181_199:=n12_;have NB199_181:=n13_;have NB190_199:=n14_;have NB199_190:=n15_;clear n0_ n1_ n2_ n3_ n4_ n5_ n6_ n7_ n8_ n9_ n10_ n11_ n12_ n13_ n14_ n15_;clear hb hbox hg;have hnb79:=NB199_174.out;have hnc79:=NB174_199.out;have hnb80:=NB199_181.out;have hnc80:=NB181_199.out;have hnb81:=NB199_190.out;have hnc81:=NB190_199.out;have hcz82_0:w78.cell? ⟨gb199,0,none⟩=some (.int .i64 0):=(qaf BK199.out 0).trans rfl;have hcz82_1:w78.cell? ⟨gb199,1,none⟩=some (.int .i64 0):=(qaf BK199.out 1).trans rfl;have hcz82_2:w78.cell? ⟨gb199,2,none⟩=some (.slice none 0 0):=(qaf BK199.out 2).trans rfl;have hfz82_0:=qad BK199.out 0;have hfz82_1:=qad BK199.out 1;have hfz82_2:=qad BK199.out 2;obtain⟨Ao83,co83,eo83⟩:=Kd.N_slice HO196.out;subst eo83;have hnb84:=NB181_174.out;have hnc84:=NB174_181.out;have hnb85:=NB181_190.out;have hnc85:=NB190_181.out;have hcz86_0:w78.cell? ⟨gb181,0,none⟩=some (.int .i64 t176):=(qaf BK181.out 0).trans rfl;have hcz86_1:w78.cell? ⟨gb181,1,none⟩=some (.int .i64 t177):=(qaf BK181.out 1).trans rfl;have hcz86_2:w78.cell? ⟨gb181,2,none⟩=some (.slice Ao14 t178.length co14):=(qaf BK181.out 2).trans rfl;have hfz86_0:=qad BK181.out 0;have hfz86_1:=qad BK181.out 1;have hfz86_2:=qad BK181.out 2)|((with_reducible refine qax (f:=14) rfl ?_);refine qaO (some 69) rfl rfl Tryd.func14 (by kernel_rfl) rfl #[.agg #[.int .i64 t192,.int .i64 t193,.slice Ao83 t194.length co83],.agg #[.int .i64 t176,.int .i64 t177,.slice Ao14 t178.length co14]] rfl (by (try simp only [List.map_toArray,List.map_cons,List.map_nil]);first|done|rfl|(simp only [List.length_drop,List.length_take];rfl)) ?_;(with_reducible refine (ostinatoref05_Same.calls k1 t192 t193 _ _ t194 t176 t177 _ _ t178 t200 _ ?side1 ?side2 ?side3 ?side4 A58.out).mono ?_);(case side1=>refine (Kd.N_reads' (e:=52) (base:=w.heap.size) (ok:=fun k_=>((some k_≠(.slice Ao14 t178.length co14:Value).ownBlock∧(some k_≠(.slice Ao21 t185.length co21:Value).ownBlock∧(k_≠gb174∧(k_≠gb181∧k_≠gb190))))∧k_≠gb199)) (n:=t194.length) (c:=co83) ?_).2.2;exact (by (with_reducible repeat (first|apply Kd.N_alloc|apply Kd.N_drewN|apply Kd.N_drew));exact (Kd.N_mono (Kd.N_far (p:=⟨gb199,2,none⟩) (Kd.N_far (p:=⟨gb199,1,none⟩) (Kd.N_far (p:=⟨gb199,0,none⟩) (Kd.N_mono HO196.out (fun k_ hk=>(⟨hk,hk.2⟩:_∧k_≠gb199))) (fun _ hk=>hk.2) (.int .i64 t192)) (fun _ hk=>hk.2) (.int .i64 t193)) (fun _ hk=>hk.2) (.slice Ao83 t194.length co83)) (fun _ h_=>h_.1))));(case side2=>exact (Kd.N_reads' HO196.out).2.1);(case side3=>refine (Kd.N_reads' (e:=52) (base:=w.heap.size) (ok:=fun k_=>(((some k_≠(.slice Ao21 t185.length co21:Value).ownBlock∧(k_≠gb174∧(k_≠gb181∧k_≠gb190)))∧some k_≠(.slice Ao83 t194.length co83:Value).ownBlock)∧k_≠gb199)) (n:=t178.length) (c:=co14) ?_).2.2;exact (by (with_reducible repeat (first|apply Kd.N_alloc|apply Kd.N_drewN|apply Kd.N_drew));exact (Kd.N_mono (Kd.N_far (p:=⟨gb199,2,none⟩) (Kd.N_far (p:=⟨gb199,1,none⟩) (Kd.N_far (p:=⟨gb199,0,none⟩) (Kd.N_mono HO_182002.out (fun k_ hk=>(⟨hk,hk.2⟩:_∧k_≠gb199))) (fun _ hk=>hk.2) (.int .i64 t192)) (fun _ hk=>hk.2) (.int .i64 t193)) (fun _ hk=>hk.2) (.slice Ao83 t194.length co83)) (fun _ h_=>h_.1))));(case side4=>exact (Kd.N_reads' HO_182002.out).2.1);rintro e w87 ⟨rfl,hb⟩;refine⟨_,rfl,?_⟩;have n0_:=qah.mk (Kd.N_below (by (with_reducible repeat (first|apply Kd.N_alloc|apply Kd.N_drewN|apply Kd.N_drew));exact (Kd.N_mono (Kd.N_far (p:=⟨gb199,2,none⟩) (Kd.N_far (p:=⟨gb199,1,none⟩) (Kd.N_far (p:=⟨gb199,0,none⟩) (Kd.N_mono HO_182002.out (fun k_ hk=>(⟨hk,hk.2⟩:_∧k_≠gb199))) (fun _ hk=>hk.2) (.int .i64 t192)) (fun _ hk=>hk.2) (.int .i64 t193)) (fun _ hk=>hk.2) (.slice Ao83 t194.length co83)) (fun _ h_=>h_.1))) hb);have n1_:=qah.mk (Kd.N_below (by (with_reducible repeat (first|apply Kd.N_alloc|apply Kd.N_drewN|apply Kd.N_drew));exact (Kd.N_mono (Kd.N_far (p:=⟨gb199,2,none⟩) (Kd.N_far (p:=⟨gb199,1,none⟩) (Kd.N_far (p:=⟨gb199,0,none⟩) (Kd.N_mono HO_191002.out (fun k_ hk=>(⟨hk,hk.2⟩:_∧k_≠gb199))) (fun _ hk=>hk.2) (.int .i64 t192)) (fun _ hk=>hk.2) (.int .i64 t193)) (fun _ hk=>hk.2) (.slice Ao83 t194.length co83)) (fun _ h_=>h_.1))) hb);have n2_:=qah.mk (Kd.N_below (by (with_reducible repeat (first|apply Kd.N_alloc|apply Kd.N_drewN|apply Kd.N_drew));exact (Kd.N_mono (Kd.N_far (p:=⟨gb199,2,none⟩) (Kd.N_far (p:=⟨gb199,1,none⟩) (Kd.N_far (p:=⟨gb199,0,none⟩) (Kd.N_mono HO196.out (fun k_ hk=>(⟨hk,hk.2⟩:_∧k_≠gb199))) (fun _ hk=>hk.2) (.int .i64 t192)) (fun _ hk=>hk.2) (.int .i64 t193)) (fun _ hk=>hk.2) (.slice Ao83 t194.length co83)) (fun _ h_=>h_.1))) hb);have n3_:=qah.mk (qak (g:=gb174) (o:=.cells #[.int .i64 a0_0,.int .i64 a0_1,.slice A0_2 l0_2.length c0_2] 24 (0,0)) (by (with_reducible repeat (first|refine qab ?_ _|refine qae ?_|refine qaa ?_ _));refine qam ?_ NB174_199.out _;(with_reducible repeat (first|refine qab ?_ _|refine qae ?_|refine qaa ?_ _));refine qam ?_ NB174_199.out _;(with_reducible repeat (first|refine qab ?_ _|refine qae ?_|refine qaa ?_ _));refine qam ?_ NB174_199.out _;(with_reducible repeat (first|refine qab ?_ _|refine qae ?_|refine qaa ?_ _));exact BK174.out) hb);have n4_:=qah.mk (qak (g:=gb181) (o:=.cells #[.int .i64 t176,.int .i64 t177,.slice Ao14 t178.length co14] 32 (0,0)) (by (with_reducible repeat (first|refine qab ?_ _|refine qae ?_|refine qaa ?_ _));refine qam ?_ NB181_199.out _;(with_reducible repeat (first|refine qab ?_ _|refine qae ?_|refine qaa ?_ _));refine qam ?_ NB181_199.out _;(with_reducible repeat (first|refine qab ?_ _|refine qae ?_|refine qaa ?_ _));refine qam ?_ NB181_199.out _;(with_reducible repeat (first|refine qab ?_ _|refine qae ?_|refine qaa ?_ _));exact BK181.out) hb);have n5_:=qah.mk (qak (g:=gb190) (o:=.cells #[.int .i64 t183,.int .i64 t184,.slice Ao21 t185.length co21] 32 (0,0)) (by (with_reducible repeat (first|refine qab ?_ _|refine qae ?_|refine qaa ?_ _));refine qam ?_ NB190_199.out _;(with_reducible repeat (first|refine qab ?_ _|refine qae ?_|refine qaa ?_ _));refine qam ?_ NB190_199.out _;(with_reducible repeat (first|refine qab ?_ _|refine qae ?_|refine qaa ?_ _));refine qam ?_ NB190_199.out _;(with_reducible repeat (first|refine qab ?_ _|refine qae ?_|refine qaa ?_ _));exact BK190.out) hb);have n6_:=qah.mk (qak (g:=gb199) (o:=.cells #[.int .i64 t192,.int .i64 t193,.slice Ao83 t194.length co83] 32 (0,0)) (by (with_reducible repeat (first|refine qab ?_ _|refine qae ?_|refine qaa ?_ _));refine qaq (cs:=#[.int .i64 t192,.int .i64 t193,.slice none 0 0]) ?_ 2 _ rfl;(with_reducible repeat (first|refine qab ?_ _|refine qae ?_|refine qaa ?_ _));refine qaq (cs:=#[.int .i64 t192,.int .i64 0,.slice none 0 0]) ?_ 1 _ rfl;(with_reducible repeat (first|refine qab ?_ _|refine qae ?_|refine qaa ?_ _));refine qaq (cs:=#[.int .i64 0,.int .i64 0,.slice none 0 0]) ?_ 0 _ rfl;(with_reducible repeat (first|refine qab ?_ _|refine qae ?_|refine qaa ?_ _));exact BK199.out) hb);have n7_:=qah.mk (qan (by repeat (first|(with_reducible first|exact HB.out|apply qai|apply qag|apply qaj|refine qac ?_ GE174.out|refine qac ?_ GE181.out|refine qac ?_ GE190.out|refine qac ?_ GE199.out)|exact HB.out)) hb);clear HO_182002;clear HO_191002;clear HO196;clear BK174;clear BK181;clear BK190;clear BK199;clear HB;have HO_182002:=n0_;have HO_191002:=n1_;have HO196:=n2_;have BK174:=n3_;have BK181:=n4_;have BK190:=n5_;have BK199:=n6_;have HB:=n7_;clear n0_ n1_ n2_ n3_ n4_ n5_ n6_ n7_;(try clear hb);(try clear hb2);(try clear hk);(try clear hi)))
           go_ret
           exact⟨by first|rfl|(simp [qat,qas]<;>rfl)|(simp [bneNil,bneNilU]<;>rfl)|(simp [*,qat,qas]<;>rfl),by repeat (first|(with_reducible first|exact HB.out|apply qai|apply qag|apply qaj|refine qac ?_ GE174.out|refine qac ?_ GE181.out|refine qac ?_ GE190.out|refine qac ?_ GE199.out)|exact HB.out)⟩
          ·rw [if_neg c76] at H
           have c76b0:(t197 == (x10_1.size:Int))=false:=beq_eq_false_iff_ne.mpr c76
           have c76b1:(t197 != (x10_1.size:Int))=true:=bne_iff_ne.mpr c76
           obtain rfl:=Option.some.inj H
           go_wp2_with (first|((with_reducible refine qax (f:=12) rfl ?_);refine qaO (some 63) rfl rfl Tryd.func12 (by kernel_rfl) rfl #[.string x10_1] rfl (by (try simp only [List.map_toArray,List.map_cons,List.map_nil]);first|done|rfl|(simp only [List.length_drop,List.length_take];rfl)) ?_;(with_reducible refine (parse_Parse.calls x10_1 t192 t193 t194 t197 t198 _ A57.out (Tabs.below HT.out (by repeat (first|(with_reducible first|exact HB.out|apply qai|apply qag|apply qaj|refine qac ?_ GE174.out|refine qac ?_ GE181.out|refine qac ?_ GE190.out)|exact HB.out)))).mono ?_);rintro e w88 ⟨v195,rfl,ho0,hb⟩;refine⟨_,rfl,?_⟩;have n0_:=qah.mk (Kd.N_elder' (by (with_reducible repeat (first|apply Kd.N_alloc|apply Kd.N_drewN|apply Kd.N_drew));exact HO_182002.out) (Kd.S_base ho0) hb);have n1_:=qah.mk (Kd.N_elder' (by (with_reducible repeat (first|apply Kd.N_alloc|apply Kd.N_drewN|apply Kd.N_drew));exact HO_191002.out) (Kd.S_base ho0) hb);have n2_:=qah.mk (Kd.N_lower (Kd.N_mono (ok':=fun k_=>some k_≠(.slice Ao14 t178.length co14:Value).ownBlock∧some k_≠(.slice Ao21 t185.length co21:Value).ownBlock∧k_≠gb174∧k_≠gb181∧k_≠gb190) (Kd.S_N (Kd.S_bound ho0)) (fun k_ hk_=>⟨(Kd.fresh' (Kd.N_lt (by (with_reducible repeat (first|apply Kd.N_alloc|apply Kd.N_drewN|apply Kd.N_drew));exact HO_182002.out)) k_ hk_.2.1),(Kd.fresh' (Kd.N_lt (by (with_reducible repeat (first|apply Kd.N_alloc|apply Kd.N_drewN|apply Kd.N_drew));exact HO_191002.out)) k_ hk_.2.1),(Kd.freshB (g:=gb174) (o:=.cells #[.int .i64 a0_0,.int .i64 a0_1,.slice A0_2 l0_2.length c0_2] 24 (0,0)) (by (with_reducible repeat (first|refine qab ?_ _|refine qae ?_|refine qaa ?_ _));exact BK174.out) k_ hk_.2.1),(Kd.freshB (g:=gb181) (o:=.cells #[.int .i64 t176,.int .i64 t177,.slice Ao14 t178.length co14] 32 (0,0)) (by (with_reducible repeat (first|refine qab ?_ _|refine qae ?_|refine qaa ?_ _));exact BK181.out) k_ hk_.2.1),(Kd.freshB (g:=gb190) (o:=.cells #[.int .i64 t183,.int .i64 t184,.slice Ao21 t185.length co21] 32 (0,0)) (by (with_reducible repeat (first|refine qab ?_ _|refine qae ?_|refine qaa ?_ _));exact BK190.out) k_ hk_.2.1)⟩)) (qal (by repeat (first|(with_reducible first|exact HB.out|apply qai|apply qag|apply qaj|refine qac ?_ GE174.out|refine qac ?_ GE181.out|refine qac ?_ GE190.out)|exact HB.out))));have n3_:=qah.mk (qak (g:=gb174) (o:=.cells #[.int .i64 a0_0,.int .i64 a0_1,.slice A0_2 l0_2.length c0_2] 24 (0,0)) (by (with_reducible repeat (first|refine qab ?_ _|refine qae ?_|refine qaa ?_ _));exact BK174.out) hb);have n4_:=qah.mk (qak (g:=gb181) (o:=.cells #[.int .i64 t176,.int .i64 t177,.slice Ao14 t178.length co14] 32 (0,0)) (by (with_reducible repeat (first|refine qab ?_ _|refine qae ?_|refine qaa ?_ _));exact BK181.out) hb);have n5_:=qah.mk (qak (g:=gb190) (o:=.cells #[.int .i64 t183,.int .i64 t184,.slice Ao21 t185.length co21] 32 (0,0)) (by (with_reducible repeat (first|refine qab ?_ _|refine qae ?_|refine qaa ?_ _));exact BK190.out) hb);have n6_:=qah.mk (qan (by repeat (first|(with_reducible first|exact HB.out|apply qai|apply qag|apply qaj|refine qac ?_ GE174.out|refine qac ?_ GE181.out|refine qac ?_ GE190.out)|exact HB.out)) hb);clear HO_182002;clear HO_191002;clear BK174;clear BK181;clear BK190;clear HB;have HO_182002:=n0_;have HO_191002:=n1_;have HO196:=n2_;have BK174:=n3_;have BK181:=n4_;have BK190:=n5_;have HB:=n6_;clear n0_ n1_ n2_ n3_ n4_ n5_ n6_;(try clear hb);(try clear hb2);(try clear hk);(try clear hi);(try clear ho0))|((with_reducible refine qaA (N:=12) rfl ?_);(try (refine qaD (by rfl) ?_;dsimp only));refine qaz ?hg (N:=12) ?hd (cs:=#[.int .i64 0,.int .i64 0,.slice none 0 0]) (t:=32) ?hr ?_;(case hd=>rfl);(case hg=>rfl);(case hr=>first|(go_simp;done)|(go_simp;rfl));intro gb199 hg w89 hbox hb;have n0_:=qah.mk (Kd.N_below (Kd.N_elderB (by (with_reducible repeat (first|apply Kd.N_alloc|apply Kd.N_drewN|apply Kd.N_drew));exact HO_182002.out) gb199 (Nat.le_of_eq hg.symm)) hb);have n1_:=qah.mk (Kd.N_below (Kd.N_elderB (by (with_reducible repeat (first|apply Kd.N_alloc|apply Kd.N_drewN|apply Kd.N_drew));exact HO_191002.out) gb199 (Nat.le_of_eq hg.symm)) hb);have n2_:=qah.mk (Kd.N_below (Kd.N_elderB (by (with_reducible repeat (first|apply Kd.N_alloc|apply Kd.N_drewN|apply Kd.N_drew));exact HO196.out) gb199 (Nat.le_of_eq hg.symm)) hb);have n3_:=qah.mk (qak (g:=gb174) (o:=.cells #[.int .i64 a0_0,.int .i64 a0_1,.slice A0_2 l0_2.length c0_2] 24 (0,0)) (by (with_reducible repeat (first|refine qab ?_ _|refine qae ?_|refine qaa ?_ _));exact BK174.out) hb);have n4_:=qah.mk (qak (g:=gb181) (o:=.cells #[.int .i64 t176,.int .i64 t177,.slice Ao14 t178.length co14] 32 (0,0)) (by (with_reducible repeat (first|refine qab ?_ _|refine qae ?_|refine qaa ?_ _));exact BK181.out) hb);have n5_:=qah.mk (qak (g:=gb190) (o:=.cells #[.int .i64 t183,.int .i64 t184,.slice Ao21 t185.length co21] 32 (0,0)) (by (with_reducible repeat (first|refine qab ?_ _|refine qae ?_|refine qaa ?_ _));exact BK190.out) hb);have n6_:=qah.mk (qan (by repeat (first|(with_reducible first|exact HB.out|apply qai|apply qag|apply qaj|refine qac ?_ GE174.out|refine qac ?_ GE181.out|refine qac ?_ GE190.out)|exact HB.out)) hb);have n7_:=qah.mk (hbox);have n8_:=qah.mk ((by rw [hg];exact (qal (by repeat (first|(with_reducible first|exact HB.out|apply qai|apply qag|apply qaj|refine qac ?_ GE174.out|refine qac ?_ GE181.out|refine qac ?_ GE190.out)|exact HB.out))):w.heap.size≤gb199));have n9_:=qah.mk ((by rw [hg];exact (qal (by repeat (first|(with_reducible first|exact HB.out|apply qai|apply qag|apply qaj|refine qac ?_ GE174.out|refine qac ?_ GE181.out|refine qac ?_ GE190.out)|exact HB.out))):w.heap.size≤gb199));have n10_:=qah.mk ((by rw [hg];exact Nat.ne_of_lt (qau (g:=gb174) (o:=.cells #[.int .i64 a0_0,.int .i64 a0_1,.slice A0_2 l0_2.length c0_2] 24 (0,0)) (by (with_reducible repeat (first|refine qab ?_ _|refine qae ?_|refine qaa ?_ _));exact BK174.out)):gb174≠gb199));have n11_:=qah.mk ((by rw [hg];exact Nat.ne_of_gt (qau (g:=gb174) (o:=.cells #[.int .i64 a0_0,.int .i64 a0_1,.slice A0_2 l0_2.length c0_2] 24 (0,0)) (by (with_reducible repeat (first|refine qab ?_ _|refine qae ?_|refine qaa ?_ _));exact BK174.out)):gb199≠gb174));have n12_:=qah.mk ((by rw [hg];exact Nat.ne_of_lt (qau (g:=gb181) (o:=.cells #[.int .i64 t176,.int .i64 t177,.slice Ao14 t178.length co14] 32 (0,0)) (by (with_reducible repeat (first|refine qab ?_ _|refine qae ?_|refine qaa ?_ _));exact BK181.out)):gb181≠gb199));have n13_:=qah.mk ((by rw [hg];exact Nat.ne_of_gt (qau (g:=gb181) (o:=.cells #[.int .i64 t176,.int .i64 t177,.slice Ao14 t178.length co14] 32 (0,0)) (by (with_reducible repeat (first|refine qab ?_ _|refine qae ?_|refine qaa ?_ _));exact BK181.out)):gb199≠gb181));have n14_:=qah.mk ((by rw [hg];exact Nat.ne_of_lt (qau (g:=gb190) (o:=.cells #[.int .i64 t183,.int .i64 t184,.slice Ao21 t185.length co21] 32 (0,0)) (by (with_reducible repeat (first|refine qab ?_ _|refine qae ?_|refine qaa ?_ _));exact BK190.out)):gb190≠gb199));have n15_:=qah.mk ((by rw [hg];exact Nat.ne_of_gt (qau (g:=gb190) (o:=.cells #[.int .i64 t183,.int .i64 t184,.slice Ao21 t185.length co21] 32 (0,0)) (by (with_reducible repeat (first|refine qab ?_ _|refine qae ?_|refine qaa ?_ _));exact BK190.out)):gb199≠gb190));clear HO_182002;clear HO_191002;clear HO196;clear BK174;clear BK181;clear BK190;clear HB;have HO_182002:=n0_;have HO_191002:=n1_;have HO196:=n2_;have BK174:=n3_;have BK181:=n4_;have BK190:=n5_;have HB:=n6_;have BK199:=n7_;have GW199:=n8_;have GE199:=n9_;have NB174_199:=n10_;have NB199_174:=n11_;have NB181_199:=n12_;have NB199_181:=n13_;have NB190_199:=n14_;have NB199_190:=n15_;clear n0_ n1_ n2_ n3_ n4_ n5_ n6_ n7_ n8_ n9_ n10_ n11_ n12_ n13_ n14_ n15_;clear hb hbox hg;have hnb90:=NB199_174.out;have hnc90:=NB174_199.out;have hnb91:=NB199_181.out;have hnc91:=NB181_199.out;have hnb92:=NB199_190.out;have hnc92:=NB190_199.out;have hcz93_0:w89.cell? ⟨gb199,0,none⟩=some (.int .i64 0):=(qaf BK199.out 0).trans rfl;have hcz93_1:w89.cell? ⟨gb199,1,none⟩=some (.int .i64 0):=(qaf BK199.out 1).trans rfl;have hcz93_2:w89.cell? ⟨gb199,2,none⟩=some (.slice none 0 0):=(qaf BK199.out 2).trans rfl;have hfz93_0:=qad BK199.out 0;have hfz93_1:=qad BK199.out 1;have hfz93_2:=qad BK199.out 2;obtain⟨Ao94,co94,eo94⟩:=Kd.N_slice HO196.out;subst eo94;have hnb95:=NB181_174.out;have hnc95:=NB174_181.out;have hnb96:=NB181_190.out;have hnc96:=NB190_181.out;have hcz97_0:w89.cell? ⟨gb181,0,none⟩=some (.int .i64 t176):=(qaf BK181.out 0).trans rfl;have hcz97_1:w89.cell? ⟨gb181,1,none⟩=some (.int .i64 t177):=(qaf BK181.out 1).trans rfl;have hcz97_2:w89.cell? ⟨gb181,2,none⟩=some (.slice Ao14 t178.length co14):=(qaf BK181.out 2).trans rfl;have hfz97_0:=qad BK181.out 0;have hfz97_1:=qad BK181.out 1;have hfz97_2:=qad BK181.out 2)|((with_reducible refine qax (f:=14) rfl ?_);refine qaO (some 69) rfl rfl Tryd.func14 (by kernel_rfl) rfl #[.agg #[.int .i64 t192,.int .i64 t193,.slice Ao94 t194.length co94],.agg #[.int .i64 t176,.int .i64 t177,.slice Ao14 t178.length co14]] rfl (by (try simp only [List.map_toArray,List.map_cons,List.map_nil]);first|done|rfl|(simp only [List.length_drop,List.length_take];rfl)) ?_;(with_reducible refine (ostinatoref05_Same.calls k1 t192 t193 _ _ t194 t176 t177 _ _ t178 t200 _ ?side1 ?side2 ?side3 ?side4 A58.out).mono ?_);(case side1=>refine (Kd.N_reads' (e:=52) (base:=w.heap.size) (ok:=fun k_=>((some k_≠(.slice Ao14 t178.length co14:Value).ownBlock∧(some k_≠(.slice Ao21 t185.length co21:Value).ownBlock∧(k_≠gb174∧(k_≠gb181∧k_≠gb190))))∧k_≠gb199)) (n:=t194.length) (c:=co94) ?_).2.2;exact (by (with_reducible repeat (first|apply Kd.N_alloc|apply Kd.N_drewN|apply Kd.N_drew));exact (Kd.N_mono (Kd.N_far (p:=⟨gb199,2,none⟩) (Kd.N_far (p:=⟨gb199,1,none⟩) (Kd.N_far (p:=⟨gb199,0,none⟩) (Kd.N_mono HO196.out (fun k_ hk=>(⟨hk,hk.2⟩:_∧k_≠gb199))) (fun _ hk=>hk.2) (.int .i64 t192)) (fun _ hk=>hk.2) (.int .i64 t193)) (fun _ hk=>hk.2) (.slice Ao94 t194.length co94)) (fun _ h_=>h_.1))));(case side2=>exact (Kd.N_reads' HO196.out).2.1);(case side3=>refine (Kd.N_reads' (e:=52) (base:=w.heap.size) (ok:=fun k_=>(((some k_≠(.slice Ao21 t185.length co21:Value).ownBlock∧(k_≠gb174∧(k_≠gb181∧k_≠gb190)))∧some k_≠(.slice Ao94 t194.length co94:Value).ownBlock)∧k_≠gb199)) (n:=t178.length) (c:=co14) ?_).2.2;exact (by (with_reducible repeat (first|apply Kd.N_alloc|apply Kd.N_drewN|apply Kd.N_drew));exact (Kd.N_mono (Kd.N_far (p:=⟨gb199,2,none⟩) (Kd.N_far (p:=⟨gb199,1,none⟩) (Kd.N_far (p:=⟨gb199,0,none⟩) (Kd.N_mono HO_182002.out (fun k_ hk=>(⟨hk,hk.2⟩:_∧k_≠gb199))) (fun _ hk=>hk.2) (.int .i64 t192)) (fun _ hk=>hk.2) (.int .i64 t193)) (fun _ hk=>hk.2) (.slice Ao94 t194.length co94)) (fun _ h_=>h_.1))));(case side4=>exact (Kd.N_reads' HO_182002.out).2.1);rintro e w98 ⟨rfl,hb⟩;refine⟨_,rfl,?_⟩;have n0_:=qah.mk (Kd.N_below (by (with_reducible repeat (first|apply Kd.N_alloc|apply Kd.N_drewN|apply Kd.N_drew));exact (Kd.N_mono (Kd.N_far (p:=⟨gb199,2,none⟩) (Kd.N_far (p:=⟨gb199,1,none⟩) (Kd.N_far (p:=⟨gb199,0,none⟩) (Kd.N_mono HO_182002.out (fun k_ hk=>(⟨hk,hk.2⟩:_∧k_≠gb199))) (fun _ hk=>hk.2) (.int .i64 t192)) (fun _ hk=>hk.2) (.int .i64 t193)) (fun _ hk=>hk.2) (.slice Ao94 t194.length co94)) (fun _ h_=>h_.1))) hb);have n1_:=qah.mk (Kd.N_below (by (with_reducible repeat (first|apply Kd.N_alloc|apply Kd.N_drewN|apply Kd.N_drew));exact (Kd.N_mono (Kd.N_far (p:=⟨gb199,2,none⟩) (Kd.N_far (p:=⟨gb199,1,none⟩) (Kd.N_far (p:=⟨gb199,0,none⟩) (Kd.N_mono HO_191002.out (fun k_ hk=>(⟨hk,hk.2⟩:_∧k_≠gb199))) (fun _ hk=>hk.2) (.int .i64 t192)) (fun _ hk=>hk.2) (.int .i64 t193)) (fun _ hk=>hk.2) (.slice Ao94 t194.length co94)) (fun _ h_=>h_.1))) hb);have n2_:=qah.mk (Kd.N_below (by (with_reducible repeat (first|apply Kd.N_alloc|apply Kd.N_drewN|apply Kd.N_drew));exact (Kd.N_mono (Kd.N_far (p:=⟨gb199,2,none⟩) (Kd.N_far (p:=⟨gb199,1,none⟩) (Kd.N_far (p:=⟨gb199,0,none⟩) (Kd.N_mono HO196.out (fun k_ hk=>(⟨hk,hk.2⟩:_∧k_≠gb199))) (fun _ hk=>hk.2) (.int .i64 t192)) (fun _ hk=>hk.2) (.int .i64 t193)) (fun _ hk=>hk.2) (.slice Ao94 t194.length co94)) (fun _ h_=>h_.1))) hb);have n3_:=qah.mk (qak (g:=gb174) (o:=.cells #[.int .i64 a0_0,.int .i64 a0_1,.slice A0_2 l0_2.length c0_2] 24 (0,0)) (by (with_reducible repeat (first|refine qab ?_ _|refine qae ?_|refine qaa ?_ _));refine qam ?_ NB174_199.out _;(with_reducible repeat (first|refine qab ?_ _|refine qae ?_|refine qaa ?_ _));refine qam ?_ NB174_199.out _;(with_reducible repeat (first|refine qab ?_ _|refine qae ?_|refine qaa ?_ _));refine qam ?_ NB174_199.out _;(with_reducible repeat (first|refine qab ?_ _|refine qae ?_|refine qaa ?_ _));exact BK174.out) hb);have n4_:=qah.mk (qak (g:=gb181) (o:=.cells #[.int .i64 t176,.int .i64 t177,.slice Ao14 t178.length co14] 32 (0,0)) (by (with_reducible repeat (first|refine qab ?_ _|refine qae ?_|refine qaa ?_ _));refine qam ?_ NB181_199.out _;(with_reducible repeat (first|refine qab ?_ _|refine qae ?_|refine qaa ?_ _));refine qam ?_ NB181_199.out _;(with_reducible repeat (first|refine qab ?_ _|refine qae ?_|refine qaa ?_ _));refine qam ?_ NB181_199.out _;(with_reducible repeat (first|refine qab ?_ _|refine qae ?_|refine qaa ?_ _));exact BK181.out) hb);have n5_:=qah.mk (qak (g:=gb190) (o:=.cells #[.int .i64 t183,.int .i64 t184,.slice Ao21 t185.length co21] 32 (0,0)) (by (with_reducible repeat (first|refine qab ?_ _|refine qae ?_|refine qaa ?_ _));refine qam ?_ NB190_199.out _;(with_reducible repeat (first|refine qab ?_ _|refine qae ?_|refine qaa ?_ _));refine qam ?_ NB190_199.out _;(with_reducible repeat (first|refine qab ?_ _|refine qae ?_|refine qaa ?_ _));refine qam ?_ NB190_199.out _;(with_reducible repeat (first|refine qab ?_ _|refine qae ?_|refine qaa ?_ _));exact BK190.out) hb);have n6_:=qah.mk (qak (g:=gb199) (o:=.cells #[.int .i64 t192,.int .i64 t193,.slice Ao94 t194.length co94] 32 (0,0)) (by (with_reducible repeat (first|refine qab ?_ _|refine qae ?_|refine qaa ?_ _));refine qaq (cs:=#[.int .i64 t192,.int .i64 t193,.slice none 0 0]) ?_ 2 _ rfl;(with_reducible repeat (first|refine qab ?_ _|refine qae ?_|refine qaa ?_ _));refine qaq (cs:=#[.int .i64 t192,.int .i64 0,.slice none 0 0]) ?_ 1 _ rfl;(with_reducible repeat (first|refine qab ?_ _|refine qae ?_|refine qaa ?_ _));refine qaq (cs:=#[.int .i64 0,.int .i64 0,.slice none 0 0]) ?_ 0 _ rfl;(with_reducible repeat (first|refine qab ?_ _|refine qae ?_|refine qaa ?_ _));exact BK199.out) hb);have n7_:=qah.mk (qan (by repeat (first|(with_reducible first|exact HB.out|apply qai|apply qag|apply qaj|refine qac ?_ GE174.out|refine qac ?_ GE181.out|refine qac ?_ GE190.out|refine qac ?_ GE199.out)|exact HB.out)) hb);clear HO_182002;clear HO_191002;clear HO196;clear BK174;clear BK181;clear BK190;clear BK199;clear HB;have HO_182002:=n0_;have HO_191002:=n1_;have HO196:=n2_;have BK174:=n3_;have BK181:=n4_;have BK190:=n5_;have BK199:=n6_;have HB:=n7_;clear n0_ n1_ n2_ n3_ n4_ n5_ n6_ n7_;(try clear hb);(try clear hb2);(try clear hk);(try clear hi)))
           go_ret
           exact⟨by first|rfl|(simp [qat,qas]<;>rfl)|(simp [bneNil,bneNilU]<;>rfl)|(simp [*,qat,qas]<;>rfl),by repeat (first|(with_reducible first|exact HB.out|apply qai|apply qag|apply qaj|refine qac ?_ GE174.out|refine qac ?_ GE181.out|refine qac ?_ GE190.out|refine qac ?_ GE199.out)|exact HB.out)⟩
         ·rw [if_neg c75] at H
          have c75b0:(t198 == 0)=false:=beq_eq_false_iff_ne.mpr c75
          have c75b1:(t198 != 0)=true:=bne_iff_ne.mpr c75
          obtain rfl:=Option.some.inj H
          go_wp2_with (first|((with_reducible refine qax (f:=12) rfl ?_);refine qaO (some 63) rfl rfl Tryd.func12 (by kernel_rfl) rfl #[.string x10_1] rfl (by (try simp only [List.map_toArray,List.map_cons,List.map_nil]);first|done|rfl|(simp only [List.length_drop,List.length_take];rfl)) ?_;(with_reducible refine (parse_Parse.calls x10_1 t192 t193 t194 t197 t198 _ A57.out (Tabs.below HT.out (by repeat (first|(with_reducible first|exact HB.out|apply qai|apply qag|apply qaj|refine qac ?_ GE174.out|refine qac ?_ GE181.out|refine qac ?_ GE190.out)|exact HB.out)))).mono ?_);rintro e w99 ⟨v195,rfl,ho0,hb⟩;refine⟨_,rfl,?_⟩;have n0_:=qah.mk (Kd.N_elder' (by (with_reducible repeat (first|apply Kd.N_alloc|apply Kd.N_drewN|apply Kd.N_drew));exact HO_182002.out) (Kd.S_base ho0) hb);have n1_:=qah.mk (Kd.N_elder' (by (with_reducible repeat (first|apply Kd.N_alloc|apply Kd.N_drewN|apply Kd.N_drew));exact HO_191002.out) (Kd.S_base ho0) hb);have n2_:=qah.mk (Kd.N_lower (Kd.N_mono (ok':=fun k_=>some k_≠(.slice Ao14 t178.length co14:Value).ownBlock∧some k_≠(.slice Ao21 t185.length co21:Value).ownBlock∧k_≠gb174∧k_≠gb181∧k_≠gb190) (Kd.S_N (Kd.S_bound ho0)) (fun k_ hk_=>⟨(Kd.fresh' (Kd.N_lt (by (with_reducible repeat (first|apply Kd.N_alloc|apply Kd.N_drewN|apply Kd.N_drew));exact HO_182002.out)) k_ hk_.2.1),(Kd.fresh' (Kd.N_lt (by (with_reducible repeat (first|apply Kd.N_alloc|apply Kd.N_drewN|apply Kd.N_drew));exact HO_191002.out)) k_ hk_.2.1),(Kd.freshB (g:=gb174) (o:=.cells #[.int .i64 a0_0,.int .i64 a0_1,.slice A0_2 l0_2.length c0_2] 24 (0,0)) (by (with_reducible repeat (first|refine qab ?_ _|refine qae ?_|refine qaa ?_ _));exact BK174.out) k_ hk_.2.1),(Kd.freshB (g:=gb181) (o:=.cells #[.int .i64 t176,.int .i64 t177,.slice Ao14 t178.length co14] 32 (0,0)) (by (with_reducible repeat (first|refine qab ?_ _|refine qae ?_|refine qaa ?_ _));exact BK181.out) k_ hk_.2.1),(Kd.freshB (g:=gb190) (o:=.cells #[.int .i64 t183,.int .i64 t184,.slice Ao21 t185.length co21] 32 (0,0)) (by (with_reducible repeat (first|refine qab ?_ _|refine qae ?_|refine qaa ?_ _));exact BK190.out) k_ hk_.2.1)⟩)) (qal (by repeat (first|(with_reducible first|exact HB.out|apply qai|apply qag|apply qaj|refine qac ?_ GE174.out|refine qac ?_ GE181.out|refine qac ?_ GE190.out)|exact HB.out))));have n3_:=qah.mk (qak (g:=gb174) (o:=.cells #[.int .i64 a0_0,.int .i64 a0_1,.slice A0_2 l0_2.length c0_2] 24 (0,0)) (by (with_reducible repeat (first|refine qab ?_ _|refine qae ?_|refine qaa ?_ _));exact BK174.out) hb);have n4_:=qah.mk (qak (g:=gb181) (o:=.cells #[.int .i64 t176,.int .i64 t177,.slice Ao14 t178.length co14] 32 (0,0)) (by (with_reducible repeat (first|refine qab ?_ _|refine qae ?_|refine qaa ?_ _));exact BK181.out) hb);have n5_:=qah.mk (qak (g:=gb190) (o:=.cells #[.int .i64 t183,.int .i64 t184,.slice Ao21 t185.length co21] 32 (0,0)) (by (with_reducible repeat (first|refine qab ?_ _|refine qae ?_|refine qaa ?_ _));exact BK190.out) hb);have n6_:=qah.mk (qan (by repeat (first|(with_reducible first|exact HB.out|apply qai|apply qag|apply qaj|refine qac ?_ GE174.out|refine qac ?_ GE181.out|refine qac ?_ GE190.out)|exact HB.out)) hb);clear HO_182002;clear HO_191002;clear BK174;clear BK181;clear BK190;clear HB;have HO_182002:=n0_;have HO_191002:=n1_;have HO196:=n2_;have BK174:=n3_;have BK181:=n4_;have BK190:=n5_;have HB:=n6_;clear n0_ n1_ n2_ n3_ n4_ n5_ n6_;(try clear hb);(try clear hb2);(try clear hk);(try clear hi);(try clear ho0))|((with_reducible refine qaA (N:=12) rfl ?_);(try (refine qaD (by rfl) ?_;dsimp only));refine qaz ?hg (N:=12) ?hd (cs:=#[.int .i64 0,.int .i64 0,.slice none 0 0]) (t:=32) ?hr ?_;(case hd=>rfl);(case hg=>rfl);(case hr=>first|(go_simp;done)|(go_simp;rfl));intro gb199 hg w100 hbox hb;have n0_:=qah.mk (Kd.N_below (Kd.N_elderB (by (with_reducible repeat (first|apply Kd.N_alloc|apply Kd.N_drewN|apply Kd.N_drew));exact HO_182002.out) gb199 (Nat.le_of_eq hg.symm)) hb);have n1_:=qah.mk (Kd.N_below (Kd.N_elderB (by (with_reducible repeat (first|apply Kd.N_alloc|apply Kd.N_drewN|apply Kd.N_drew));exact HO_191002.out) gb199 (Nat.le_of_eq hg.symm)) hb);have n2_:=qah.mk (Kd.N_below (Kd.N_elderB (by (with_reducible repeat (first|apply Kd.N_alloc|apply Kd.N_drewN|apply Kd.N_drew));exact HO196.out) gb199 (Nat.le_of_eq hg.symm)) hb);have n3_:=qah.mk (qak (g:=gb174) (o:=.cells #[.int .i64 a0_0,.int .i64 a0_1,.slice A0_2 l0_2.length c0_2] 24 (0,0)) (by (with_reducible repeat (first|refine qab ?_ _|refine qae ?_|refine qaa ?_ _));exact BK174.out) hb);have n4_:=qah.mk (qak (g:=gb181) (o:=.cells #[.int .i64 t176,.int .i64 t177,.slice Ao14 t178.length co14] 32 (0,0)) (by (with_reducible repeat (first|refine qab ?_ _|refine qae ?_|refine qaa ?_ _));exact BK181.out) hb);have n5_:=qah.mk (qak (g:=gb190) (o:=.cells #[.int .i64 t183,.int .i64 t184,.slice Ao21 t185.length co21] 32 (0,0)) (by (with_reducible repeat (first|refine qab ?_ _|refine qae ?_|refine qaa ?_ _));exact BK190.out) hb);have n6_:=qah.mk (qan (by repeat (first|(with_reducible first|exact HB.out|apply qai|apply qag|apply qaj|refine qac ?_ GE174.out|refine qac ?_ GE181.out|refine qac ?_ GE190.out)|exact HB.out)) hb);have n7_:=qah.mk (hbox);have n8_:=qah.mk ((by rw [hg];exact (qal (by repeat (first|(with_reducible first|exact HB.out|apply qai|apply qag|apply qaj|refine qac ?_ GE174.out|refine qac ?_ GE181.out|refine qac ?_ GE190.out)|exact HB.out))):w.heap.size≤gb199));have n9_:=qah.mk ((by rw [hg];exact (qal (by repeat (first|(with_reducible first|exact HB.out|apply qai|apply qag|apply qaj|refine qac ?_ GE174.out|refine qac ?_ GE181.out|refine qac ?_ GE190.out)|exact HB.out))):w.heap.size≤gb199));have n10_:=qah.mk ((by rw [hg];exact Nat.ne_of_lt (qau (g:=gb174) (o:=.cells #[.int .i64 a0_0,.int .i64 a0_1,.slice A0_2 l0_2.length c0_2] 24 (0,0)) (by (with_reducible repeat (first|refine qab ?_ _|refine qae ?_|refine qaa ?_ _));exact BK174.out)):gb174≠gb199));have n11_:=qah.mk ((by rw [hg];exact Nat.ne_of_gt (qau (g:=gb174) (o:=.cells #[.int .i64 a0_0,.int .i64 a0_1,.slice A0_2 l0_2.length c0_2] 24 (0,0)) (by (with_reducible repeat (first|refine qab ?_ _|refine qae ?_|refine qaa ?_ _));exact BK174.out)):gb199≠gb174));have n12_:=qah.mk ((by rw [hg];exact Nat.ne_of_lt (qau (g:=gb181) (o:=.cells #[.int .i64 t176,.int .i64 t177,.slice Ao14 t178.length co14] 32 (0,0)) (by (with_reducible repeat (first|refine qab ?_ _|refine qae ?_|refine qaa ?_ _));exact BK181.out)):gb181≠gb199));have n13_:=qah.mk ((by rw [hg];exact Nat.ne_of_gt (qau (g:=gb181) (o:=.cells #[.int .i64 t176,.int .i64 t177,.slice Ao14 t178.length co14] 32 (0,0)) (by (with_reducible repeat (first|refine qab ?_ _|refine qae ?_|refine qaa ?_ _));exact BK181.out)):gb199≠gb181));have n14_:=qah.mk ((by rw [hg];exact Nat.ne_of_lt (qau (g:=gb190) (o:=.cells #[.int .i64 t183,.int .i64 t184,.slice Ao21 t185.length co21] 32 (0,0)) (by (with_reducible repeat (first|refine qab ?_ _|refine qae ?_|refine qaa ?_ _));exact BK190.out)):gb190≠gb199));have n15_:=qah.mk ((by rw [hg];exact Nat.ne_of_gt (qau (g:=gb190) (o:=.cells #[.int .i64 t183,.int .i64 t184,.slice Ao21 t185.length co21] 32 (0,0)) (by (with_reducible repeat (first|refine qab ?_ _|refine qae ?_|refine qaa ?_ _));exact BK190.out)):gb199≠gb190));clear HO_182002;clear HO_191002;clear HO196;clear BK174;clear BK181;clear BK190;clear HB;have HO_182002:=n0_;have HO_191002:=n1_;have HO196:=n2_;have BK174:=n3_;have BK181:=n4_;have BK190:=n5_;have HB:=n6_;have BK199:=n7_;have GW199:=n8_;have GE199:=n9_;have NB174_199:=n10_;have NB199_174:=n11_;have NB181_199:=n12_;have NB199_181:=n13_;have NB190_199:=n14_;have NB199_190:=n15_;clear n0_ n1_ n2_ n3_ n4_ n5_ n6_ n7_ n8_ n9_ n10_ n11_ n12_ n13_ n14_ n15_;clear hb hbox hg;have hnb101:=NB199_174.out;have hnc101:=NB174_199.out;have hnb102:=NB199_181.out;have hnc102:=NB181_199.out;have hnb103:=NB199_190.out;have hnc103:=NB190_199.out;have hcz104_0:w100.cell? ⟨gb199,0,none⟩=some (.int .i64 0):=(qaf BK199.out 0).trans rfl;have hcz104_1:w100.cell? ⟨gb199,1,none⟩=some (.int .i64 0):=(qaf BK199.out 1).trans rfl;have hcz104_2:w100.cell? ⟨gb199,2,none⟩=some (.slice none 0 0):=(qaf BK199.out 2).trans rfl;have hfz104_0:=qad BK199.out 0;have hfz104_1:=qad BK199.out 1;have hfz104_2:=qad BK199.out 2;obtain⟨Ao105,co105,eo105⟩:=Kd.N_slice HO196.out;subst eo105;have hnb106:=NB181_174.out;have hnc106:=NB174_181.out;have hnb107:=NB181_190.out;have hnc107:=NB190_181.out;have hcz108_0:w100.cell? ⟨gb181,0,none⟩=some (.int .i64 t176):=(qaf BK181.out 0).trans rfl;have hcz108_1:w100.cell? ⟨gb181,1,none⟩=some (.int .i64 t177):=(qaf BK181.out 1).trans rfl;have hcz108_2:w100.cell? ⟨gb181,2,none⟩=some (.slice Ao14 t178.length co14):=(qaf BK181.out 2).trans rfl;have hfz108_0:=qad BK181.out 0;have hfz108_1:=qad BK181.out 1;have hfz108_2:=qad BK181.out 2)|((with_reducible refine qax (f:=14) rfl ?_);refine qaO (some 69) rfl rfl Tryd.func14 (by kernel_rfl) rfl #[.agg #[.int .i64 t192,.int .i64 t193,.slice Ao105 t194.length co105],.agg #[.int .i64 t176,.int .i64 t177,.slice Ao14 t178.length co14]] rfl (by (try simp only [List.map_toArray,List.map_cons,List.map_nil]);first|done|rfl|(simp only [List.length_drop,List.length_take];rfl)) ?_;(with_reducible refine (ostinatoref05_Same.calls k1 t192 t193 _ _ t194 t176 t177 _ _ t178 t200 _ ?side1 ?side2 ?side3 ?side4 A58.out).mono ?_);(case side1=>refine (Kd.N_reads' (e:=52) (base:=w.heap.size) (ok:=fun k_=>((some k_≠(.slice Ao14 t178.length co14:Value).ownBlock∧(some k_≠(.slice Ao21 t185.length co21:Value).ownBlock∧(k_≠gb174∧(k_≠gb181∧k_≠gb190))))∧k_≠gb199)) (n:=t194.length) (c:=co105) ?_).2.2;exact (by (with_reducible repeat (first|apply Kd.N_alloc|apply Kd.N_drewN|apply Kd.N_drew));exact (Kd.N_mono (Kd.N_far (p:=⟨gb199,2,none⟩) (Kd.N_far (p:=⟨gb199,1,none⟩) (Kd.N_far (p:=⟨gb199,0,none⟩) (Kd.N_mono HO196.out (fun k_ hk=>(⟨hk,hk.2⟩:_∧k_≠gb199))) (fun _ hk=>hk.2) (.int .i64 t192)) (fun _ hk=>hk.2) (.int .i64 t193)) (fun _ hk=>hk.2) (.slice Ao105 t194.length co105)) (fun _ h_=>h_.1))));(case side2=>exact (Kd.N_reads' HO196.out).2.1);(case side3=>refine (Kd.N_reads' (e:=52) (base:=w.heap.size) (ok:=fun k_=>(((some k_≠(.slice Ao21 t185.length co21:Value).ownBlock∧(k_≠gb174∧(k_≠gb181∧k_≠gb190)))∧some k_≠(.slice Ao105 t194.length co105:Value).ownBlock)∧k_≠gb199)) (n:=t178.length) (c:=co14) ?_).2.2;exact (by (with_reducible repeat (first|apply Kd.N_alloc|apply Kd.N_drewN|apply Kd.N_drew));exact (Kd.N_mono (Kd.N_far (p:=⟨gb199,2,none⟩) (Kd.N_far (p:=⟨gb199,1,none⟩) (Kd.N_far (p:=⟨gb199,0,none⟩) (Kd.N_mono HO_182002.out (fun k_ hk=>(⟨hk,hk.2⟩:_∧k_≠gb199))) (fun _ hk=>hk.2) (.int .i64 t192)) (fun _ hk=>hk.2) (.int .i64 t193)) (fun _ hk=>hk.2) (.slice Ao105 t194.length co105)) (fun _ h_=>h_.1))));(case side4=>exact (Kd.N_reads' HO_182002.out).2.1);rintro e w109 ⟨rfl,hb⟩;refine⟨_,rfl,?_⟩;have n0_:=qah.mk (Kd.N_below (by (with_reducible repeat (first|apply Kd.N_alloc|apply Kd.N_drewN|apply Kd.N_drew));exact (Kd.N_mono (Kd.N_far (p:=⟨gb199,2,none⟩) (Kd.N_far (p:=⟨gb199,1,none⟩) (Kd.N_far (p:=⟨gb199,0,none⟩) (Kd.N_mono HO_182002.out (fun k_ hk=>(⟨hk,hk.2⟩:_∧k_≠gb199))) (fun _ hk=>hk.2) (.int .i64 t192)) (fun _ hk=>hk.2) (.int .i64 t193)) (fun _ hk=>hk.2) (.slice Ao105 t194.length co105)) (fun _ h_=>h_.1))) hb);have n1_:=qah.mk (Kd.N_below (by (with_reducible repeat (first|apply Kd.N_alloc|apply Kd.N_drewN|apply Kd.N_drew));exact (Kd.N_mono (Kd.N_far (p:=⟨gb199,2,none⟩) (Kd.N_far (p:=⟨gb199,1,none⟩) (Kd.N_far (p:=⟨gb199,0,none⟩) (Kd.N_mono HO_191002.out (fun k_ hk=>(⟨hk,hk.2⟩:_∧k_≠gb199))) (fun _ hk=>hk.2) (.int .i64 t192)) (fun _ hk=>hk.2) (.int .i64 t193)) (fun _ hk=>hk.2) (.slice Ao105 t194.length co105)) (fun _ h_=>h_.1))) hb);have n2_:=qah.mk (Kd.N_below (by (with_reducible repeat (first|apply Kd.N_alloc|apply Kd.N_drewN|apply Kd.N_drew));exact (Kd.N_mono (Kd.N_far (p:=⟨gb199,2,none⟩) (Kd.N_far (p:=⟨gb199,1,none⟩) (Kd.N_far (p:=⟨gb199,0,none⟩) (Kd.N_mono HO196.out (fun k_ hk=>(⟨hk,hk.2⟩:_∧k_≠gb199))) (fun _ hk=>hk.2) (.int .i64 t192)) (fun _ hk=>hk.2) (.int .i64 t193)) (fun _ hk=>hk.2) (.slice Ao105 t194.length co105)) (fun _ h_=>h_.1))) hb);have n3_:=qah.mk (qak (g:=gb174) (o:=.cells #[.int .i64 a0_0,.int .i64 a0_1,.slice A0_2 l0_2.length c0_2] 24 (0,0)) (by (with_reducible repeat (first|refine qab ?_ _|refine qae ?_|refine qaa ?_ _));refine qam ?_ NB174_199.out _;(with_reducible repeat (first|refine qab ?_ _|refine qae ?_|refine qaa ?_ _));refine qam ?_ NB174_199.out _;(with_reducible repeat (first|refine qab ?_ _|refine qae ?_|refine qaa ?_ _));refine qam ?_ NB174_199.out _;(with_reducible repeat (first|refine qab ?_ _|refine qae ?_|refine qaa ?_ _));exact BK174.out) hb);have n4_:=qah.mk (qak (g:=gb181) (o:=.cells #[.int .i64 t176,.int .i64 t177,.slice Ao14 t178.length co14] 32 (0,0)) (by (with_reducible repeat (first|refine qab ?_ _|refine qae ?_|refine qaa ?_ _));refine qam ?_ NB181_199.out _;(with_reducible repeat (first|refine qab ?_ _|refine qae ?_|refine qaa ?_ _));refine qam ?_ NB181_199.out _;(with_reducible repeat (first|refine qab ?_ _|refine qae ?_|refine qaa ?_ _));refine qam ?_ NB181_199.out _;(with_reducible repeat (first|refine qab ?_ _|refine qae ?_|refine qaa ?_ _));exact BK181.out) hb);have n5_:=qah.mk (qak (g:=gb190) (o:=.cells #[.int .i64 t183,.int .i64 t184,.slice Ao21 t185.length co21] 32 (0,0)) (by (with_reducible repeat (first|refine qab ?_ _|refine qae ?_|refine qaa ?_ _));refine qam ?_ NB190_199.out _;(with_reducible repeat (first|refine qab ?_ _|refine qae ?_|refine qaa ?_ _));refine qam ?_ NB190_199.out _;(with_reducible repeat (first|refine qab ?_ _|refine qae ?_|refine qaa ?_ _));refine qam ?_ NB190_199.out _;(with_reducible repeat (first|refine qab ?_ _|refine qae ?_|refine qaa ?_ _));exact BK190.out) hb);have n6_:=qah.mk (qak (g:=gb199) (o:=.cells #[.int .i64 t192,.int .i64 t193,.slice Ao105 t194.length co105] 32 (0,0)) (by (with_reducible repeat (first|refine qab ?_ _|refine qae ?_|refine qaa ?_ _));refine qaq (cs:=#[.int .i64 t192,.int .i64 t193,.slice none 0 0]) ?_ 2 _ rfl;(with_reducible repeat (first|refine qab ?_ _|refine qae ?_|refine qaa ?_ _));refine qaq (cs:=#[.int .i64 t192,.int .i64 0,.slice none 0 0]) ?_ 1 _ rfl;(with_reducible repeat (first|refine qab ?_ _|refine qae ?_|refine qaa ?_ _));refine qaq (cs:=#[.int .i64 0,.int .i64 0,.slice none 0 0]) ?_ 0 _ rfl;(with_reducible repeat (first|refine qab ?_ _|refine qae ?_|refine qaa ?_ _));exact BK199.out) hb);have n7_:=qah.mk (qan (by repeat (first|(with_reducible first|exact HB.out|apply qai|apply qag|apply qaj|refine qac ?_ GE174.out|refine qac ?_ GE181.out|refine qac ?_ GE190.out|refine qac ?_ GE199.out)|exact HB.out)) hb);clear HO_182002;clear HO_191002;clear HO196;clear BK174;clear BK181;clear BK190;clear BK199;clear HB;have HO_182002:=n0_;have HO_191002:=n1_;have HO196:=n2_;have BK174:=n3_;have BK181:=n4_;have BK190:=n5_;have BK199:=n6_;have HB:=n7_;clear n0_ n1_ n2_ n3_ n4_ n5_ n6_ n7_;(try clear hb);(try clear hb2);(try clear hk);(try clear hi)))
          go_ret
          exact⟨by first|rfl|(simp [qat,qas]<;>rfl)|(simp [bneNil,bneNilU]<;>rfl)|(simp [*,qat,qas]<;>rfl),by repeat (first|(with_reducible first|exact HB.out|apply qai|apply qag|apply qaj|refine qac ?_ GE174.out|refine qac ?_ GE181.out|refine qac ?_ GE190.out|refine qac ?_ GE199.out)|exact HB.out)⟩
        ·replace c74:=Bool.eq_false_iff.mpr c74
         subst c74
         have H1:(some false)=some r:=by rw [if_neg (show ¬ (false=true) by decide)] at H;exact H
         clear H
         have H:=H1
         clear H1
         obtain rfl:=Option.some.inj H
         go_wp2_with (first|((with_reducible refine qax (f:=12) rfl ?_);refine qaO (some 63) rfl rfl Tryd.func12 (by kernel_rfl) rfl #[.string x10_1] rfl (by (try simp only [List.map_toArray,List.map_cons,List.map_nil]);first|done|rfl|(simp only [List.length_drop,List.length_take];rfl)) ?_;(with_reducible refine (parse_Parse.calls x10_1 t192 t193 t194 t197 t198 _ A57.out (Tabs.below HT.out (by repeat (first|(with_reducible first|exact HB.out|apply qai|apply qag|apply qaj|refine qac ?_ GE174.out|refine qac ?_ GE181.out|refine qac ?_ GE190.out)|exact HB.out)))).mono ?_);rintro e w110 ⟨v195,rfl,ho0,hb⟩;refine⟨_,rfl,?_⟩;have n0_:=qah.mk (Kd.N_elder' (by (with_reducible repeat (first|apply Kd.N_alloc|apply Kd.N_drewN|apply Kd.N_drew));exact HO_182002.out) (Kd.S_base ho0) hb);have n1_:=qah.mk (Kd.N_elder' (by (with_reducible repeat (first|apply Kd.N_alloc|apply Kd.N_drewN|apply Kd.N_drew));exact HO_191002.out) (Kd.S_base ho0) hb);have n2_:=qah.mk (Kd.N_lower (Kd.N_mono (ok':=fun k_=>some k_≠(.slice Ao14 t178.length co14:Value).ownBlock∧some k_≠(.slice Ao21 t185.length co21:Value).ownBlock∧k_≠gb174∧k_≠gb181∧k_≠gb190) (Kd.S_N (Kd.S_bound ho0)) (fun k_ hk_=>⟨(Kd.fresh' (Kd.N_lt (by (with_reducible repeat (first|apply Kd.N_alloc|apply Kd.N_drewN|apply Kd.N_drew));exact HO_182002.out)) k_ hk_.2.1),(Kd.fresh' (Kd.N_lt (by (with_reducible repeat (first|apply Kd.N_alloc|apply Kd.N_drewN|apply Kd.N_drew));exact HO_191002.out)) k_ hk_.2.1),(Kd.freshB (g:=gb174) (o:=.cells #[.int .i64 a0_0,.int .i64 a0_1,.slice A0_2 l0_2.length c0_2] 24 (0,0)) (by (with_reducible repeat (first|refine qab ?_ _|refine qae ?_|refine qaa ?_ _));exact BK174.out) k_ hk_.2.1),(Kd.freshB (g:=gb181) (o:=.cells #[.int .i64 t176,.int .i64 t177,.slice Ao14 t178.length co14] 32 (0,0)) (by (with_reducible repeat (first|refine qab ?_ _|refine qae ?_|refine qaa ?_ _));exact BK181.out) k_ hk_.2.1),(Kd.freshB (g:=gb190) (o:=.cells #[.int .i64 t183,.int .i64 t184,.slice Ao21 t185.length co21] 32 (0,0)) (by (with_reducible repeat (first|refine qab ?_ _|refine qae ?_|refine qaa ?_ _));exact BK190.out) k_ hk_.2.1)⟩)) (qal (by repeat (first|(with_reducible first|exact HB.out|apply qai|apply qag|apply qaj|refine qac ?_ GE174.out|refine qac ?_ GE181.out|refine qac ?_ GE190.out)|exact HB.out))));have n3_:=qah.mk (qak (g:=gb174) (o:=.cells #[.int .i64 a0_0,.int .i64 a0_1,.slice A0_2 l0_2.length c0_2] 24 (0,0)) (by (with_reducible repeat (first|refine qab ?_ _|refine qae ?_|refine qaa ?_ _));exact BK174.out) hb);have n4_:=qah.mk (qak (g:=gb181) (o:=.cells #[.int .i64 t176,.int .i64 t177,.slice Ao14 t178.length co14] 32 (0,0)) (by (with_reducible repeat (first|refine qab ?_ _|refine qae ?_|refine qaa ?_ _));exact BK181.out) hb);have n5_:=qah.mk (qak (g:=gb190) (o:=.cells #[.int .i64 t183,.int .i64 t184,.slice Ao21 t185.length co21] 32 (0,0)) (by (with_reducible repeat (first|refine qab ?_ _|refine qae ?_|refine qaa ?_ _));exact BK190.out) hb);have n6_:=qah.mk (qan (by repeat (first|(with_reducible first|exact HB.out|apply qai|apply qag|apply qaj|refine qac ?_ GE174.out|refine qac ?_ GE181.out|refine qac ?_ GE190.out)|exact HB.out)) hb);clear HO_182002;clear HO_191002;clear BK174;clear BK181;clear BK190;clear HB;have HO_182002:=n0_;have HO_191002:=n1_;have HO196:=n2_;have BK174:=n3_;have BK181:=n4_;have BK190:=n5_;have HB:=n6_;clear n0_ n1_ n2_ n3_ n4_ n5_ n6_;(try clear hb);(try clear hb2);(try clear hk);(try clear hi);(try clear ho0))|((with_reducible refine qaA (N:=12) rfl ?_);(try (refine qaD (by rfl) ?_;dsimp only));refine qaz ?hg (N:=12) ?hd (cs:=#[.int .i64 0,.int .i64 0,.slice none 0 0]) (t:=32) ?hr ?_;(case hd=>rfl);(case hg=>rfl);(case hr=>first|(go_simp;done)|(go_simp;rfl));intro gb199 hg w111 hbox hb;have n0_:=qah.mk (Kd.N_below (Kd.N_elderB (by (with_reducible repeat (first|apply Kd.N_alloc|apply Kd.N_drewN|apply Kd.N_drew));exact HO_182002.out) gb199 (Nat.le_of_eq hg.symm)) hb);have n1_:=qah.mk (Kd.N_below (Kd.N_elderB (by (with_reducible repeat (first|apply Kd.N_alloc|apply Kd.N_drewN|apply Kd.N_drew));exact HO_191002.out) gb199 (Nat.le_of_eq hg.symm)) hb);have n2_:=qah.mk (Kd.N_below (Kd.N_elderB (by (with_reducible repeat (first|apply Kd.N_alloc|apply Kd.N_drewN|apply Kd.N_drew));exact HO196.out) gb199 (Nat.le_of_eq hg.symm)) hb);have n3_:=qah.mk (qak (g:=gb174) (o:=.cells #[.int .i64 a0_0,.int .i64 a0_1,.slice A0_2 l0_2.length c0_2] 24 (0,0)) (by (with_reducible repeat (first|refine qab ?_ _|refine qae ?_|refine qaa ?_ _));exact BK174.out) hb);have n4_:=qah.mk (qak (g:=gb181) (o:=.cells #[.int .i64 t176,.int .i64 t177,.slice Ao14 t178.length co14] 32 (0,0)) (by (with_reducible repeat (first|refine qab ?_ _|refine qae ?_|refine qaa ?_ _));exact BK181.out) hb);have n5_:=qah.mk (qak (g:=gb190) (o:=.cells #[.int .i64 t183,.int .i64 t184,.slice Ao21 t185.length co21] 32 (0,0)) (by (with_reducible repeat (first|refine qab ?_ _|refine qae ?_|refine qaa ?_ _));exact BK190.out) hb);have n6_:=qah.mk (qan (by repeat (first|(with_reducible first|exact HB.out|apply qai|apply qag|apply qaj|refine qac ?_ GE174.out|refine qac ?_ GE181.out|refine qac ?_ GE190.out)|exact HB.out)) hb);have n7_:=qah.mk (hbox);have n8_:=qah.mk ((by rw [hg];exact (qal (by repeat (first|(with_reducible first|exact HB.out|apply qai|apply qag|apply qaj|refine qac ?_ GE174.out|refine qac ?_ GE181.out|refine qac ?_ GE190.out)|exact HB.out))):w.heap.size≤gb199));have n9_:=qah.mk ((by rw [hg];exact (qal (by repeat (first|(with_reducible first|exact HB.out|apply qai|apply qag|apply qaj|refine qac ?_ GE174.out|refine qac ?_ GE181.out|refine qac ?_ GE190.out)|exact HB.out))):w.heap.size≤gb199));have n10_:=qah.mk ((by rw [hg];exact Nat.ne_of_lt (qau (g:=gb174) (o:=.cells #[.int .i64 a0_0,.int .i64 a0_1,.slice A0_2 l0_2.length c0_2] 24 (0,0)) (by (with_reducible repeat (first|refine qab ?_ _|refine qae ?_|refine qaa ?_ _));exact BK174.out)):gb174≠gb199));have n11_:=qah.mk ((by rw [hg];exact Nat.ne_of_gt (qau (g:=gb174) (o:=.cells #[.int .i64 a0_0,.int .i64 a0_1,.slice A0_2 l0_2.length c0_2] 24 (0,0)) (by (with_reducible repeat (first|refine qab ?_ _|refine qae ?_|refine qaa ?_ _));exact BK174.out)):gb199≠gb174));have n12_:=qah.mk ((by rw [hg];exact Nat.ne_of_lt (qau (g:=gb181) (o:=.cells #[.int .i64 t176,.int .i64 t177,.slice Ao14 t178.length co14] 32 (0,0)) (by (with_reducible repeat (first|refine qab ?_ _|refine qae ?_|refine qaa ?_ _));exact BK181.out)):gb181≠gb199));have n13_:=qah.mk ((by rw [hg];exact Nat.ne_of_gt (qau (g:=gb181) (o:=.cells #[.int .i64 t176,.int .i64 t177,.slice Ao14 t178.length co14] 32 (0,0)) (by (with_reducible repeat (first|refine qab ?_ _|refine qae ?_|refine qaa ?_ _));exact BK181.out)):gb199≠gb181));have n14_:=qah.mk ((by rw [hg];exact Nat.ne_of_lt (qau (g:=gb190) (o:=.cells #[.int .i64 t183,.int .i64 t184,.slice Ao21 t185.length co21] 32 (0,0)) (by (with_reducible repeat (first|refine qab ?_ _|refine qae ?_|refine qaa ?_ _));exact BK190.out)):gb190≠gb199));have n15_:=qah.mk ((by rw [hg];exact Nat.ne_of_gt (qau (g:=gb190) (o:=.cells #[.int .i64 t183,.int .i64 t184,.slice Ao21 t185.length co21] 32 (0,0)) (by (with_reducible repeat (first|refine qab ?_ _|refine qae ?_|refine qaa ?_ _));exact BK190.out)):gb199≠gb190));clear HO_182002;clear HO_191002;clear HO196;clear BK174;clear BK181;clear BK190;clear HB;have HO_182002:=n0_;have HO_191002:=n1_;have HO196:=n2_;have BK174:=n3_;have BK181:=n4_;have BK190:=n5_;have HB:=n6_;have BK199:=n7_;have GW199:=n8_;have GE199:=n9_;have NB174_199:=n10_;have NB199_174:=n11_;have NB181_199:=n12_;have NB199_181:=n13_;have NB190_199:=n14_;have NB199_190:=n15_;clear n0_ n1_ n2_ n3_ n4_ n5_ n6_ n7_ n8_ n9_ n10_ n11_ n12_ n13_ n14_ n15_;clear hb hbox hg;have hnb112:=NB199_174.out;have hnc112:=NB174_199.out;have hnb113:=NB199_181.out;have hnc113:=NB181_199.out;have hnb114:=NB199_190.out;have hnc114:=NB190_199.out;have hcz115_0:w111.cell? ⟨gb199,0,none⟩=some (.int .i64 0):=(qaf BK199.out 0).trans rfl;have hcz115_1:w111.cell? ⟨gb199,1,none⟩=some (.int .i64 0):=(qaf BK199.out 1).trans rfl;have hcz115_2:w111.cell? ⟨gb199,2,none⟩=some (.slice none 0 0):=(qaf BK199.out 2).trans rfl;have hfz115_0:=qad BK199.out 0;have hfz115_1:=qad BK199.out 1;have hfz115_2:=qad BK199.out 2;obtain⟨Ao116,co116,eo116⟩:=Kd.N_slice HO196.out;subst eo116;have hnb117:=NB181_174.out;have hnc117:=NB174_181.out;have hnb118:=NB181_190.out;have hnc118:=NB190_181.out;have hcz119_0:w111.cell? ⟨gb181,0,none⟩=some (.int .i64 t176):=(qaf BK181.out 0).trans rfl;have hcz119_1:w111.cell? ⟨gb181,1,none⟩=some (.int .i64 t177):=(qaf BK181.out 1).trans rfl;have hcz119_2:w111.cell? ⟨gb181,2,none⟩=some (.slice Ao14 t178.length co14):=(qaf BK181.out 2).trans rfl;have hfz119_0:=qad BK181.out 0;have hfz119_1:=qad BK181.out 1;have hfz119_2:=qad BK181.out 2)|((with_reducible refine qax (f:=14) rfl ?_);refine qaO (some 69) rfl rfl Tryd.func14 (by kernel_rfl) rfl #[.agg #[.int .i64 t192,.int .i64 t193,.slice Ao116 t194.length co116],.agg #[.int .i64 t176,.int .i64 t177,.slice Ao14 t178.length co14]] rfl (by (try simp only [List.map_toArray,List.map_cons,List.map_nil]);first|done|rfl|(simp only [List.length_drop,List.length_take];rfl)) ?_;(with_reducible refine (ostinatoref05_Same.calls k1 t192 t193 _ _ t194 t176 t177 _ _ t178 t200 _ ?side1 ?side2 ?side3 ?side4 A58.out).mono ?_);(case side1=>refine (Kd.N_reads' (e:=52) (base:=w.heap.size) (ok:=fun k_=>((some k_≠(.slice Ao14 t178.length co14:Value).ownBlock∧(some k_≠(.slice Ao21 t185.length co21:Value).ownBlock∧(k_≠gb174∧(k_≠gb181∧k_≠gb190))))∧k_≠gb199)) (n:=t194.length) (c:=co116) ?_).2.2;exact (by (with_reducible repeat (first|apply Kd.N_alloc|apply Kd.N_drewN|apply Kd.N_drew));exact (Kd.N_mono (Kd.N_far (p:=⟨gb199,2,none⟩) (Kd.N_far (p:=⟨gb199,1,none⟩) (Kd.N_far (p:=⟨gb199,0,none⟩) (Kd.N_mono HO196.out (fun k_ hk=>(⟨hk,hk.2⟩:_∧k_≠gb199))) (fun _ hk=>hk.2) (.int .i64 t192)) (fun _ hk=>hk.2) (.int .i64 t193)) (fun _ hk=>hk.2) (.slice Ao116 t194.length co116)) (fun _ h_=>h_.1))));(case side2=>exact (Kd.N_reads' HO196.out).2.1);(case side3=>refine (Kd.N_reads' (e:=52) (base:=w.heap.size) (ok:=fun k_=>(((some k_≠(.slice Ao21 t185.length co21:Value).ownBlock∧(k_≠gb174∧(k_≠gb181∧k_≠gb190)))∧some k_≠(.slice Ao116 t194.length co116:Value).ownBlock)∧k_≠gb199)) (n:=t178.length) (c:=co14) ?_).2.2;exact (by (with_reducible repeat (first|apply Kd.N_alloc|apply Kd.N_drewN|apply Kd.N_drew));exact (Kd.N_mono (Kd.N_far (p:=⟨gb199,2,none⟩) (Kd.N_far (p:=⟨gb199,1,none⟩) (Kd.N_far (p:=⟨gb199,0,none⟩) (Kd.N_mono HO_182002.out (fun k_ hk=>(⟨hk,hk.2⟩:_∧k_≠gb199))) (fun _ hk=>hk.2) (.int .i64 t192)) (fun _ hk=>hk.2) (.int .i64 t193)) (fun _ hk=>hk.2) (.slice Ao116 t194.length co116)) (fun _ h_=>h_.1))));(case side4=>exact (Kd.N_reads' HO_182002.out).2.1);rintro e w120 ⟨rfl,hb⟩;refine⟨_,rfl,?_⟩;have n0_:=qah.mk (Kd.N_below (by (with_reducible repeat (first|apply Kd.N_alloc|apply Kd.N_drewN|apply Kd.N_drew));exact (Kd.N_mono (Kd.N_far (p:=⟨gb199,2,none⟩) (Kd.N_far (p:=⟨gb199,1,none⟩) (Kd.N_far (p:=⟨gb199,0,none⟩) (Kd.N_mono HO_182002.out (fun k_ hk=>(⟨hk,hk.2⟩:_∧k_≠gb199))) (fun _ hk=>hk.2) (.int .i64 t192)) (fun _ hk=>hk.2) (.int .i64 t193)) (fun _ hk=>hk.2) (.slice Ao116 t194.length co116)) (fun _ h_=>h_.1))) hb);have n1_:=qah.mk (Kd.N_below (by (with_reducible repeat (first|apply Kd.N_alloc|apply Kd.N_drewN|apply Kd.N_drew));exact (Kd.N_mono (Kd.N_far (p:=⟨gb199,2,none⟩) (Kd.N_far (p:=⟨gb199,1,none⟩) (Kd.N_far (p:=⟨gb199,0,none⟩) (Kd.N_mono HO_191002.out (fun k_ hk=>(⟨hk,hk.2⟩:_∧k_≠gb199))) (fun _ hk=>hk.2) (.int .i64 t192)) (fun _ hk=>hk.2) (.int .i64 t193)) (fun _ hk=>hk.2) (.slice Ao116 t194.length co116)) (fun _ h_=>h_.1))) hb);have n2_:=qah.mk (Kd.N_below (by (with_reducible repeat (first|apply Kd.N_alloc|apply Kd.N_drewN|apply Kd.N_drew));exact (Kd.N_mono (Kd.N_far (p:=⟨gb199,2,none⟩) (Kd.N_far (p:=⟨gb199,1,none⟩) (Kd.N_far (p:=⟨gb199,0,none⟩) (Kd.N_mono HO196.out (fun k_ hk=>(⟨hk,hk.2⟩:_∧k_≠gb199))) (fun _ hk=>hk.2) (.int .i64 t192)) (fun _ hk=>hk.2) (.int .i64 t193)) (fun _ hk=>hk.2) (.slice Ao116 t194.length co116)) (fun _ h_=>h_.1))) hb);have n3_:=qah.mk (qak (g:=gb174) (o:=.cells #[.int .i64 a0_0,.int .i64 a0_1,.slice A0_2 l0_2.length c0_2] 24 (0,0)) (by (with_reducible repeat (first|refine qab ?_ _|refine qae ?_|refine qaa ?_ _));refine qam ?_ NB174_199.out _;(with_reducible repeat (first|refine qab ?_ _|refine qae ?_|refine qaa ?_ _));refine qam ?_ NB174_199.out _;(with_reducible repeat (first|refine qab ?_ _|refine qae ?_|refine qaa ?_ _));refine qam ?_ NB174_199.out _;(with_reducible repeat (first|refine qab ?_ _|refine qae ?_|refine qaa ?_ _));exact BK174.out) hb);have n4_:=qah.mk (qak (g:=gb181) (o:=.cells #[.int .i64 t176,.int .i64 t177,.slice Ao14 t178.length co14] 32 (0,0)) (by (with_reducible repeat (first|refine qab ?_ _|refine qae ?_|refine qaa ?_ _));refine qam ?_ NB181_199.out _;(with_reducible repeat (first|refine qab ?_ _|refine qae ?_|refine qaa ?_ _));refine qam ?_ NB181_199.out _;(with_reducible repeat (first|refine qab ?_ _|refine qae ?_|refine qaa ?_ _));refine qam ?_ NB181_199.out _;(with_reducible repeat (first|refine qab ?_ _|refine qae ?_|refine qaa ?_ _));exact BK181.out) hb);have n5_:=qah.mk (qak (g:=gb190) (o:=.cells #[.int .i64 t183,.int .i64 t184,.slice Ao21 t185.length co21] 32 (0,0)) (by (with_reducible repeat (first|refine qab ?_ _|refine qae ?_|refine qaa ?_ _));refine qam ?_ NB190_199.out _;(with_reducible repeat (first|refine qab ?_ _|refine qae ?_|refine qaa ?_ _));refine qam ?_ NB190_199.out _;(with_reducible repeat (first|refine qab ?_ _|refine qae ?_|refine qaa ?_ _));refine qam ?_ NB190_199.out _;(with_reducible repeat (first|refine qab ?_ _|refine qae ?_|refine qaa ?_ _));exact BK190.out) hb);have n6_:=qah.mk (qak (g:=gb199) (o:=.cells #[.int .i64 t192,.int .i64 t193,.slice Ao116 t194.length co116] 32 (0,0)) (by (with_reducible repeat (first|refine qab ?_ _|refine qae ?_|refine qaa ?_ _));refine qaq (cs:=#[.int .i64 t192,.int .i64 t193,.slice none 0 0]) ?_ 2 _ rfl;(with_reducible repeat (first|refine qab ?_ _|refine qae ?_|refine qaa ?_ _));refine qaq (cs:=#[.int .i64 t192,.int .i64 0,.slice none 0 0]) ?_ 1 _ rfl;(with_reducible repeat (first|refine qab ?_ _|refine qae ?_|refine qaa ?_ _));refine qaq (cs:=#[.int .i64 0,.int .i64 0,.slice none 0 0]) ?_ 0 _ rfl;(with_reducible repeat (first|refine qab ?_ _|refine qae ?_|refine qaa ?_ _));exact BK199.out) hb);have n7_:=qah.mk (qan (by repeat (first|(with_reducible first|exact HB.out|apply qai|apply qag|apply qaj|refine qac ?_ GE174.out|refine qac ?_ GE181.out|refine qac ?_ GE190.out|refine qac ?_ GE199.out)|exact HB.out)) hb);clear HO_182002;clear HO_191002;clear HO196;clear BK174;clear BK181;clear BK190;clear BK199;clear HB;have HO_182002:=n0_;have HO_191002:=n1_;have HO196:=n2_;have BK174:=n3_;have BK181:=n4_;have BK190:=n5_;have BK199:=n6_;have HB:=n7_;clear n0_ n1_ n2_ n3_ n4_ n5_ n6_ n7_;(try clear hb);(try clear hb2);(try clear hk);(try clear hi)))
         go_ret
         exact⟨by first|rfl|(simp [qat,qas]<;>rfl)|(simp [bneNil,bneNilU]<;>rfl)|(simp [*,qat,qas]<;>rfl),by repeat (first|(with_reducible first|exact HB.out|apply qai|apply qag|apply qaj|refine qac ?_ GE174.out|refine qac ?_ GE181.out|refine qac ?_ GE190.out|refine qac ?_ GE199.out)|exact HB.out)⟩
       ·rw [if_neg c73] at H
        have c73b0:(t188 == (t182.size:Int))=false:=beq_eq_false_iff_ne.mpr c73
        have c73b1:(t188 != (t182.size:Int))=true:=bne_iff_ne.mpr c73
        obtain rfl:=Option.some.inj H
        go_wp2_with (first|((with_reducible refine qax (f:=12) rfl ?_);refine qaO (some 63) rfl rfl Tryd.func12 (by kernel_rfl) rfl #[.string x10_1] rfl (by (try simp only [List.map_toArray,List.map_cons,List.map_nil]);first|done|rfl|(simp only [List.length_drop,List.length_take];rfl)) ?_;(with_reducible refine (parse_Parse.calls x10_1 t192 t193 t194 t197 t198 _ A57.out (Tabs.below HT.out (by repeat (first|(with_reducible first|exact HB.out|apply qai|apply qag|apply qaj|refine qac ?_ GE174.out|refine qac ?_ GE181.out|refine qac ?_ GE190.out)|exact HB.out)))).mono ?_);rintro e w121 ⟨v195,rfl,ho0,hb⟩;refine⟨_,rfl,?_⟩;have n0_:=qah.mk (Kd.N_elder' (by (with_reducible repeat (first|apply Kd.N_alloc|apply Kd.N_drewN|apply Kd.N_drew));exact HO_182002.out) (Kd.S_base ho0) hb);have n1_:=qah.mk (Kd.N_elder' (by (with_reducible repeat (first|apply Kd.N_alloc|apply Kd.N_drewN|apply Kd.N_drew));exact HO_191002.out) (Kd.S_base ho0) hb);have n2_:=qah.mk (Kd.N_lower (Kd.N_mono (ok':=fun k_=>some k_≠(.slice Ao14 t178.length co14:Value).ownBlock∧some k_≠(.slice Ao21 t185.length co21:Value).ownBlock∧k_≠gb174∧k_≠gb181∧k_≠gb190) (Kd.S_N (Kd.S_bound ho0)) (fun k_ hk_=>⟨(Kd.fresh' (Kd.N_lt (by (with_reducible repeat (first|apply Kd.N_alloc|apply Kd.N_drewN|apply Kd.N_drew));exact HO_182002.out)) k_ hk_.2.1),(Kd.fresh' (Kd.N_lt (by (with_reducible repeat (first|apply Kd.N_alloc|apply Kd.N_drewN|apply Kd.N_drew));exact HO_191002.out)) k_ hk_.2.1),(Kd.freshB (g:=gb174) (o:=.cells #[.int .i64 a0_0,.int .i64 a0_1,.slice A0_2 l0_2.length c0_2] 24 (0,0)) (by (with_reducible repeat (first|refine qab ?_ _|refine qae ?_|refine qaa ?_ _));exact BK174.out) k_ hk_.2.1),(Kd.freshB (g:=gb181) (o:=.cells #[.int .i64 t176,.int .i64 t177,.slice Ao14 t178.length co14] 32 (0,0)) (by (with_reducible repeat (first|refine qab ?_ _|refine qae ?_|refine qaa ?_ _));exact BK181.out) k_ hk_.2.1),(Kd.freshB (g:=gb190) (o:=.cells #[.int .i64 t183,.int .i64 t184,.slice Ao21 t185.length co21] 32 (0,0)) (by (with_reducible repeat (first|refine qab ?_ _|refine qae ?_|refine qaa ?_ _));exact BK190.out) k_ hk_.2.1)⟩)) (qal (by repeat (first|(with_reducible first|exact HB.out|apply qai|apply qag|apply qaj|refine qac ?_ GE174.out|refine qac ?_ GE181.out|refine qac ?_ GE190.out)|exact HB.out))));have n3_:=qah.mk (qak (g:=gb174) (o:=.cells #[.int .i64 a0_0,.int .i64 a0_1,.slice A0_2 l0_2.length c0_2] 24 (0,0)) (by (with_reducible repeat (first|refine qab ?_ _|refine qae ?_|refine qaa ?_ _));exact BK174.out) hb);have n4_:=qah.mk (qak (g:=gb181) (o:=.cells #[.int .i64 t176,.int .i64 t177,.slice Ao14 t178.length co14] 32 (0,0)) (by (with_reducible repeat (first|refine qab ?_ _|refine qae ?_|refine qaa ?_ _));exact BK181.out) hb);have n5_:=qah.mk (qak (g:=gb190) (o:=.cells #[.int .i64 t183,.int .i64 t184,.slice Ao21 t185.length co21] 32 (0,0)) (by (with_reducible repeat (first|refine qab ?_ _|refine qae ?_|refine qaa ?_ _));exact BK190.out) hb);have n6_:=qah.mk (qan (by repeat (first|(with_reducible first|exact HB.out|apply qai|apply qag|apply qaj|refine qac ?_ GE174.out|refine qac ?_ GE181.out|refine qac ?_ GE190.out)|exact HB.out)) hb);clear HO_182002;clear HO_191002;clear BK174;clear BK181;clear BK190;clear HB;have HO_182002:=n0_;have HO_191002:=n1_;have HO196:=n2_;have BK174:=n3_;have BK181:=n4_;have BK190:=n5_;have HB:=n6_;clear n0_ n1_ n2_ n3_ n4_ n5_ n6_;(try clear hb);(try clear hb2);(try clear hk);(try clear hi);(try clear ho0))|((with_reducible refine qaA (N:=12) rfl ?_);(try (refine qaD (by rfl) ?_;dsimp only));refine qaz ?hg (N:=12) ?hd (cs:=#[.int .i64 0,.int .i64 0,.slice none 0 0]) (t:=32) ?hr ?_;(case hd=>rfl);(case hg=>rfl);(case hr=>first|(go_simp;done)|(go_simp;rfl));intro gb199 hg w122 hbox hb;have n0_:=qah.mk (Kd.N_below (Kd.N_elderB (by (with_reducible repeat (first|apply Kd.N_alloc|apply Kd.N_drewN|apply Kd.N_drew));exact HO_182002.out) gb199 (Nat.le_of_eq hg.symm)) hb);have n1_:=qah.mk (Kd.N_below (Kd.N_elderB (by (with_reducible repeat (first|apply Kd.N_alloc|apply Kd.N_drewN|apply Kd.N_drew));exact HO_191002.out) gb199 (Nat.le_of_eq hg.symm)) hb);have n2_:=qah.mk (Kd.N_below (Kd.N_elderB (by (with_reducible repeat (first|apply Kd.N_alloc|apply Kd.N_drewN|apply Kd.N_drew));exact HO196.out) gb199 (Nat.le_of_eq hg.symm)) hb);have n3_:=qah.mk (qak (g:=gb174) (o:=.cells #[.int .i64 a0_0,.int .i64 a0_1,.slice A0_2 l0_2.length c0_2] 24 (0,0)) (by (with_reducible repeat (first|refine qab ?_ _|refine qae ?_|refine qaa ?_ _));exact BK174.out) hb);have n4_:=qah.mk (qak (g:=gb181) (o:=.cells #[.int .i64 t176,.int .i64 t177,.slice Ao14 t178.length co14] 32 (0,0)) (by (with_reducible repeat (first|refine qab ?_ _|refine qae ?_|refine qaa ?_ _));exact BK181.out) hb);have n5_:=qah.mk (qak (g:=gb190) (o:=.cells #[.int .i64 t183,.int .i64 t184,.slice Ao21 t185.length co21] 32 (0,0)) (by (with_reducible repeat (first|refine qab ?_ _|refine qae ?_|refine qaa ?_ _));exact BK190.out) hb);have n6_:=qah.mk (qan (by repeat (first|(with_reducible first|exact HB.out|apply qai|apply qag|apply qaj|refine qac ?_ GE174.out|refine qac ?_ GE181.out|refine qac ?_ GE190.out)|exact HB.out)) hb);have n7_:=qah.mk (hbox);have n8_:=qah.mk ((by rw [hg];exact (qal (by repeat (first|(with_reducible first|exact HB.out|apply qai|apply qag|apply qaj|refine qac ?_ GE174.out|refine qac ?_ GE181.out|refine qac ?_ GE190.out)|exact HB.out))):w.heap.size≤gb199));have n9_:=qah.mk ((by rw [hg];exact (qal (by repeat (first|(with_reducible first|exact HB.out|apply qai|apply qag|apply qaj|refine qac ?_ GE174.out|refine qac ?_ GE181.out|refine qac ?_ GE190.out)|exact HB.out))):w.heap.size≤gb199));have n10_:=qah.mk ((by rw [hg];exact Nat.ne_of_lt (qau (g:=gb174) (o:=.cells #[.int .i64 a0_0,.int .i64 a0_1,.slice A0_2 l0_2.length c0_2] 24 (0,0)) (by (with_reducible repeat (first|refine qab ?_ _|refine qae ?_|refine qaa ?_ _));exact BK174.out)):gb174≠gb199));have n11_:=qah.mk ((by rw [hg];exact Nat.ne_of_gt (qau (g:=gb174) (o:=.cells #[.int .i64 a0_0,.int .i64 a0_1,.slice A0_2 l0_2.length c0_2] 24 (0,0)) (by (with_reducible repeat (first|refine qab ?_ _|refine qae ?_|refine qaa ?_ _));exact BK174.out)):gb199≠gb174));have n12_:=qah.mk ((by rw [hg];exact Nat.ne_of_lt (qau (g:=gb181) (o:=.cells #[.int .i64 t176,.int .i64 t177,.slice Ao14 t178.length co14] 32 (0,0)) (by (with_reducible repeat (first|refine qab ?_ _|refine qae ?_|refine qaa ?_ _));exact BK181.out)):gb181≠gb199));have n13_:=qah.mk ((by rw [hg];exact Nat.ne_of_gt (qau (g:=gb181) (o:=.cells #[.int .i64 t176,.int .i64 t177,.slice Ao14 t178.length co14] 32 (0,0)) (by (with_reducible repeat (first|refine qab ?_ _|refine qae ?_|refine qaa ?_ _));exact BK181.out)):gb199≠gb181));have n14_:=qah.mk ((by rw [hg];exact Nat.ne_of_lt (qau (g:=gb190) (o:=.cells #[.int .i64 t183,.int .i64 t184,.slice Ao21 t185.length co21] 32 (0,0)) (by (with_reducible repeat (first|refine qab ?_ _|refine qae ?_|refine qaa ?_ _));exact BK190.out)):gb190≠gb199));have n15_:=qah.mk ((by rw [hg];exact Nat.ne_of_gt (qau (g:=gb190) (o:=.cells #[.int .i64 t183,.int .i64 t184,.slice Ao21 t185.length co21] 32 (0,0)) (by (with_reducible repeat (first|refine qab ?_ _|refine qae ?_|refine qaa ?_ _));exact BK190.out)):gb199≠gb190));clear HO_182002;clear HO_191002;clear HO196;clear BK174;clear BK181;clear BK190;clear HB;have HO_182002:=n0_;have HO_191002:=n1_;have HO196:=n2_;have BK174:=n3_;have BK181:=n4_;have BK190:=n5_;have HB:=n6_;have BK199:=n7_;have GW199:=n8_;have GE199:=n9_;have NB174_199:=n10_;have NB199_174:=n11_;have NB181_199:=n12_;have NB199_181:=n13_;have NB190_199:=n14_;have NB199_190:=n15_;clear n0_ n1_ n2_ n3_ n4_ n5_ n6_ n7_ n8_ n9_ n10_ n11_ n12_ n13_ n14_ n15_;clear hb hbox hg;have hnb123:=NB199_174.out;have hnc123:=NB174_199.out;have hnb124:=NB199_181.out;have hnc124:=NB181_199.out;have hnb125:=NB199_190.out;have hnc125:=NB190_199.out;have hcz126_0:w122.cell? ⟨gb199,0,none⟩=some (.int .i64 0):=(qaf BK199.out 0).trans rfl;have hcz126_1:w122.cell? ⟨gb199,1,none⟩=some (.int .i64 0):=(qaf BK199.out 1).trans rfl;have hcz126_2:w122.cell? ⟨gb199,2,none⟩=some (.slice none 0 0):=(qaf BK199.out 2).trans rfl;have hfz126_0:=qad BK199.out 0;have hfz126_1:=qad BK199.out 1;have hfz126_2:=qad BK199.out 2;obtain⟨Ao127,co127,eo127⟩:=Kd.N_slice HO196.out;subst eo127;have hnb128:=NB181_174.out;have hnc128:=NB174_181.out;have hnb129:=NB181_190.out;have hnc129:=NB190_181.out;have hcz130_0:w122.cell? ⟨gb181,0,none⟩=some (.int .i64 t176):=(qaf BK181.out 0).trans rfl;have hcz130_1:w122.cell? ⟨gb181,1,none⟩=some (.int .i64 t177):=(qaf BK181.out 1).trans rfl;have hcz130_2:w122.cell? ⟨gb181,2,none⟩=some (.slice Ao14 t178.length co14):=(qaf BK181.out 2).trans rfl;have hfz130_0:=qad BK181.out 0;have hfz130_1:=qad BK181.out 1;have hfz130_2:=qad BK181.out 2)|((with_reducible refine qax (f:=14) rfl ?_);refine qaO (some 69) rfl rfl Tryd.func14 (by kernel_rfl) rfl #[.agg #[.int .i64 t192,.int .i64 t193,.slice Ao127 t194.length co127],.agg #[.int .i64 t176,.int .i64 t177,.slice Ao14 t178.length co14]] rfl (by (try simp only [List.map_toArray,List.map_cons,List.map_nil]);first|done|rfl|(simp only [List.length_drop,List.length_take];rfl)) ?_;(with_reducible refine (ostinatoref05_Same.calls k1 t192 t193 _ _ t194 t176 t177 _ _ t178 t200 _ ?side1 ?side2 ?side3 ?side4 A58.out).mono ?_);(case side1=>refine (Kd.N_reads' (e:=52) (base:=w.heap.size) (ok:=fun k_=>((some k_≠(.slice Ao14 t178.length co14:Value).ownBlock∧(some k_≠(.slice Ao21 t185.length co21:Value).ownBlock∧(k_≠gb174∧(k_≠gb181∧k_≠gb190))))∧k_≠gb199)) (n:=t194.length) (c:=co127) ?_).2.2;exact (by (with_reducible repeat (first|apply Kd.N_alloc|apply Kd.N_drewN|apply Kd.N_drew));exact (Kd.N_mono (Kd.N_far (p:=⟨gb199,2,none⟩) (Kd.N_far (p:=⟨gb199,1,none⟩) (Kd.N_far (p:=⟨gb199,0,none⟩) (Kd.N_mono HO196.out (fun k_ hk=>(⟨hk,hk.2⟩:_∧k_≠gb199))) (fun _ hk=>hk.2) (.int .i64 t192)) (fun _ hk=>hk.2) (.int .i64 t193)) (fun _ hk=>hk.2) (.slice Ao127 t194.length co127)) (fun _ h_=>h_.1))));(case side2=>exact (Kd.N_reads' HO196.out).2.1);(case side3=>refine (Kd.N_reads' (e:=52) (base:=w.heap.size) (ok:=fun k_=>(((some k_≠(.slice Ao21 t185.length co21:Value).ownBlock∧(k_≠gb174∧(k_≠gb181∧k_≠gb190)))∧some k_≠(.slice Ao127 t194.length co127:Value).ownBlock)∧k_≠gb199)) (n:=t178.length) (c:=co14) ?_).2.2;exact (by (with_reducible repeat (first|apply Kd.N_alloc|apply Kd.N_drewN|apply Kd.N_drew));exact (Kd.N_mono (Kd.N_far (p:=⟨gb199,2,none⟩) (Kd.N_far (p:=⟨gb199,1,none⟩) (Kd.N_far (p:=⟨gb199,0,none⟩) (Kd.N_mono HO_182002.out (fun k_ hk=>(⟨hk,hk.2⟩:_∧k_≠gb199))) (fun _ hk=>hk.2) (.int .i64 t192)) (fun _ hk=>hk.2) (.int .i64 t193)) (fun _ hk=>hk.2) (.slice Ao127 t194.length co127)) (fun _ h_=>h_.1))));(case side4=>exact (Kd.N_reads' HO_182002.out).2.1);rintro e w131 ⟨rfl,hb⟩;refine⟨_,rfl,?_⟩;have n0_:=qah.mk (Kd.N_below (by (with_reducible repeat (first|apply Kd.N_alloc|apply Kd.N_drewN|apply Kd.N_drew));exact (Kd.N_mono (Kd.N_far (p:=⟨gb199,2,none⟩) (Kd.N_far (p:=⟨gb199,1,none⟩) (Kd.N_far (p:=⟨gb199,0,none⟩) (Kd.N_mono HO_182002.out (fun k_ hk=>(⟨hk,hk.2⟩:_∧k_≠gb199))) (fun _ hk=>hk.2) (.int .i64 t192)) (fun _ hk=>hk.2) (.int .i64 t193)) (fun _ hk=>hk.2) (.slice Ao127 t194.length co127)) (fun _ h_=>h_.1))) hb);have n1_:=qah.mk (Kd.N_below (by (with_reducible repeat (first|apply Kd.N_alloc|apply Kd.N_drewN|apply Kd.N_drew));exact (Kd.N_mono (Kd.N_far (p:=⟨gb199,2,none⟩) (Kd.N_far (p:=⟨gb199,1,none⟩) (Kd.N_far (p:=⟨gb199,0,none⟩) (Kd.N_mono HO_191002.out (fun k_ hk=>(⟨hk,hk.2⟩:_∧k_≠gb199))) (fun _ hk=>hk.2) (.int .i64 t192)) (fun _ hk=>hk.2) (.int .i64 t193)) (fun _ hk=>hk.2) (.slice Ao127 t194.length co127)) (fun _ h_=>h_.1))) hb);have n2_:=qah.mk (Kd.N_below (by (with_reducible repeat (first|apply Kd.N_alloc|apply Kd.N_drewN|apply Kd.N_drew));exact (Kd.N_mono (Kd.N_far (p:=⟨gb199,2,none⟩) (Kd.N_far (p:=⟨gb199,1,none⟩) (Kd.N_far (p:=⟨gb199,0,none⟩) (Kd.N_mono HO196.out (fun k_ hk=>(⟨hk,hk.2⟩:_∧k_≠gb199))) (fun _ hk=>hk.2) (.int .i64 t192)) (fun _ hk=>hk.2) (.int .i64 t193)) (fun _ hk=>hk.2) (.slice Ao127 t194.length co127)) (fun _ h_=>h_.1))) hb);have n3_:=qah.mk (qak (g:=gb174) (o:=.cells #[.int .i64 a0_0,.int .i64 a0_1,.slice A0_2 l0_2.length c0_2] 24 (0,0)) (by (with_reducible repeat (first|refine qab ?_ _|refine qae ?_|refine qaa ?_ _));refine qam ?_ NB174_199.out _;(with_reducible repeat (first|refine qab ?_ _|refine qae ?_|refine qaa ?_ _));refine qam ?_ NB174_199.out _;(with_reducible repeat (first|refine qab ?_ _|refine qae ?_|refine qaa ?_ _));refine qam ?_ NB174_199.out _;(with_reducible repeat (first|refine qab ?_ _|refine qae ?_|refine qaa ?_ _));exact BK174.out) hb);have n4_:=qah.mk (qak (g:=gb181) (o:=.cells #[.int .i64 t176,.int .i64 t177,.slice Ao14 t178.length co14] 32 (0,0)) (by (with_reducible repeat (first|refine qab ?_ _|refine qae ?_|refine qaa ?_ _));refine qam ?_ NB181_199.out _;(with_reducible repeat (first|refine qab ?_ _|refine qae ?_|refine qaa ?_ _));refine qam ?_ NB181_199.out _;(with_reducible repeat (first|refine qab ?_ _|refine qae ?_|refine qaa ?_ _));refine qam ?_ NB181_199.out _;(with_reducible repeat (first|refine qab ?_ _|refine qae ?_|refine qaa ?_ _));exact BK181.out) hb);have n5_:=qah.mk (qak (g:=gb190) (o:=.cells #[.int .i64 t183,.int .i64 t184,.slice Ao21 t185.length co21] 32 (0,0)) (by (with_reducible repeat (first|refine qab ?_ _|refine qae ?_|refine qaa ?_ _));refine qam ?_ NB190_199.out _;(with_reducible repeat (first|refine qab ?_ _|refine qae ?_|refine qaa ?_ _));refine qam ?_ NB190_199.out _;(with_reducible repeat (first|refine qab ?_ _|refine qae ?_|refine qaa ?_ _));refine qam ?_ NB190_199.out _;(with_reducible repeat (first|refine qab ?_ _|refine qae ?_|refine qaa ?_ _));exact BK190.out) hb);have n6_:=qah.mk (qak (g:=gb199) (o:=.cells #[.int .i64 t192,.int .i64 t193,.slice Ao127 t194.length co127] 32 (0,0)) (by (with_reducible repeat (first|refine qab ?_ _|refine qae ?_|refine qaa ?_ _));refine qaq (cs:=#[.int .i64 t192,.int .i64 t193,.slice none 0 0]) ?_ 2 _ rfl;(with_reducible repeat (first|refine qab ?_ _|refine qae ?_|refine qaa ?_ _));refine qaq (cs:=#[.int .i64 t192,.int .i64 0,.slice none 0 0]) ?_ 1 _ rfl;(with_reducible repeat (first|refine qab ?_ _|refine qae ?_|refine qaa ?_ _));refine qaq (cs:=#[.int .i64 0,.int .i64 0,.slice none 0 0]) ?_ 0 _ rfl;(with_reducible repeat (first|refine qab ?_ _|refine qae ?_|refine qaa ?_ _));exact BK199.out) hb);have n7_:=qah.mk (qan (by repeat (first|(with_reducible first|exact HB.out|apply qai|apply qag|apply qaj|refine qac ?_ GE174.out|refine qac ?_ GE181.out|refine qac ?_ GE190.out|refine qac ?_ GE199.out)|exact HB.out)) hb);clear HO_182002;clear HO_191002;clear HO196;clear BK174;clear BK181;clear BK190;clear BK199;clear HB;have HO_182002:=n0_;have HO_191002:=n1_;have HO196:=n2_;have BK174:=n3_;have BK181:=n4_;have BK190:=n5_;have BK199:=n6_;have HB:=n7_;clear n0_ n1_ n2_ n3_ n4_ n5_ n6_ n7_;(try clear hb);(try clear hb2);(try clear hk);(try clear hi)))
        go_ret
        exact⟨by first|rfl|(simp [qat,qas]<;>rfl)|(simp [bneNil,bneNilU]<;>rfl)|(simp [*,qat,qas]<;>rfl),by repeat (first|(with_reducible first|exact HB.out|apply qai|apply qag|apply qaj|refine qac ?_ GE174.out|refine qac ?_ GE181.out|refine qac ?_ GE190.out|refine qac ?_ GE199.out)|exact HB.out)⟩
      ·rw [if_neg c72] at H
       have c72b0:(t189 == 0)=false:=beq_eq_false_iff_ne.mpr c72
       have c72b1:(t189 != 0)=true:=bne_iff_ne.mpr c72
       obtain rfl:=Option.some.inj H
       go_wp2_with (first|((with_reducible refine qax (f:=12) rfl ?_);refine qaO (some 63) rfl rfl Tryd.func12 (by kernel_rfl) rfl #[.string x10_1] rfl (by (try simp only [List.map_toArray,List.map_cons,List.map_nil]);first|done|rfl|(simp only [List.length_drop,List.length_take];rfl)) ?_;(with_reducible refine (parse_Parse.calls x10_1 t192 t193 t194 t197 t198 _ A57.out (Tabs.below HT.out (by repeat (first|(with_reducible first|exact HB.out|apply qai|apply qag|apply qaj|refine qac ?_ GE174.out|refine qac ?_ GE181.out|refine qac ?_ GE190.out)|exact HB.out)))).mono ?_);rintro e w132 ⟨v195,rfl,ho0,hb⟩;refine⟨_,rfl,?_⟩;have n0_:=qah.mk (Kd.N_elder' (by (with_reducible repeat (first|apply Kd.N_alloc|apply Kd.N_drewN|apply Kd.N_drew));exact HO_182002.out) (Kd.S_base ho0) hb);have n1_:=qah.mk (Kd.N_elder' (by (with_reducible repeat (first|apply Kd.N_alloc|apply Kd.N_drewN|apply Kd.N_drew));exact HO_191002.out) (Kd.S_base ho0) hb);have n2_:=qah.mk (Kd.N_lower (Kd.N_mono (ok':=fun k_=>some k_≠(.slice Ao14 t178.length co14:Value).ownBlock∧some k_≠(.slice Ao21 t185.length co21:Value).ownBlock∧k_≠gb174∧k_≠gb181∧k_≠gb190) (Kd.S_N (Kd.S_bound ho0)) (fun k_ hk_=>⟨(Kd.fresh' (Kd.N_lt (by (with_reducible repeat (first|apply Kd.N_alloc|apply Kd.N_drewN|apply Kd.N_drew));exact HO_182002.out)) k_ hk_.2.1),(Kd.fresh' (Kd.N_lt (by (with_reducible repeat (first|apply Kd.N_alloc|apply Kd.N_drewN|apply Kd.N_drew));exact HO_191002.out)) k_ hk_.2.1),(Kd.freshB (g:=gb174) (o:=.cells #[.int .i64 a0_0,.int .i64 a0_1,.slice A0_2 l0_2.length c0_2] 24 (0,0)) (by (with_reducible repeat (first|refine qab ?_ _|refine qae ?_|refine qaa ?_ _));exact BK174.out) k_ hk_.2.1),(Kd.freshB (g:=gb181) (o:=.cells #[.int .i64 t176,.int .i64 t177,.slice Ao14 t178.length co14] 32 (0,0)) (by (with_reducible repeat (first|refine qab ?_ _|refine qae ?_|refine qaa ?_ _));exact BK181.out) k_ hk_.2.1),(Kd.freshB (g:=gb190) (o:=.cells #[.int .i64 t183,.int .i64 t184,.slice Ao21 t185.length co21] 32 (0,0)) (by (with_reducible repeat (first|refine qab ?_ _|refine qae ?_|refine qaa ?_ _));exact BK190.out) k_ hk_.2.1)⟩)) (qal (by repeat (first|(with_reducible first|exact HB.out|apply qai|apply qag|apply qaj|refine qac ?_ GE174.out|refine qac ?_ GE181.out|refine qac ?_ GE190.out)|exact HB.out))));have n3_:=qah.mk (qak (g:=gb174) (o:=.cells #[.int .i64 a0_0,.int .i64 a0_1,.slice A0_2 l0_2.length c0_2] 24 (0,0)) (by (with_reducible repeat (first|refine qab ?_ _|refine qae ?_|refine qaa ?_ _));exact BK174.out) hb);have n4_:=qah.mk (qak (g:=gb181) (o:=.cells #[.int .i64 t176,.int .i64 t177,.slice Ao14 t178.length co14] 32 (0,0)) (by (with_reducible repeat (first|refine qab ?_ _|refine qae ?_|refine qaa ?_ _));exact BK181.out) hb);have n5_:=qah.mk (qak (g:=gb190) (o:=.cells #[.int .i64 t183,.int .i64 t184,.slice Ao21 t185.length co21] 32 (0,0)) (by (with_reducible repeat (first|refine qab ?_ _|refine qae ?_|refine qaa ?_ _));exact BK190.out) hb);have n6_:=qah.mk (qan (by repeat (first|(with_reducible first|exact HB.out|apply qai|apply qag|apply qaj|refine qac ?_ GE174.out|refine qac ?_ GE181.out|refine qac ?_ GE190.out)|exact HB.out)) hb);clear HO_182002;clear HO_191002;clear BK174;clear BK181;clear BK190;clear HB;have HO_182002:=n0_;have HO_191002:=n1_;have HO196:=n2_;have BK174:=n3_;have BK181:=n4_;have BK190:=n5_;have HB:=n6_;clear n0_ n1_ n2_ n3_ n4_ n5_ n6_;(try clear hb);(try clear hb2);(try clear hk);(try clear hi);(try clear ho0))|((with_reducible refine qaA (N:=12) rfl ?_);(try (refine qaD (by rfl) ?_;dsimp only));refine qaz ?hg (N:=12) ?hd (cs:=#[.int .i64 0,.int .i64 0,.slice none 0 0]) (t:=32) ?hr ?_;(case hd=>rfl);(case hg=>rfl);(case hr=>first|(go_simp;done)|(go_simp;rfl));intro gb199 hg w133 hbox hb;have n0_:=qah.mk (Kd.N_below (Kd.N_elderB (by (with_reducible repeat (first|apply Kd.N_alloc|apply Kd.N_drewN|apply Kd.N_drew));exact HO_182002.out) gb199 (Nat.le_of_eq hg.symm)) hb);have n1_:=qah.mk (Kd.N_below (Kd.N_elderB (by (with_reducible repeat (first|apply Kd.N_alloc|apply Kd.N_drewN|apply Kd.N_drew));exact HO_191002.out) gb199 (Nat.le_of_eq hg.symm)) hb);have n2_:=qah.mk (Kd.N_below (Kd.N_elderB (by (with_reducible repeat (first|apply Kd.N_alloc|apply Kd.N_drewN|apply Kd.N_drew));exact HO196.out) gb199 (Nat.le_of_eq hg.symm)) hb);have n3_:=qah.mk (qak (g:=gb174) (o:=.cells #[.int .i64 a0_0,.int .i64 a0_1,.slice A0_2 l0_2.length c0_2] 24 (0,0)) (by (with_reducible repeat (first|refine qab ?_ _|refine qae ?_|refine qaa ?_ _));exact BK174.out) hb);have n4_:=qah.mk (qak (g:=gb181) (o:=.cells #[.int .i64 t176,.int .i64 t177,.slice Ao14 t178.length co14] 32 (0,0)) (by (with_reducible repeat (first|refine qab ?_ _|refine qae ?_|refine qaa ?_ _));exact BK181.out) hb);have n5_:=qah.mk (qak (g:=gb190) (o:=.cells #[.int .i64 t183,.int .i64 t184,.slice Ao21 t185.length co21] 32 (0,0)) (by (with_reducible repeat (first|refine qab ?_ _|refine qae ?_|refine qaa ?_ _));exact BK190.out) hb);have n6_:=qah.mk (qan (by repeat (first|(with_reducible first|exact HB.out|apply qai|apply qag|apply qaj|refine qac ?_ GE174.out|refine qac ?_ GE181.out|refine qac ?_ GE190.out)|exact HB.out)) hb);have n7_:=qah.mk (hbox);have n8_:=qah.mk ((by rw [hg];exact (qal (by repeat (first|(with_reducible first|exact HB.out|apply qai|apply qag|apply qaj|refine qac ?_ GE174.out|refine qac ?_ GE181.out|refine qac ?_ GE190.out)|exact HB.out))):w.heap.size≤gb199));have n9_:=qah.mk ((by rw [hg];exact (qal (by repeat (first|(with_reducible first|exact HB.out|apply qai|apply qag|apply qaj|refine qac ?_ GE174.out|refine qac ?_ GE181.out|refine qac ?_ GE190.out)|exact HB.out))):w.heap.size≤gb199));have n10_:=qah.mk ((by rw [hg];exact Nat.ne_of_lt (qau (g:=gb174) (o:=.cells #[.int .i64 a0_0,.int .i64 a0_1,.slice A0_2 l0_2.length c0_2] 24 (0,0)) (by (with_reducible repeat (first|refine qab ?_ _|refine qae ?_|refine qaa ?_ _));exact BK174.out)):gb174≠gb199));have n11_:=qah.mk ((by rw [hg];exact Nat.ne_of_gt (qau (g:=gb174) (o:=.cells #[.int .i64 a0_0,.int .i64 a0_1,.slice A0_2 l0_2.length c0_2] 24 (0,0)) (by (with_reducible repeat (first|refine qab ?_ _|refine qae ?_|refine qaa ?_ _));exact BK174.out)):gb199≠gb174));have n12_:=qah.mk ((by rw [hg];exact Nat.ne_of_lt (qau (g:=gb181) (o:=.cells #[.int .i64 t176,.int .i64 t177,.slice Ao14 t178.length co14] 32 (0,0)) (by (with_reducible repeat (first|refine qab ?_ _|refine qae ?_|refine qaa ?_ _));exact BK181.out)):gb181≠gb199));have n13_:=qah.mk ((by rw [hg];exact Nat.ne_of_gt (qau (g:=gb181) (o:=.cells #[.int .i64 t176,.int .i64 t177,.slice Ao14 t178.length co14] 32 (0,0)) (by (with_reducible repeat (first|refine qab ?_ _|refine qae ?_|refine qaa ?_ _));exact BK181.out)):gb199≠gb181));have n14_:=qah.mk ((by rw [hg];exact Nat.ne_of_lt (qau (g:=gb190) (o:=.cells #[.int .i64 t183,.int .i64 t184,.slice Ao21 t185.length co21] 32 (0,0)) (by (with_reducible repeat (first|refine qab ?_ _|refine qae ?_|refine qaa ?_ _));exact BK190.out)):gb190≠gb199));have n15_:=qah.mk ((by rw [hg];exact Nat.ne_of_gt (qau (g:=gb190) (o:=.cells #[.int .i64 t183,.int .i64 t184,.slice Ao21 t185.length co21] 32 (0,0)) (by (with_reducible repeat (first|refine qab ?_ _|refine qae ?_|refine qaa ?_ _));exact BK190.out)):gb199≠gb190));clear HO_182002;clear HO_191002;clear HO196;clear BK174;clear BK181;clear BK190;clear HB;have HO_182002:=n0_;have HO_191002:=n1_;have HO196:=n2_;have BK174:=n3_;have BK181:=n4_;have BK190:=n5_;have HB:=n6_;have BK199:=n7_;have GW199:=n8_;have GE199:=n9_;have NB174_199:=n10_;have NB199_174:=n11_;have NB181_199:=n12_;have NB199_181:=n13_;have NB190_199:=n14_;have NB199_190:=n15_;clear n0_ n1_ n2_ n3_ n4_ n5_ n6_ n7_ n8_ n9_ n10_ n11_ n12_ n13_ n14_ n15_;clear hb hbox hg;have hnb134:=NB199_174.out;have hnc134:=NB174_199.out;have hnb135:=NB199_181.out;have hnc135:=NB181_199.out;have hnb136:=NB199_190.out;have hnc136:=NB190_199.out;have hcz137_0:w133.cell? ⟨gb199,0,none⟩=some (.int .i64 0):=(qaf BK199.out 0).trans rfl;have hcz137_1:w133.cell? ⟨gb199,1,none⟩=some (.int .i64 0):=(qaf BK199.out 1).trans rfl;have hcz137_2:w133.cell? ⟨gb199,2,none⟩=some (.slice none 0 0):=(qaf BK199.out 2).trans rfl;have hfz137_0:=qad BK199.out 0;have hfz137_1:=qad BK199.out 1;have hfz137_2:=qad BK199.out 2;obtain⟨Ao138,co138,eo138⟩:=Kd.N_slice HO196.out;subst eo138;have hnb139:=NB181_174.out;have hnc139:=NB174_181.out;have hnb140:=NB181_190.out;have hnc140:=NB190_181.out;have hcz141_0:w133.cell? ⟨gb181,0,none⟩=some (.int .i64 t176):=(qaf BK181.out 0).trans rfl;have hcz141_1:w133.cell? ⟨gb181,1,none⟩=some (.int .i64 t177):=(qaf BK181.out 1).trans rfl;have hcz141_2:w133.cell? ⟨gb181,2,none⟩=some (.slice Ao14 t178.length co14):=(qaf BK181.out 2).trans rfl;have hfz141_0:=qad BK181.out 0;have hfz141_1:=qad BK181.out 1;have hfz141_2:=qad BK181.out 2)|((with_reducible refine qax (f:=14) rfl ?_);refine qaO (some 69) rfl rfl Tryd.func14 (by kernel_rfl) rfl #[.agg #[.int .i64 t192,.int .i64 t193,.slice Ao138 t194.length co138],.agg #[.int .i64 t176,.int .i64 t177,.slice Ao14 t178.length co14]] rfl (by (try simp only [List.map_toArray,List.map_cons,List.map_nil]);first|done|rfl|(simp only [List.length_drop,List.length_take];rfl)) ?_;(with_reducible refine (ostinatoref05_Same.calls k1 t192 t193 _ _ t194 t176 t177 _ _ t178 t200 _ ?side1 ?side2 ?side3 ?side4 A58.out).mono ?_);(case side1=>refine (Kd.N_reads' (e:=52) (base:=w.heap.size) (ok:=fun k_=>((some k_≠(.slice Ao14 t178.length co14:Value).ownBlock∧(some k_≠(.slice Ao21 t185.length co21:Value).ownBlock∧(k_≠gb174∧(k_≠gb181∧k_≠gb190))))∧k_≠gb199)) (n:=t194.length) (c:=co138) ?_).2.2;exact (by (with_reducible repeat (first|apply Kd.N_alloc|apply Kd.N_drewN|apply Kd.N_drew));exact (Kd.N_mono (Kd.N_far (p:=⟨gb199,2,none⟩) (Kd.N_far (p:=⟨gb199,1,none⟩) (Kd.N_far (p:=⟨gb199,0,none⟩) (Kd.N_mono HO196.out (fun k_ hk=>(⟨hk,hk.2⟩:_∧k_≠gb199))) (fun _ hk=>hk.2) (.int .i64 t192)) (fun _ hk=>hk.2) (.int .i64 t193)) (fun _ hk=>hk.2) (.slice Ao138 t194.length co138)) (fun _ h_=>h_.1))));(case side2=>exact (Kd.N_reads' HO196.out).2.1);(case side3=>refine (Kd.N_reads' (e:=52) (base:=w.heap.size) (ok:=fun k_=>(((some k_≠(.slice Ao21 t185.length co21:Value).ownBlock∧(k_≠gb174∧(k_≠gb181∧k_≠gb190)))∧some k_≠(.slice Ao138 t194.length co138:Value).ownBlock)∧k_≠gb199)) (n:=t178.length) (c:=co14) ?_).2.2;exact (by (with_reducible repeat (first|apply Kd.N_alloc|apply Kd.N_drewN|apply Kd.N_drew));exact (Kd.N_mono (Kd.N_far (p:=⟨gb199,2,none⟩) (Kd.N_far (p:=⟨gb199,1,none⟩) (Kd.N_far (p:=⟨gb199,0,none⟩) (Kd.N_mono HO_182002.out (fun k_ hk=>(⟨hk,hk.2⟩:_∧k_≠gb199))) (fun _ hk=>hk.2) (.int .i64 t192)) (fun _ hk=>hk.2) (.int .i64 t193)) (fun _ hk=>hk.2) (.slice Ao138 t194.length co138)) (fun _ h_=>h_.1))));(case side4=>exact (Kd.N_reads' HO_182002.out).2.1);rintro e w142 ⟨rfl,hb⟩;refine⟨_,rfl,?_⟩;have n0_:=qah.mk (Kd.N_below (by (with_reducible repeat (first|apply Kd.N_alloc|apply Kd.N_drewN|apply Kd.N_drew));exact (Kd.N_mono (Kd.N_far (p:=⟨gb199,2,none⟩) (Kd.N_far (p:=⟨gb199,1,none⟩) (Kd.N_far (p:=⟨gb199,0,none⟩) (Kd.N_mono HO_182002.out (fun k_ hk=>(⟨hk,hk.2⟩:_∧k_≠gb199))) (fun _ hk=>hk.2) (.int .i64 t192)) (fun _ hk=>hk.2) (.int .i64 t193)) (fun _ hk=>hk.2) (.slice Ao138 t194.length co138)) (fun _ h_=>h_.1))) hb);have n1_:=qah.mk (Kd.N_below (by (with_reducible repeat (first|apply Kd.N_alloc|apply Kd.N_drewN|apply Kd.N_drew));exact (Kd.N_mono (Kd.N_far (p:=⟨gb199,2,none⟩) (Kd.N_far (p:=⟨gb199,1,none⟩) (Kd.N_far (p:=⟨gb199,0,none⟩) (Kd.N_mono HO_191002.out (fun k_ hk=>(⟨hk,hk.2⟩:_∧k_≠gb199))) (fun _ hk=>hk.2) (.int .i64 t192)) (fun _ hk=>hk.2) (.int .i64 t193)) (fun _ hk=>hk.2) (.slice Ao138 t194.length co138)) (fun _ h_=>h_.1))) hb);have n2_:=qah.mk (Kd.N_below (by (with_reducible repeat (first|apply Kd.N_alloc|apply Kd.N_drewN|apply Kd.N_drew));exact (Kd.N_mono (Kd.N_far (p:=⟨gb199,2,none⟩) (Kd.N_far (p:=⟨gb199,1,none⟩) (Kd.N_far (p:=⟨gb199,0,none⟩) (Kd.N_mono HO196.out (fun k_ hk=>(⟨hk,hk.2⟩:_∧k_≠gb199))) (fun _ hk=>hk.2) (.int .i64 t192)) (fun _ hk=>hk.2) (.int .i64 t193)) (fun _ hk=>hk.2) (.slice Ao138 t194.length co138)) (fun _ h_=>h_.1))) hb);have n3_:=qah.mk (qak (g:=gb174) (o:=.cells #[.int .i64 a0_0,.int .i64 a0_1,.slice A0_2 l0_2.length c0_2] 24 (0,0)) (by (with_reducible repeat (first|refine qab ?_ _|refine qae ?_|refine qaa ?_ _));refine qam ?_ NB174_199.out _;(with_reducible repeat (first|refine qab ?_ _|refine qae ?_|refine qaa ?_ _));refine qam ?_ NB174_199.out _;(with_reducible repeat (first|refine qab ?_ _|refine qae ?_|refine qaa ?_ _));refine qam ?_ NB174_199.out _;(with_reducible repeat (first|refine qab ?_ _|refine qae ?_|refine qaa ?_ _));exact BK174.out) hb);have n4_:=qah.mk (qak (g:=gb181) (o:=.cells #[.int .i64 t176,.int .i64 t177,.slice Ao14 t178.length co14] 32 (0,0)) (by (with_reducible repeat (first|refine qab ?_ _|refine qae ?_|refine qaa ?_ _));refine qam ?_ NB181_199.out _;(with_reducible repeat (first|refine qab ?_ _|refine qae ?_|refine qaa ?_ _));refine qam ?_ NB181_199.out _;(with_reducible repeat (first|refine qab ?_ _|refine qae ?_|refine qaa ?_ _));refine qam ?_ NB181_199.out _;(with_reducible repeat (first|refine qab ?_ _|refine qae ?_|refine qaa ?_ _));exact BK181.out) hb);have n5_:=qah.mk (qak (g:=gb190) (o:=.cells #[.int .i64 t183,.int .i64 t184,.slice Ao21 t185.length co21] 32 (0,0)) (by (with_reducible repeat (first|refine qab ?_ _|refine qae ?_|refine qaa ?_ _));refine qam ?_ NB190_199.out _;(with_reducible repeat (first|refine qab ?_ _|refine qae ?_|refine qaa ?_ _));refine qam ?_ NB190_199.out _;(with_reducible repeat (first|refine qab ?_ _|refine qae ?_|refine qaa ?_ _));refine qam ?_ NB190_199.out _;(with_reducible repeat (first|refine qab ?_ _|refine qae ?_|refine qaa ?_ _));exact BK190.out) hb);have n6_:=qah.mk (qak (g:=gb199) (o:=.cells #[.int .i64 t192,.int .i64 t193,.slice Ao138 t194.length co138] 32 (0,0)) (by (with_reducible repeat (first|refine qab ?_ _|refine qae ?_|refine qaa ?_ _));refine qaq (cs:=#[.int .i64 t192,.int .i64 t193,.slice none 0 0]) ?_ 2 _ rfl;(with_reducible repeat (first|refine qab ?_ _|refine qae ?_|refine qaa ?_ _));refine qaq (cs:=#[.int .i64 t192,.int .i64 0,.slice none 0 0]) ?_ 1 _ rfl;(with_reducible repeat (first|refine qab ?_ _|refine qae ?_|refine qaa ?_ _));refine qaq (cs:=#[.int .i64 0,.int .i64 0,.slice none 0 0]) ?_ 0 _ rfl;(with_reducible repeat (first|refine qab ?_ _|refine qae ?_|refine qaa ?_ _));exact BK199.out) hb);have n7_:=qah.mk (qan (by repeat (first|(with_reducible first|exact HB.out|apply qai|apply qag|apply qaj|refine qac ?_ GE174.out|refine qac ?_ GE181.out|refine qac ?_ GE190.out|refine qac ?_ GE199.out)|exact HB.out)) hb);clear HO_182002;clear HO_191002;clear HO196;clear BK174;clear BK181;clear BK190;clear BK199;clear HB;have HO_182002:=n0_;have HO_191002:=n1_;have HO196:=n2_;have BK174:=n3_;have BK181:=n4_;have BK190:=n5_;have BK199:=n6_;have HB:=n7_;clear n0_ n1_ n2_ n3_ n4_ n5_ n6_ n7_;(try clear hb);(try clear hb2);(try clear hk);(try clear hi)))
       go_ret
       exact⟨by first|rfl|(simp [qat,qas]<;>rfl)|(simp [bneNil,bneNilU]<;>rfl)|(simp [*,qat,qas]<;>rfl),by repeat (first|(with_reducible first|exact HB.out|apply qai|apply qag|apply qaj|refine qac ?_ GE174.out|refine qac ?_ GE181.out|refine qac ?_ GE190.out|refine qac ?_ GE199.out)|exact HB.out)⟩
    ·replace c59:=Bool.eq_false_iff.mpr c59
     subst c59
     have H1:(some false)=some r:=by rw [if_neg (show ¬ (false=true) by decide)] at H;exact H
     clear H
     have H:=H1
     clear H1
     obtain rfl:=Option.some.inj H
     go_wp2_with (first|((with_reducible refine qax (f:=12) rfl ?_);refine qaO (some 63) rfl rfl Tryd.func12 (by kernel_rfl) rfl #[.string x10_1] rfl (by (try simp only [List.map_toArray,List.map_cons,List.map_nil]);first|done|rfl|(simp only [List.length_drop,List.length_take];rfl)) ?_;(with_reducible refine (parse_Parse.calls x10_1 t192 t193 t194 t197 t198 _ A57.out (Tabs.below HT.out (by repeat (first|(with_reducible first|exact HB.out|apply qai|apply qag|apply qaj|refine qac ?_ GE174.out|refine qac ?_ GE181.out|refine qac ?_ GE190.out)|exact HB.out)))).mono ?_);rintro e w143 ⟨v195,rfl,ho0,hb⟩;refine⟨_,rfl,?_⟩;have n0_:=qah.mk (Kd.N_elder' (by (with_reducible repeat (first|apply Kd.N_alloc|apply Kd.N_drewN|apply Kd.N_drew));exact HO_182002.out) (Kd.S_base ho0) hb);have n1_:=qah.mk (Kd.N_elder' (by (with_reducible repeat (first|apply Kd.N_alloc|apply Kd.N_drewN|apply Kd.N_drew));exact HO_191002.out) (Kd.S_base ho0) hb);have n2_:=qah.mk (Kd.N_lower (Kd.N_mono (ok':=fun k_=>some k_≠(.slice Ao14 t178.length co14:Value).ownBlock∧some k_≠(.slice Ao21 t185.length co21:Value).ownBlock∧k_≠gb174∧k_≠gb181∧k_≠gb190) (Kd.S_N (Kd.S_bound ho0)) (fun k_ hk_=>⟨(Kd.fresh' (Kd.N_lt (by (with_reducible repeat (first|apply Kd.N_alloc|apply Kd.N_drewN|apply Kd.N_drew));exact HO_182002.out)) k_ hk_.2.1),(Kd.fresh' (Kd.N_lt (by (with_reducible repeat (first|apply Kd.N_alloc|apply Kd.N_drewN|apply Kd.N_drew));exact HO_191002.out)) k_ hk_.2.1),(Kd.freshB (g:=gb174) (o:=.cells #[.int .i64 a0_0,.int .i64 a0_1,.slice A0_2 l0_2.length c0_2] 24 (0,0)) (by (with_reducible repeat (first|refine qab ?_ _|refine qae ?_|refine qaa ?_ _));exact BK174.out) k_ hk_.2.1),(Kd.freshB (g:=gb181) (o:=.cells #[.int .i64 t176,.int .i64 t177,.slice Ao14 t178.length co14] 32 (0,0)) (by (with_reducible repeat (first|refine qab ?_ _|refine qae ?_|refine qaa ?_ _));exact BK181.out) k_ hk_.2.1),(Kd.freshB (g:=gb190) (o:=.cells #[.int .i64 t183,.int .i64 t184,.slice Ao21 t185.length co21] 32 (0,0)) (by (with_reducible repeat (first|refine qab ?_ _|refine qae ?_|refine qaa ?_ _));exact BK190.out) k_ hk_.2.1)⟩)) (qal (by repeat (first|(with_reducible first|exact HB.out|apply qai|apply qag|apply qaj|refine qac ?_ GE174.out|refine qac ?_ GE181.out|refine qac ?_ GE190.out)|exact HB.out))));have n3_:=qah.mk (qak (g:=gb174) (o:=.cells #[.int .i64 a0_0,.int .i64 a0_1,.slice A0_2 l0_2.length c0_2] 24 (0,0)) (by (with_reducible repeat (first|refine qab ?_ _|refine qae ?_|refine qaa ?_ _));exact BK174.out) hb);have n4_:=qah.mk (qak (g:=gb181) (o:=.cells #[.int .i64 t176,.int .i64 t177,.slice Ao14 t178.length co14] 32 (0,0)) (by (with_reducible repeat (first|refine qab ?_ _|refine qae ?_|refine qaa ?_ _));exact BK181.out) hb);have n5_:=qah.mk (qak (g:=gb190) (o:=.cells #[.int .i64 t183,.int .i64 t184,.slice Ao21 t185.length co21] 32 (0,0)) (by (with_reducible repeat (first|refine qab ?_ _|refine qae ?_|refine qaa ?_ _));exact BK190.out) hb);have n6_:=qah.mk (qan (by repeat (first|(with_reducible first|exact HB.out|apply qai|apply qag|apply qaj|refine qac ?_ GE174.out|refine qac ?_ GE181.out|refine qac ?_ GE190.out)|exact HB.out)) hb);clear HO_182002;clear HO_191002;clear BK174;clear BK181;clear BK190;clear HB;have HO_182002:=n0_;have HO_191002:=n1_;have HO196:=n2_;have BK174:=n3_;have BK181:=n4_;have BK190:=n5_;have HB:=n6_;clear n0_ n1_ n2_ n3_ n4_ n5_ n6_;(try clear hb);(try clear hb2);(try clear hk);(try clear hi);(try clear ho0))|((with_reducible refine qaA (N:=12) rfl ?_);(try (refine qaD (by rfl) ?_;dsimp only));refine qaz ?hg (N:=12) ?hd (cs:=#[.int .i64 0,.int .i64 0,.slice none 0 0]) (t:=32) ?hr ?_;(case hd=>rfl);(case hg=>rfl);(case hr=>first|(go_simp;done)|(go_simp;rfl));intro gb199 hg w144 hbox hb;have n0_:=qah.mk (Kd.N_below (Kd.N_elderB (by (with_reducible repeat (first|apply Kd.N_alloc|apply Kd.N_drewN|apply Kd.N_drew));exact HO_182002.out) gb199 (Nat.le_of_eq hg.symm)) hb);have n1_:=qah.mk (Kd.N_below (Kd.N_elderB (by (with_reducible repeat (first|apply Kd.N_alloc|apply Kd.N_drewN|apply Kd.N_drew));exact HO_191002.out) gb199 (Nat.le_of_eq hg.symm)) hb);have n2_:=qah.mk (Kd.N_below (Kd.N_elderB (by (with_reducible repeat (first|apply Kd.N_alloc|apply Kd.N_drewN|apply Kd.N_drew));exact HO196.out) gb199 (Nat.le_of_eq hg.symm)) hb);have n3_:=qah.mk (qak (g:=gb174) (o:=.cells #[.int .i64 a0_0,.int .i64 a0_1,.slice A0_2 l0_2.length c0_2] 24 (0,0)) (by (with_reducible repeat (first|refine qab ?_ _|refine qae ?_|refine qaa ?_ _));exact BK174.out) hb);have n4_:=qah.mk (qak (g:=gb181) (o:=.cells #[.int .i64 t176,.int .i64 t177,.slice Ao14 t178.length co14] 32 (0,0)) (by (with_reducible repeat (first|refine qab ?_ _|refine qae ?_|refine qaa ?_ _));exact BK181.out) hb);have n5_:=qah.mk (qak (g:=gb190) (o:=.cells #[.int .i64 t183,.int .i64 t184,.slice Ao21 t185.length co21] 32 (0,0)) (by (with_reducible repeat (first|refine qab ?_ _|refine qae ?_|refine qaa ?_ _));exact BK190.out) hb);have n6_:=qah.mk (qan (by repeat (first|(with_reducible first|exact HB.out|apply qai|apply qag|apply qaj|refine qac ?_ GE174.out|refine qac ?_ GE181.out|refine qac ?_ GE190.out)|exact HB.out)) hb);have n7_:=qah.mk (hbox);have n8_:=qah.mk ((by rw [hg];exact (qal (by repeat (first|(with_reducible first|exact HB.out|apply qai|apply qag|apply qaj|refine qac ?_ GE174.out|refine qac ?_ GE181.out|refine qac ?_ GE190.out)|exact HB.out))):w.heap.size≤gb199));have n9_:=qah.mk ((by rw [hg];exact (qal (by repeat (first|(with_reducible first|exact HB.out|apply qai|apply qag|apply qaj|refine qac ?_ GE174.out|refine qac ?_ GE181.out|refine qac ?_ GE190.out)|exact HB.out))):w.heap.size≤gb199));have n10_:=qah.mk ((by rw [hg];exact Nat.ne_of_lt (qau (g:=gb174) (o:=.cells #[.int .i64 a0_0,.int .i64 a0_1,.slice A0_2 l0_2.length c0_2] 24 (0,0)) (by (with_reducible repeat (first|refine qab ?_ _|refine qae ?_|refine qaa ?_ _));exact BK174.out)):gb174≠gb199));have n11_:=qah.mk ((by rw [hg];exact Nat.ne_of_gt (qau (g:=gb174) (o:=.cells #[.int .i64 a0_0,.int .i64 a0_1,.slice A0_2 l0_2.length c0_2] 24 (0,0)) (by (with_reducible repeat (first|refine qab ?_ _|refine qae ?_|refine qaa ?_ _));exact BK174.out)):gb199≠gb174));have n12_:=qah.mk ((by rw [hg];exact Nat.ne_of_lt (qau (g:=gb181) (o:=.cells #[.int .i64 t176,.int .i64 t177,.slice Ao14 t178.length co14] 32 (0,0)) (by (with_reducible repeat (first|refine qab ?_ _|refine qae ?_|refine qaa ?_ _));exact BK181.out)):gb181≠gb199));have n13_:=qah.mk ((by rw [hg];exact Nat.ne_of_gt (qau (g:=gb181) (o:=.cells #[.int .i64 t176,.int .i64 t177,.slice Ao14 t178.length co14] 32 (0,0)) (by (with_reducible repeat (first|refine qab ?_ _|refine qae ?_|refine qaa ?_ _));exact BK181.out)):gb199≠gb181));have n14_:=qah.mk ((by rw [hg];exact Nat.ne_of_lt (qau (g:=gb190) (o:=.cells #[.int .i64 t183,.int .i64 t184,.slice Ao21 t185.length co21] 32 (0,0)) (by (with_reducible repeat (first|refine qab ?_ _|refine qae ?_|refine qaa ?_ _));exact BK190.out)):gb190≠gb199));have n15_:=qah.mk ((by rw [hg];exact Nat.ne_of_gt (qau (g:=gb190) (o:=.cells #[.int .i64 t183,.int .i64 t184,.slice Ao21 t185.length co21] 32 (0,0)) (by (with_reducible repeat (first|refine qab ?_ _|refine qae ?_|refine qaa ?_ _));exact BK190.out)):gb199≠gb190));clear HO_182002;clear HO_191002;clear HO196;clear BK174;clear BK181;clear BK190;clear HB;have HO_182002:=n0_;have HO_191002:=n1_;have HO196:=n2_;have BK174:=n3_;have BK181:=n4_;have BK190:=n5_;have HB:=n6_;have BK199:=n7_;have GW199:=n8_;have GE199:=n9_;have NB174_199:=n10_;have NB199_174:=n11_;have NB181_199:=n12_;have NB199_181:=n13_;have NB190_199:=n14_;have NB199_190:=n15_;clear n0_ n1_ n2_ n3_ n4_ n5_ n6_ n7_ n8_ n9_ n10_ n11_ n12_ n13_ n14_ n15_;clear hb hbox hg;have hnb145:=NB199_174.out;have hnc145:=NB174_199.out;have hnb146:=NB199_181.out;have hnc146:=NB181_199.out;have hnb147:=NB199_190.out;have hnc147:=NB190_199.out;have hcz148_0:w144.cell? ⟨gb199,0,none⟩=some (.int .i64 0):=(qaf BK199.out 0).trans rfl;have hcz148_1:w144.cell? ⟨gb199,1,none⟩=some (.int .i64 0):=(qaf BK199.out 1).trans rfl;have hcz148_2:w144.cell? ⟨gb199,2,none⟩=some (.slice none 0 0):=(qaf BK199.out 2).trans rfl;have hfz148_0:=qad BK199.out 0;have hfz148_1:=qad BK199.out 1;have hfz148_2:=qad BK199.out 2;obtain⟨Ao149,co149,eo149⟩:=Kd.N_slice HO196.out;subst eo149;have hnb150:=NB181_174.out;have hnc150:=NB174_181.out;have hnb151:=NB181_190.out;have hnc151:=NB190_181.out;have hcz152_0:w144.cell? ⟨gb181,0,none⟩=some (.int .i64 t176):=(qaf BK181.out 0).trans rfl;have hcz152_1:w144.cell? ⟨gb181,1,none⟩=some (.int .i64 t177):=(qaf BK181.out 1).trans rfl;have hcz152_2:w144.cell? ⟨gb181,2,none⟩=some (.slice Ao14 t178.length co14):=(qaf BK181.out 2).trans rfl;have hfz152_0:=qad BK181.out 0;have hfz152_1:=qad BK181.out 1;have hfz152_2:=qad BK181.out 2)|((with_reducible refine qax (f:=14) rfl ?_);refine qaO (some 69) rfl rfl Tryd.func14 (by kernel_rfl) rfl #[.agg #[.int .i64 t192,.int .i64 t193,.slice Ao149 t194.length co149],.agg #[.int .i64 t176,.int .i64 t177,.slice Ao14 t178.length co14]] rfl (by (try simp only [List.map_toArray,List.map_cons,List.map_nil]);first|done|rfl|(simp only [List.length_drop,List.length_take];rfl)) ?_;(with_reducible refine (ostinatoref05_Same.calls k1 t192 t193 _ _ t194 t176 t177 _ _ t178 t200 _ ?side1 ?side2 ?side3 ?side4 A58.out).mono ?_);(case side1=>refine (Kd.N_reads' (e:=52) (base:=w.heap.size) (ok:=fun k_=>((some k_≠(.slice Ao14 t178.length co14:Value).ownBlock∧(some k_≠(.slice Ao21 t185.length co21:Value).ownBlock∧(k_≠gb174∧(k_≠gb181∧k_≠gb190))))∧k_≠gb199)) (n:=t194.length) (c:=co149) ?_).2.2;exact (by (with_reducible repeat (first|apply Kd.N_alloc|apply Kd.N_drewN|apply Kd.N_drew));exact (Kd.N_mono (Kd.N_far (p:=⟨gb199,2,none⟩) (Kd.N_far (p:=⟨gb199,1,none⟩) (Kd.N_far (p:=⟨gb199,0,none⟩) (Kd.N_mono HO196.out (fun k_ hk=>(⟨hk,hk.2⟩:_∧k_≠gb199))) (fun _ hk=>hk.2) (.int .i64 t192)) (fun _ hk=>hk.2) (.int .i64 t193)) (fun _ hk=>hk.2) (.slice Ao149 t194.length co149)) (fun _ h_=>h_.1))));(case side2=>exact (Kd.N_reads' HO196.out).2.1);(case side3=>refine (Kd.N_reads' (e:=52) (base:=w.heap.size) (ok:=fun k_=>(((some k_≠(.slice Ao21 t185.length co21:Value).ownBlock∧(k_≠gb174∧(k_≠gb181∧k_≠gb190)))∧some k_≠(.slice Ao149 t194.length co149:Value).ownBlock)∧k_≠gb199)) (n:=t178.length) (c:=co14) ?_).2.2;exact (by (with_reducible repeat (first|apply Kd.N_alloc|apply Kd.N_drewN|apply Kd.N_drew));exact (Kd.N_mono (Kd.N_far (p:=⟨gb199,2,none⟩) (Kd.N_far (p:=⟨gb199,1,none⟩) (Kd.N_far (p:=⟨gb199,0,none⟩) (Kd.N_mono HO_182002.out (fun k_ hk=>(⟨hk,hk.2⟩:_∧k_≠gb199))) (fun _ hk=>hk.2) (.int .i64 t192)) (fun _ hk=>hk.2) (.int .i64 t193)) (fun _ hk=>hk.2) (.slice Ao149 t194.length co149)) (fun _ h_=>h_.1))));(case side4=>exact (Kd.N_reads' HO_182002.out).2.1);rintro e w153 ⟨rfl,hb⟩;refine⟨_,rfl,?_⟩;have n0_:=qah.mk (Kd.N_below (by (with_reducible repeat (first|apply Kd.N_alloc|apply Kd.N_drewN|apply Kd.N_drew));exact (Kd.N_mono (Kd.N_far (p:=⟨gb199,2,none⟩) (Kd.N_far (p:=⟨gb199,1,none⟩) (Kd.N_far (p:=⟨gb199,0,none⟩) (Kd.N_mono HO_182002.out (fun k_ hk=>(⟨hk,hk.2⟩:_∧k_≠gb199))) (fun _ hk=>hk.2) (.int .i64 t192)) (fun _ hk=>hk.2) (.int .i64 t193)) (fun _ hk=>hk.2) (.slice Ao149 t194.length co149)) (fun _ h_=>h_.1))) hb);have n1_:=qah.mk (Kd.N_below (by (with_reducible repeat (first|apply Kd.N_alloc|apply Kd.N_drewN|apply Kd.N_drew));exact (Kd.N_mono (Kd.N_far (p:=⟨gb199,2,none⟩) (Kd.N_far (p:=⟨gb199,1,none⟩) (Kd.N_far (p:=⟨gb199,0,none⟩) (Kd.N_mono HO_191002.out (fun k_ hk=>(⟨hk,hk.2⟩:_∧k_≠gb199))) (fun _ hk=>hk.2) (.int .i64 t192)) (fun _ hk=>hk.2) (.int .i64 t193)) (fun _ hk=>hk.2) (.slice Ao149 t194.length co149)) (fun _ h_=>h_.1))) hb);have n2_:=qah.mk (Kd.N_below (by (with_reducible repeat (first|apply Kd.N_alloc|apply Kd.N_drewN|apply Kd.N_drew));exact (Kd.N_mono (Kd.N_far (p:=⟨gb199,2,none⟩) (Kd.N_far (p:=⟨gb199,1,none⟩) (Kd.N_far (p:=⟨gb199,0,none⟩) (Kd.N_mono HO196.out (fun k_ hk=>(⟨hk,hk.2⟩:_∧k_≠gb199))) (fun _ hk=>hk.2) (.int .i64 t192)) (fun _ hk=>hk.2) (.int .i64 t193)) (fun _ hk=>hk.2) (.slice Ao149 t194.length co149)) (fun _ h_=>h_.1))) hb);have n3_:=qah.mk (qak (g:=gb174) (o:=.cells #[.int .i64 a0_0,.int .i64 a0_1,.slice A0_2 l0_2.length c0_2] 24 (0,0)) (by (with_reducible repeat (first|refine qab ?_ _|refine qae ?_|refine qaa ?_ _));refine qam ?_ NB174_199.out _;(with_reducible repeat (first|refine qab ?_ _|refine qae ?_|refine qaa ?_ _));refine qam ?_ NB174_199.out _;(with_reducible repeat (first|refine qab ?_ _|refine qae ?_|refine qaa ?_ _));refine qam ?_ NB174_199.out _;(with_reducible repeat (first|refine qab ?_ _|refine qae ?_|refine qaa ?_ _));exact BK174.out) hb);have n4_:=qah.mk (qak (g:=gb181) (o:=.cells #[.int .i64 t176,.int .i64 t177,.slice Ao14 t178.length co14] 32 (0,0)) (by (with_reducible repeat (first|refine qab ?_ _|refine qae ?_|refine qaa ?_ _));refine qam ?_ NB181_199.out _;(with_reducible repeat (first|refine qab ?_ _|refine qae ?_|refine qaa ?_ _));refine qam ?_ NB181_199.out _;(with_reducible repeat (first|refine qab ?_ _|refine qae ?_|refine qaa ?_ _));refine qam ?_ NB181_199.out _;(with_reducible repeat (first|refine qab ?_ _|refine qae ?_|refine qaa ?_ _));exact BK181.out) hb);have n5_:=qah.mk (qak (g:=gb190) (o:=.cells #[.int .i64 t183,.int .i64 t184,.slice Ao21 t185.length co21] 32 (0,0)) (by (with_reducible repeat (first|refine qab ?_ _|refine qae ?_|refine qaa ?_ _));refine qam ?_ NB190_199.out _;(with_reducible repeat (first|refine qab ?_ _|refine qae ?_|refine qaa ?_ _));refine qam ?_ NB190_199.out _;(with_reducible repeat (first|refine qab ?_ _|refine qae ?_|refine qaa ?_ _));refine qam ?_ NB190_199.out _;(with_reducible repeat (first|refine qab ?_ _|refine qae ?_|refine qaa ?_ _));exact BK190.out) hb);have n6_:=qah.mk (qak (g:=gb199) (o:=.cells #[.int .i64 t192,.int .i64 t193,.slice Ao149 t194.length co149] 32 (0,0)) (by (with_reducible repeat (first|refine qab ?_ _|refine qae ?_|refine qaa ?_ _));refine qaq (cs:=#[.int .i64 t192,.int .i64 t193,.slice none 0 0]) ?_ 2 _ rfl;(with_reducible repeat (first|refine qab ?_ _|refine qae ?_|refine qaa ?_ _));refine qaq (cs:=#[.int .i64 t192,.int .i64 0,.slice none 0 0]) ?_ 1 _ rfl;(with_reducible repeat (first|refine qab ?_ _|refine qae ?_|refine qaa ?_ _));refine qaq (cs:=#[.int .i64 0,.int .i64 0,.slice none 0 0]) ?_ 0 _ rfl;(with_reducible repeat (first|refine qab ?_ _|refine qae ?_|refine qaa ?_ _));exact BK199.out) hb);have n7_:=qah.mk (qan (by repeat (first|(with_reducible first|exact HB.out|apply qai|apply qag|apply qaj|refine qac ?_ GE174.out|refine qac ?_ GE181.out|refine qac ?_ GE190.out|refine qac ?_ GE199.out)|exact HB.out)) hb);clear HO_182002;clear HO_191002;clear HO196;clear BK174;clear BK181;clear BK190;clear BK199;clear HB;have HO_182002:=n0_;have HO_191002:=n1_;have HO196:=n2_;have BK174:=n3_;have BK181:=n4_;have BK190:=n5_;have BK199:=n6_;have HB:=n7_;clear n0_ n1_ n2_ n3_ n4_ n5_ n6_ n7_;(try clear hb);(try clear hb2);(try clear hk);(try clear hi)))
     go_ret
     exact⟨by first|rfl|(simp [qat,qas]<;>rfl)|(simp [bneNil,bneNilU]<;>rfl)|(simp [*,qat,qas]<;>rfl),by repeat (first|(with_reducible first|exact HB.out|apply qai|apply qag|apply qaj|refine qac ?_ GE174.out|refine qac ?_ GE181.out|refine qac ?_ GE190.out|refine qac ?_ GE199.out)|exact HB.out)⟩
end
end Go.Proofs.YtcfknijdhmildaaDoor.PParseBack
end
section
namespace Go.Proofs.YtcfknijdhmildaaDoor.PParseBack
open Go.RowKit Go.Proofs.YtcfknijdhmildaaDoorW.PrintWords Go.Proofs.YtcfknijdhmildaaDoorW.PrintLast Go.Proofs.YtcfknijdhmildaaDoorW.PrintMore
attribute [local go_sem] max2_int min2_int max_two min_two max_three min_three max_four min_four
set_option linter.unusedVariables false
set_option linter.unusedSimpArgs false
noncomputable section
end
end Go.Proofs.YtcfknijdhmildaaDoor.PParseBack
end
section
namespace Go.Proofs.YtcfknijdhmildaaDoor.PParseBack
open Go.RowKit Go.Lib Go.Proofs.YtcfknijdhmildaaDoorW.PrintWords
theorem awake_f:ostinatolaw07_awake.f=some true:=rfl
theorem parse_f {s:ByteArray} (hs:s.size≤65536) {S R at_ e:Int} {L:List Tk} (h:parseP s=(S,R,L,at_,e)):parse_Parse.f s=some (S,R,L.map tkTo,at_,e):=by
 unfold parse_Parse.f
 rw [if_pos hs,h]
theorem tkOf_tkTo (L:List Tk):(L.map tkTo).map tkOf=L:=by
 rw [List.map_map]
 exact List.map_id' L
theorem print_f {sets rel:Int} {L:List Tk} (h:checkE sets rel L=0) (hs:∀ x ∈ L,x.ch.length≤1000000∧x.us.length≤1000000∧x.c≤9223372036854775807):parse_Print.f sets rel (L.map tkTo)=some (printT sets rel L):=by
 have hl:=(checkE_small h).2.2.2
 unfold parse_Print.f
 rw [if_pos,tkOf_tkTo,if_pos h]
 unfold prnOk
 rw [List.length_map]
 simp only [Bool.and_eq_true,decide_eq_true_eq]
 refine⟨by omega,List.all_eq_true.2 (fun y hy=>?_)⟩
 obtain⟨x,hx,rfl⟩:=List.mem_map.1 hy
 obtain⟨a,b,c⟩:=hs x hx
 simp only [Bool.and_eq_true,decide_eq_true_eq]
 exact⟨⟨a,b⟩,c⟩
theorem rdT_nat {L:List Tk} {i:Nat} (h:i<L.length):qar (L.map tkTo) (i:Int)=tkTo L[i]:=by
 simp [qar,List.getD_eq_getElem?_getD,List.getElem?_eq_getElem h]
theorem sameTask_l1 (y0 y1 y2 y3 y4:Int) (ch us:List Int) (hl:us.length≤1000000):∀ (n i:Nat),i+n=us.length→Ev (fun k=>ostinatoref05_SameTask.l1 k (i:Int) y0 y1 y2 y3 y4 ch us y0 y1 y2 y3 y4 ch us) true:=by
 intro n
 induction n with
 |zero=>
  intro i hi
  exact Ev.step (fun k=>by rw [ostinatoref05_SameTask.l1]) (Ev.ifn (by omega) (Ev.now _))
 |succ n ih=>
  intro i hi
  refine Ev.step (fun k=>by rw [ostinatoref05_SameTask.l1]) (Ev.ifp (by omega) (Ev.ifp (by omega) (Ev.ifp (by omega) (Ev.ifp rfl ?_))))
  rw [qaT i (by omega)]
  exact ih (i+1) (by omega)
theorem sameTask_l0 (y0 y1 y2 y3 y4:Int) (ch us:List Int) (hc:ch.length≤1000000) (hl:us.length≤1000000):∀ (n i:Nat),i+n=ch.length→Ev (fun k=>ostinatoref05_SameTask.l0 k (i:Int) y0 y1 y2 y3 y4 ch us y0 y1 y2 y3 y4 ch us) true:=by
 intro n
 induction n with
 |zero=>
  intro i hi
  exact Ev.step (fun k=>by rw [ostinatoref05_SameTask.l0]) (Ev.ifn (by omega) (by simpa using sameTask_l1 y0 y1 y2 y3 y4 ch us hl us.length 0 (by omega)))
 |succ n ih=>
  intro i hi
  refine Ev.step (fun k=>by rw [ostinatoref05_SameTask.l0]) (Ev.ifp (by omega) (Ev.ifp (by omega) (Ev.ifp (by omega) (Ev.ifp rfl ?_))))
  rw [qaT i (by omega)]
  exact ih (i+1) (by omega)
theorem sameTask_f (y0 y1 y2 y3 y4:Int) (ch us:List Int) (hc:ch.length≤1000000) (hl:us.length≤1000000):Ev (fun k=>ostinatoref05_SameTask.f k y0 y1 y2 y3 y4 ch us y0 y1 y2 y3 y4 ch us) true:=by
 unfold ostinatoref05_SameTask.f
 refine Ev.ifp rfl (Ev.ifp rfl (Ev.ifp rfl (Ev.ifp rfl (Ev.ifp rfl (Ev.ifp rfl ?_)))))
 have e:((us.length:Int) != (us.length:Int))=false:=by simp
 rw [e]
 refine Ev.step (fun k=>by rw [ostinatoref05_SameTask.j0]) (Ev.ifn (by decide) ?_)
 simpa using sameTask_l0 y0 y1 y2 y3 y4 ch us hc hl ch.length 0 (by omega)
theorem sameTasks_l0 (L:List Tk) (hL:L.length≤70000) (hb:∀ x ∈ L,x.ch.length≤1000000∧x.us.length≤1000000):∀ (n i:Nat),i+n=L.length→Ev (fun k=>ostinatoref05_SameTasks.l0 k (L.map tkTo) (L.map tkTo) (i:Int)) true:=by
 intro n
 induction n with
 |zero=>
  intro i hi
  exact Ev.step (fun k=>by rw [ostinatoref05_SameTasks.l0]) (Ev.ifn (by simp;omega) (Ev.now _))
 |succ n ih=>
  intro i hi
  have hil:i<L.length:=by omega
  have hx:=hb L[i] (List.getElem_mem hil)
  refine Ev.step (fun k=>by rw [ostinatoref05_SameTasks.l0,rdT_nat hil]) (Ev.ifp (by simp;omega) (Ev.ifp (by omega) (Ev.ifp (by simp;omega) ?_)))
  refine Ev.bind (sameTask_f L[i].id L[i].c L[i].d L[i].t L[i].p L[i].ch L[i].us hx.1 hx.2) ?_
  refine Ev.ifp rfl ?_
  rw [qaT i (by omega)]
  exact ih (i+1) (by omega)
theorem same_f (s r:Int) (L:List Tk) (hL:L.length≤70000) (hb:∀ x ∈ L,x.ch.length≤1000000∧x.us.length≤1000000):Ev (fun k=>ostinatoref05_Same.f k s r (L.map tkTo) s r (L.map tkTo)) true:=by
 have h:Ev (fun k=>ostinatoref05_SameTasks.f k (L.map tkTo) (L.map tkTo)) true:=by
  unfold ostinatoref05_SameTasks.f
  exact Ev.ifp rfl (by simpa using sameTasks_l0 L hL hb L.length 0 (by omega))
 unfold ostinatoref05_Same.f
 refine Ev.bind h ?_
 refine Ev.ifp rfl (Ev.ifp rfl ?_)
 have e:(r == r)=true:=by simp
 rw [e]
 exact Ev.now _
end Go.Proofs.YtcfknijdhmildaaDoor.PParseBack
end
section
namespace Go.Proofs.YtcfknijdhmildaaDoor.PParseBack
open Go.RowKit Go.Proofs.YtcfknijdhmildaaDoorW.PrintWords
theorem rest_f (n b:Int) (h0:0<b) (h1:b≤1000000):ostinatoref05_rest.f n b=some (n % b):=by
 unfold ostinatoref05_rest.f
 rw [if_neg (by omega),rest_wrapP n b h0 h1]
structure GoodTask (i:Nat) (sets:Int) (t:S52):Prop where
 id:t.f0=(i:Int)+1
 c1:1≤t.f1
 cd:t.f1≤t.f2
 dt:t.f2≤t.f3
 t4:4≤t.f3
 t24:t.f3≤24
 p1:10≤t.f4
 p99:t.f4≤90+i
 pi:t.f4 % 10=i
 chl:t.f5.length≤25
 ch1:∀ y ∈ t.f5,1≤y
 chs:t.f5=[]∨t.f5.sum=t.f1
 usl:t.f6.length≤5
 us:∀ u ∈ t.f6,0≤u∧u<sets
structure GoodSys (sets reload:Int) (l:List S52):Prop where
 s1:1≤sets
 s8:sets≤8
 r0:0≤reload
 r3:reload≤3
 l1:1≤l.length
 l6:l.length≤6
 task:∀ (i:Nat) (h:i<l.length),GoodTask i sets l[i]
theorem task_l1 (s:Int) (hs:1≤s∧s≤8) (c0 c1 c2 c3 c4:Int) (U:List Int) (t0 t1 t2 t3 t4:Int) (t5:List Int):∀ (d g:Nat) (us:List Int),g+d=5→us.length=g→(∀ u ∈ us,0≤u∧u<s) →
  ∃ us',Ev (fun k=>ostinatoref05_Num_task.l1 k s (g:Int) c0 c1 c2 c3 c4 U t0 t1 t2 t3 t4 t5 us) (t0,t1,t2,t3,t4,t5,us')∧us'.length≤5∧∀ u ∈ us',0≤u∧u<s:=by
 intro d
 induction d with
 |zero=>
  intro g us hg hl hu
  obtain rfl:g=5:=by omega
  refine⟨us,Ev.step (fun k=>by rw [ostinatoref05_Num_task.l1]) ?_,by omega,hu⟩
  exact Ev.ite_ (fun _=>Ev.ifn (by decide) (Ev.now _)) (fun _=>Ev.now _)
 |succ d ih=>
  intro g us hg hl hu
  by_cases hU:(g:Int)<(U.length:Int)
  ·have hr:=rest_f (rd U g) s (by omega) (by omega)
   obtain⟨us',h1,h2,h3⟩:=ih (g+1) (us++[rd U g % s]) (by omega) (by simp [hl]) (fun u hu'=>by
    rcases List.mem_append.1 hu' with h|h
    ·exact hu u h
    ·simp at h;subst h;exact⟨Int.emod_nonneg _ (by omega),Int.emod_lt_of_pos _ (by omega)⟩)
   refine⟨us',Ev.step (fun k=>by rw [ostinatoref05_Num_task.l1]) ?_,h2,h3⟩
   refine Ev.ifp hU (Ev.ifp (by omega) (Ev.ifp (by omega) (Ev.bindS hr (Ev.ifp (by omega) ?_))))
   rw [qaT g (by omega)]
   exact h1
  ·exact⟨us,Ev.step (fun k=>by rw [ostinatoref05_Num_task.l1]) (Ev.ifn hU (Ev.now _)),by omega,hu⟩
theorem task_l0 (s:Int) (hs:1≤s∧s≤8) (c:Nat) (hc:1≤c∧c≤24) (c0 c1 c2 c3 c4:Int) (U:List Int) (t0 t1 t2 t3 t4:Int):∀ (d i f:Nat) (ch:List Int),i+d=c→f<i→ch.length<i→(∀ y ∈ ch,1≤y)→ch.sum=(f:Int)→(f=0→ch=[]) →
  ∃ ch' us',Ev (fun k=>ostinatoref05_Num_task.l0 k s (c:Int) (f:Int) (i:Int) c0 c1 c2 c3 c4 U t0 t1 t2 t3 t4 ch) (t0,t1,t2,t3,t4,ch',us')∧ch'.length≤25∧(∀ y ∈ ch',1≤y)∧(ch' = []∨ch'.sum=(c:Int))∧us'.length≤5∧∀ u ∈ us',0≤u∧u<s:=by
 intro d
 induction d with
 |zero=>
  intro i f ch hi hf hl hy hsum h0
  obtain rfl:i=c:=by omega
  have ej:∀ t5 us',Ev (fun k=>ostinatoref05_Num_task.l1 k s ((0:Nat):Int) c0 c1 c2 c3 c4 U t0 t1 t2 t3 t4 t5 []) (t0,t1,t2,t3,t4,t5,us')→Ev (fun k=>ostinatoref05_Num_task.j1 k s c0 c1 c2 c3 c4 U t0 t1 t2 t3 t4 t5) (t0,t1,t2,t3,t4,t5,us'):=fun t5 us' h=>Ev.step (fun k=>by rw [ostinatoref05_Num_task.j1];rfl) h
  by_cases hf0:(f:Int) > 0
  ·obtain⟨us',h1,h2,h3⟩:=task_l1 s hs c0 c1 c2 c3 c4 U t0 t1 t2 t3 t4 (ch++[wrap64 ((i:Int) - f)]) 5 0 [] rfl rfl (fun u hu=>by cases hu)
   refine⟨_,us',Ev.step (fun k=>by rw [ostinatoref05_Num_task.l0]) (Ev.ifn (by omega) (Ev.ifp hf0 (Ev.ifp (by omega) (ej _ _ h1)))),by simp;omega,?_,.inr ?_,h2,h3⟩
   ·intro y hm
    rcases List.mem_append.1 hm with h|h
    ·exact hy y h
    ·simp at h;subst h;rw [qaS (by omega) (by omega)];omega
   ·rw [List.sum_append,hsum,qaS (by omega) (by omega)];simp;omega
  ·obtain⟨us',h1,h2,h3⟩:=task_l1 s hs c0 c1 c2 c3 c4 U t0 t1 t2 t3 t4 ch 5 0 [] rfl rfl (fun u hu=>by cases hu)
   exact⟨_,us',Ev.step (fun k=>by rw [ostinatoref05_Num_task.l0]) (Ev.ifn (by omega) (Ev.ifn hf0 (ej _ _ h1))),by omega,hy,.inl (h0 (by omega)),h2,h3⟩
 |succ d ih=>
  intro i f ch hi hf hl hy hsum h0
  by_cases hb:bits .and .i64 (shr .i64 c4 (IntKind.u64.wrap (i:Int))) 1=1
  ·obtain⟨ch',us',h1,h2⟩:=ih (i+1) i (ch++[wrap64 ((i:Int) - f)]) (by omega) (by omega) (by simp;omega) (fun y hm=>by
    rcases List.mem_append.1 hm with h|h
    ·exact hy y h
    ·simp at h;subst h;rw [qaS (by omega) (by omega)];omega) (by rw [List.sum_append,hsum,qaS (by omega) (by omega)];simp;omega) (fun h=>by omega)
   refine⟨ch',us',Ev.step (fun k=>by rw [ostinatoref05_Num_task.l0]) (Ev.ifp (by omega) (Ev.ifp (u64_nonneg _) (Ev.ifp hb (Ev.ifp (by omega) ?_)))),h2⟩
   rw [qaT i (by omega)]
   exact h1
  ·obtain⟨ch',us',h1,h2⟩:=ih (i+1) f ch (by omega) (by omega) (by omega) hy hsum h0
   refine⟨ch',us',Ev.step (fun k=>by rw [ostinatoref05_Num_task.l0]) (Ev.ifp (by omega) (Ev.ifp (u64_nonneg _) (Ev.ifn hb ?_))),h2⟩
   rw [qaT i (by omega)]
   exact h1
theorem per_rng (j:Int) (h0:0≤j) (h8:j<8):4≤rd [4,5,6,8,10,12,20,24] j∧rd [4,5,6,8,10,12,20,24] j≤24:=by
 obtain⟨n,rfl⟩:∃ n:Nat,j=n:=⟨j.toNat,by omega⟩
 have h:n=0∨n=1∨n=2∨n=3∨n=4∨n=5∨n=6∨n=7:=by omega
 rcases h with rfl|rfl|rfl|rfl|rfl|rfl|rfl|rfl<;>decide
theorem task_f (nC nD nT nP nK:Int) (U:List Int) (i:Nat) (hi:i≤5) (s:Int) (hs:1≤s∧s≤8) :
  ∃ x:S52,Ev (fun k=>ostinatoref05_Num_task.f k nC nD nT nP nK U (i:Int) s) (x.f0,x.f1,x.f2,x.f3,x.f4,x.f5,x.f6)∧GoodTask i s x:=by
 obtain⟨j0,j8⟩:=and7_rng nT
 obtain⟨p4,p24⟩:=per_rng _ j0 j8
 obtain⟨T,hT⟩:∃ T,rd [4,5,6,8,10,12,20,24] (bits .and .i64 nT 7)=T:=⟨_,rfl⟩
 have hD:=rest_f nD T (by omega) (by omega)
 have d0:=Int.emod_nonneg nD (show T≠0 by omega)
 have d1:=Int.emod_lt_of_pos nD (show 0<T by omega)
 obtain⟨D,hDv⟩:∃ D,nD % T=D:=⟨_,rfl⟩
 rw [hDv] at hD d0 d1
 have hC:=rest_f nC (1+D) (by omega) (by omega)
 have e0:=Int.emod_nonneg nC (show 1+D≠0 by omega)
 have e1:=Int.emod_lt_of_pos nC (show 0<1+D by omega)
 obtain⟨C,hCv⟩:∃ C,nC % (1+D)=C:=⟨_,rfl⟩
 rw [hCv] at hC e0 e1
 have hP:=rest_f nP 9 (by omega) (by omega)
 have q0:=Int.emod_nonneg nP (show (9:Int)≠0 by omega)
 have q1:=Int.emod_lt_of_pos nP (show (0:Int)<9 by omega)
 obtain⟨p,hpv⟩:∃ p,nP % 9=p:=⟨_,rfl⟩
 rw [hpv] at hP q0 q1
 obtain⟨cn,hcn⟩:∃ c:Nat,1+C=c:=⟨(1+C).toNat,by omega⟩
 obtain⟨ch',us',h1,h2,h3,h4,h5,h6⟩:=task_l0 s hs cn (by omega) nC nD nT nP nK U ((i:Int)+1) (cn:Int) (1+D) T (10 * (1+p)+i) (cn - 1) 1 0 [] (by omega) (by decide) (by decide) (fun y hy=>by cases hy) rfl (fun _=>rfl)
 refine⟨⟨(i:Int)+1,cn,1+D,T,10 * (1+p)+i,ch',us'⟩,?_,⟨rfl,by show (1:Int)≤cn;omega,by show (cn:Int)≤1+D;omega,by show 1+D≤T;omega,by show 4≤T;omega,by show T≤24;omega,by show 10≤10 * (1+p)+(i:Int);omega,by show 10 * (1+p)+(i:Int)≤90+i;omega,by show (10 * (1+p)+(i:Int)) % 10=i;omega,h2,h3,h4,h5,h6⟩⟩
 show Ev _ ((i:Int)+1,(cn:Int),1+D,T,10 * (1+p)+(i:Int),ch',us')
 unfold ostinatoref05_Num_task.f
 rw [hT]
 refine Ev.ifp j0 (Ev.ifp j8 (Ev.bindS hD ?_))
 rw [qaS (show -9223372036854775808≤1+D by omega) (by omega)]
 refine Ev.bindS hC (Ev.bindS hP ?_)
 rw [hcn,qaS (show -9223372036854775808≤(cn:Int) by omega) (by omega),qaS (show -9223372036854775808≤(i:Int)+1 by omega) (by omega),qaS (show -9223372036854775808≤1+p by omega) (by omega),qaS (show -9223372036854775808≤10 * (1+p) by omega) (by omega),qaS (show -9223372036854775808≤10 * (1+p)+(i:Int) by omega) (by omega)]
 exact h1
theorem good_default (s:Int):GoodTask 0 s (⟨1,1,4,4,10,[],[]⟩:S52):=
 ⟨rfl,Int.le_refl _,(by decide:(1:Int)≤4),Int.le_refl _,Int.le_refl _,(by decide:(4:Int)≤24),Int.le_refl _,(by decide:(10:Int)≤90+((0:Nat):Int)),rfl,Nat.zero_le _,fun y hy=>(by cases hy),.inl rfl,Nat.zero_le _,fun y hy=>(by cases hy)⟩
theorem made_l0 (a b:Int) (M:List S59) (s:Int) (hs:1≤s∧s≤8) (rl:Int) (hrl:0≤rl∧rl≤3):∀ (d i:Nat) (acc:List S52),i+d=6→acc.length=i→(∀ (j:Nat) (h:j<acc.length),GoodTask j s acc[j]) →
  ∃ L,Ev (fun k=>ostinatoref05_System_Made.l0 k (i:Int) a b M s rl acc) (s,rl,L)∧GoodSys s rl L:=by
 have hend:∀ (i:Nat) (acc:List S52),i≤6→acc.length=i→(∀ (j:Nat) (h:j<acc.length),GoodTask j s acc[j])→∃ L,Ev (fun _=>if (acc.length:Int)=0 then (some (s,rl,(([(⟨1,1,4,4,10,([]:List Int),([]:List Int)⟩:S52)]:List (S52))))) else (some (s,rl,acc))) (s,rl,L)∧GoodSys s rl L:=by
  intro i acc hi hl hg
  by_cases h0:(acc.length:Int)=0
  ·refine⟨_,Ev.ifp h0 (Ev.now _),⟨hs.1,hs.2,hrl.1,hrl.2,by decide,by decide,fun j hj=>?_⟩⟩
   obtain rfl:j=0:=by simpa using hj
   exact good_default s
  ·exact⟨_,Ev.ifn h0 (Ev.now _),⟨hs.1,hs.2,hrl.1,hrl.2,by omega,by omega,hg⟩⟩
 intro d
 induction d with
 |zero=>
  intro i acc hi hl hg
  obtain⟨L,h1,h2⟩:=hend i acc (by omega) hl hg
  refine⟨L,Ev.step (fun k=>by rw [ostinatoref05_System_Made.l0]) (Ev.ite_ (fun _=>Ev.ifn (by omega) h1) (fun _=>h1)),h2⟩
 |succ d ih=>
  intro i acc hi hl hg
  by_cases hM:(i:Int)<(M.length:Int)
  ·obtain⟨x,hx,hgx⟩:=task_f ((qaH M i).f0) ((qaH M i).f1) ((qaH M i).f2) ((qaH M i).f3) ((qaH M i).f4) ((qaH M i).f5) i (by omega) s hs
   obtain⟨L,h1,h2⟩:=ih (i+1) (acc++[x]) (by omega) (by simp [hl]) (fun j hj=>by
    by_cases hji:j<acc.length
    ·rw [List.getElem_append_left hji];exact hg j hji
    ·have:j=acc.length:=by simp at hj;omega
     subst this
     rw [List.getElem_append_right (Nat.le_refl _)]
     simp [hl]
     exact hgx)
   refine⟨L,Ev.step (fun k=>by rw [ostinatoref05_System_Made.l0]) (Ev.ifp hM (Ev.ifp (by omega) (Ev.ifp (by omega) (Ev.bind hx ?_)))),h2⟩
   refine Ev.ifp (by omega) ?_
   rw [qaT i (by omega)]
   exact h1
  ·obtain⟨L,h1,h2⟩:=hend i acc (by omega) hl hg
   exact⟨L,Ev.step (fun k=>by rw [ostinatoref05_System_Made.l0]) (Ev.ifn hM h1),h2⟩
theorem Made_f (a b:Int) (M:List S59):∃ s rl L,Ev (fun k=>ostinatoref05_System_Made.f k a b M) (s,rl,L)∧GoodSys s rl L:=by
 have hr:=rest_f a 8 (by decide) (by decide)
 have h0:=Int.emod_nonneg a (show (8:Int)≠0 by decide)
 have h1:=Int.emod_lt_of_pos a (show (0:Int)<8 by decide)
 obtain⟨v,hv⟩:∃ v,a % 8=v:=⟨_,rfl⟩
 rw [hv] at hr h0 h1
 obtain⟨r0,r3⟩:=and3_rng b
 obtain⟨L,h2,h3⟩:=made_l0 a b M (1+v) (by omega) (bits .and .i64 b 3) (by omega) 6 0 [] rfl rfl (fun j hj=>by simp at hj)
 refine⟨1+v,_,L,?_,h3⟩
 unfold ostinatoref05_System_Made.f
 refine Ev.bindS hr ?_
 rw [qaS (by omega) (by omega)]
 exact h2
theorem lawmade_l0 (a b:Int) (l:List S60) (a2 b2:Int):∀ (d i:Nat) (acc:List S59),i+d=6→acc.length=i→∃ s rl L,Ev (fun k=>ostinatolaw07_Sys_made.l0 k (i:Int) a b l a2 b2 acc) (s,rl,L)∧GoodSys s rl L:=by
 intro d
 induction d with
 |zero=>
  intro i acc hi hl
  obtain⟨s,rl,L,h1,h2⟩:=Made_f a2 b2 acc
  refine⟨s,rl,L,Ev.step (fun k=>by rw [ostinatolaw07_Sys_made.l0]) (Ev.ite_ (fun _=>Ev.ifn (by omega) (Ev.bind h1 (Ev.now _))) (fun _=>Ev.bind h1 (Ev.now _))),h2⟩
 |succ d ih=>
  intro i acc hi hl
  by_cases hM:(i:Int)<(l.length:Int)
  ·obtain⟨s,rl,L,h1,h2⟩:=ih (i+1) (acc++[(⟨(qaC l i).f0,(qaC l i).f1,(qaC l i).f2,(qaC l i).f3,(qaC l i).f4,(qaC l i).f5⟩:S59)]) (by omega) (by simp [hl])
   refine⟨s,rl,L,Ev.step (fun k=>by rw [ostinatolaw07_Sys_made.l0]) (Ev.ifp hM (Ev.ifp (by omega) (Ev.ifp (by omega) (Ev.ifp (by omega) ?_)))),h2⟩
   rw [qaT i (by omega)]
   exact h1
  ·obtain⟨s,rl,L,h1,h2⟩:=Made_f a2 b2 acc
   exact⟨s,rl,L,Ev.step (fun k=>by rw [ostinatolaw07_Sys_made.l0]) (Ev.ifn hM (Ev.bind h1 (Ev.now _))),h2⟩
theorem lawmade_f (a b:Int) (l:List S60):∃ s rl L,Ev (fun k=>ostinatolaw07_Sys_made.f k a b l) (s,rl,L)∧GoodSys s rl L:=by
 unfold ostinatolaw07_Sys_made.f
 exact lawmade_l0 a b l a b 6 0 [] rfl rfl
end Go.Proofs.YtcfknijdhmildaaDoor.PParseBack
end
section
namespace Go.Proofs.YtcfknijdhmildaaDoor
open Go.RowKit Go.Shelf Go.Lib Go.Proofs.YtcfknijdhmildaaDoorW.PrintWords
theorem lnStep_app (A B:List (List Wd)) (x:Wd) (h:B≠[]):lnStep (A++B) x=A++lnStep B x:=by
 obtain⟨B',g,rfl⟩:∃ B' g,B=B'++[g]:=⟨B.dropLast,B.getLast h,(List.dropLast_concat_getLast h).symm⟩
 unfold lnStep
 rw [← List.append_assoc]
 simp only [List.getLast?_concat,List.dropLast_concat]
 split<;>simp
theorem lns_app (X:List Wd):∀ (n:Nat) (Y:List Wd),Y.length=n→(∀ x ∈ X,∀ y ∈ Y,x.q≠y.q)→lns (X++Y)=lns X++lns Y:=by
 intro n
 induction n with
 |zero=>intro Y h _;rw [List.eq_nil_of_length_eq_zero h];simp [lns]
 |succ n ih=>
  intro Y0 hn h
  rcases List.eq_nil_or_concat Y0 with rfl|⟨Y,y,rfl⟩
  ·simp [lns]
  ·rw [List.concat_eq_append] at hn h ⊢
   have hn':Y.length=n:=by simpa using hn
   have h1:=ih Y hn' (fun x hx z hz=>h x hx z (List.mem_append_left _ hz))
   by_cases hY:Y=[]
   ·subst hY
    have h2:=lns_other (l:=X) (x:=y) (fun x hx=>h x hx y (by simp))
    rw [List.nil_append,h2]
    rfl
   ·obtain⟨G,g,z,h2,_⟩:=lns_last Y hY
    rw [← List.append_assoc,lns_snoc,h1,lns_snoc]
    exact lnStep_app _ _ _ (by rw [h2];simp)
theorem lns_single (q:Int):∀ (n:Nat) (X:List Wd),X.length=n+1→(∀ x ∈ X,x.q=q)→lns X=[X]:=by
 intro n
 induction n with
 |zero=>
  intro X h _
  match X,h with
  |[x],_=>rfl
 |succ n ih=>
  intro X0 hn h
  rcases List.eq_nil_or_concat X0 with rfl|⟨X,y,rfl⟩
  ·simp at hn
  ·rw [List.concat_eq_append] at hn h ⊢
   have hn':X.length=n+1:=by simpa using hn
   have h1:=ih X hn' (fun x hx=>h x (List.mem_append_left _ hx))
   have hne:X≠[]:=by intro e;subst e;simp at hn'
   obtain⟨G,g,z,h2,h3⟩:=lns_last X hne
   have h4:=lns_same h2 (x:=y) (by rw [h z (List.mem_append_left _ (List.mem_of_getLast? h3)),h y (by simp)])
   rw [h1] at h2
   have h5:G=[]∧X=g++[z]:=by
    cases G with
    |nil=>exact⟨rfl,by simpa using h2⟩
    |cons a G=>simp at h2
   rw [h4,h5.1,← h5.2]
   rfl
def lnsB (q i:Nat) (s:List UInt8):List (List Wd):=lns (scan q false none i s)
def tx (l:List Wd):List ByteArray:=l.map (·.t)
def wds (b:List UInt8):List ByteArray:=tx (scan 0 false none 0 b)
theorem tx_scan (q i:Nat) (b:List UInt8):tx (scan q false none i b)=wds b:=by
 have h:=scan_shift i q b 0 false none 0
 simp only [moved,Nat.zero_add] at h
 unfold wds tx
 rw [h,List.map_map]
 rfl
theorem scan_nil_iff (q i:Nat) (b:List UInt8):scan q false none i b=[]↔wds b=[]:=by
 rw [← tx_scan q i b]
 unfold tx
 rw [List.map_eq_nil_iff]
theorem lnsB_last (q i:Nat) (b:List UInt8) (h:(10:UInt8) ∉ b):lnsB q i b=if wds b=[] then [] else [scan q false none i b]:=by
 by_cases hb:wds b=[]
 ·rw [if_pos hb]
  unfold lnsB
  rw [(scan_nil_iff q i b).2 hb]
  rfl
 ·rw [if_neg hb]
  refine lns_single q ((scan q false none i b).length - 1) _ ?_ (scan_line b q false none i h)
  have:scan q false none i b≠[]:=fun e=>hb ((scan_nil_iff q i b).1 e)
  have:=List.length_pos_iff.2 this
  omega
theorem lnsB_line (q i:Nat) (b r:List UInt8) (h:(10:UInt8) ∉ b) :
  lnsB q i (b++10::r)=(if wds b=[] then [] else [scan q false none i b])++lnsB (q+1) (i+b.length+1) r:=by
 rw [← lnsB_last q i b h]
 unfold lnsB
 rw [scan_app,List.count_eq_zero.2 h]
 refine lns_app _ _ _ rfl (fun x hx y hy=>?_)
 have h1:=scan_line b q false none i h x hx
 have h2:=(scan_bd r (q+1+0) false none (i+b.length+1) (fun _ _ e=>by cases e) y hy).2.1
 omega
def linesB (Bs:List (List UInt8)):List UInt8:=Bs.flatMap (·++[10])
theorem linesB_cons (b:List UInt8) (Bs:List (List UInt8)) (r:List UInt8):linesB (b::Bs)++r=b++10::(linesB Bs++r):=by simp [linesB]
theorem linesB_len (b:List UInt8) (Bs:List (List UInt8)):(linesB (b::Bs)).length=b.length+1+(linesB Bs).length:=by simp [linesB];omega
theorem lnsB_lines:∀ (Bs:List (List UInt8)),(∀ b ∈ Bs,(10:UInt8) ∉ b)→∀ (q i:Nat) (r:List UInt8),
  ∃ G,lnsB q i (linesB Bs++r)=G++lnsB (q+Bs.length) (i+(linesB Bs).length) r∧G.map tx=(Bs.map wds).filter (fun w=>!w.isEmpty):=by
 intro Bs
 induction Bs with
 |nil=>intro _ q i r;exact⟨[],rfl,rfl⟩
 |cons b Bs ih=>
  intro h q i r
  obtain⟨G,h1,h2⟩:=ih (fun c hc=>h c (List.mem_cons_of_mem _ hc)) (q+1) (i+b.length+1) r
  have e1:q+1+Bs.length=q+(b::Bs).length:=by simp;omega
  have e2:i+b.length+1+(linesB Bs).length=i+(linesB (b::Bs)).length:=by rw [linesB_len];omega
  rw [e1,e2] at h1
  rw [linesB_cons,lnsB_line q i b _ (h b List.mem_cons_self),h1]
  by_cases hb:wds b=[]
  ·refine⟨G,by rw [if_pos hb];rfl,?_⟩
   rw [h2,List.map_cons,List.filter_cons_of_neg (by simp [hb])]
  ·refine⟨scan q false none i b::G,by rw [if_neg hb];simp,?_⟩
   rw [List.map_cons,List.map_cons,tx_scan,List.filter_cons_of_pos (by simpa using hb),h2]
theorem lns_text (s:ByteArray):lns (textW s)=lnsB 1 0 s.data.toList:=by rw [textW_scan];rfl
def Pw (w:List UInt8):Prop:=∀ c ∈ w,c≠10∧c≠35∧ws c=false
theorem scan_in (q:Nat) (r:List UInt8):∀ (w:List UInt8),Pw w→∀ (p:Nat) (t:List UInt8) (i:Nat),scan q false (some (p,t)) i (w++r)=scan q false (some (p,t++w)) (i+w.length) r:=by
 intro w
 induction w with
 |nil=>intro _ p t i;simp
 |cons c w ih=>
  intro h p t i
  obtain⟨h1,h2,h3⟩:=h c List.mem_cons_self
  have e:=ih (fun d hd=>h d (List.mem_cons_of_mem _ hd)) p (t++[c]) (i+1)
  simp only [List.cons_append,scan]
  rw [if_neg h1,if_neg (by simp [h2]),if_neg (by simp [h3])]
  simp only [grow]
  rw [e,List.append_assoc]
  simp only [List.singleton_append,List.length_cons]
  rw [show i+1+w.length=i+(w.length+1) by omega]
theorem scan_word (q i:Nat) (w r:List UInt8) (hw:Pw w) (hn:w≠[]):scan q false none i (w++r)=scan q false (some (i,w)) (i+w.length) r:=by
 cases w with
 |nil=>exact absurd rfl hn
 |cons c w=>
  obtain⟨h1,h2,h3⟩:=hw c List.mem_cons_self
  simp only [List.cons_append,scan]
  rw [if_neg h1,if_neg (by simp [h2]),if_neg (by simp [h3])]
  simp only [grow]
  rw [scan_in q r w (fun d hd=>hw d (List.mem_cons_of_mem _ hd)),List.singleton_append]
  simp only [List.length_cons]
  rw [show i+1+w.length=i+(w.length+1) by omega]
theorem scan_blanks (q:Nat) (r:List UInt8):∀ (s:List UInt8),(∀ c ∈ s,ws c=true)→∀ (i:Nat),scan q false none i (s++r)=scan q false none (i+s.length) r:=by
 intro s
 induction s with
 |nil=>intro _ i;rfl
 |cons c s ih=>
  intro h i
  have h1:=h c List.mem_cons_self
  have c10:c≠10:=by rintro rfl;revert h1;decide
  have c35:c≠35:=by rintro rfl;revert h1;decide
  simp only [List.cons_append,scan]
  rw [if_neg c10,if_neg (by simp [c35]),if_pos h1,ih (fun d hd=>h d (List.mem_cons_of_mem _ hd))]
  simp only [emit,List.nil_append,List.length_cons]
  rw [show i+1+s.length=i+(s.length+1) by omega]
theorem scan_sep (q p i:Nat) (t s r:List UInt8) (hs:∀ c ∈ s,ws c=true) (hn:s≠[]):scan q false (some (p,t)) i (s++r)=⟨p,q,⟨t.toArray⟩⟩::scan q false none (i+s.length) r:=by
 cases s with
 |nil=>exact absurd rfl hn
 |cons c s=>
  have h1:=hs c List.mem_cons_self
  have c10:c≠10:=by rintro rfl;revert h1;decide
  have c35:c≠35:=by rintro rfl;revert h1;decide
  simp only [List.cons_append,scan]
  rw [if_neg c10,if_neg (by simp [c35]),if_pos h1,scan_blanks q r s (fun d hd=>hs d (List.mem_cons_of_mem _ hd))]
  simp only [emit,List.cons_append,List.nil_append,List.length_cons]
  rw [show i+1+s.length=i+(s.length+1) by omega]
def Tail (r:List UInt8):Prop:=∀ q p t i,scan q false (some (p,t)) i r=[⟨p,q,⟨t.toArray⟩⟩]
theorem tail_nil:Tail []:=fun _ _ _ _=>rfl
theorem tx_words (s:List UInt8) (hs:∀ c ∈ s,ws c=true) (hn:s≠[]) (r:List UInt8) (hr:Tail r):∀ (W:List (List UInt8)),W≠[]→(∀ w ∈ W,w≠[]∧Pw w)→∀ q i,tx (scan q false none i (Lib.join W s++r))=W.map (fun w=>⟨w.toArray⟩):=by
 intro W
 induction W with
 |nil=>intro h;exact absurd rfl h
 |cons w W ih=>
  intro _ h q i
  obtain⟨h1,h2⟩:=h w List.mem_cons_self
  cases W with
  |nil=>
   rw [Lib.join_one,scan_word q i w r h2 h1,hr]
   rfl
  |cons v W=>
   have e:Lib.join (w::v::W) s++r=w++(s++(Lib.join (v::W) s++r)):=by simp [Lib.join,List.intercalate,List.append_assoc]
   rw [e,scan_word q i w _ h2 h1,scan_sep q i _ w s _ hs hn]
   have:=ih (by simp) (fun x hx=>h x (List.mem_cons_of_mem _ hx)) q (i+w.length+s.length)
   unfold tx at this ⊢
   rw [List.map_cons,this]
   rfl
theorem wds_join (s:List UInt8) (hs:∀ c ∈ s,ws c=true) (hn:s≠[]) (r:List UInt8) (hr:Tail r) (W:List ByteArray) (hW:W≠[]) (h:∀ w ∈ W,w.data.toList≠[]∧Pw w.data.toList):wds (Lib.join (W.map (·.data.toList)) s++r)=W:=by
 have h1:=tx_words s hs hn r hr (W.map (·.data.toList)) (by simpa using hW) (fun w hw=>by
  obtain⟨v,hv,rfl⟩:=List.mem_map.1 hw
  exact h v hv) 0 0
 unfold wds
 rw [h1,List.map_map]
 conv=>rhs;rw [← List.map_id W]
 refine List.map_congr_left (fun w _=>?_)
 rfl
theorem itoa_pw (n:Int) (h:0≤n):itoa n≠[]∧∀ c ∈ itoa n,isD c:=by
 have e:itoa n=decDigits n.toNat:=by unfold itoa;rw [if_neg (by omega)]
 rw [e]
 exact⟨(dec_num _).2.2.1,(dec_num _).2.1⟩
theorem isD_pw {c:UInt8} (h:isD c):c≠10∧c≠35∧ws c=false:=by
 unfold isD at h
 refine⟨?_,?_,?_⟩
 ·rintro rfl;revert h;decide
 ·rintro rfl;revert h;decide
 ·by_cases h2:ws c=true
  ·unfold ws at h2
   simp at h2
   rcases h2 with rfl|rfl
   ·revert h;decide
   ·revert h;decide
  ·simpa using h2
theorem digB_pw {n:Int} (h:0≤n):(digB n).data.toList≠[]∧Pw (digB n).data.toList:=by
 rw [digB_data]
 exact⟨(itoa_pw n h).1,fun c hc=>isD_pw ((itoa_pw n h).2 c hc)⟩
theorem nameW_pw {name v:ByteArray} (hn:Pw name.data.toList) (hv:Pw v.data.toList):(nameW name v).data.toList≠[]∧Pw (nameW name v).data.toList:=by
 rw [nameW_data]
 refine⟨by simp,fun c hc=>?_⟩
 rcases List.mem_append.1 hc with hc|hc
 ·exact hn c hc
 ·rcases List.mem_cons.1 hc with rfl|hc
  ·decide
  ·exact hv c hc
theorem joinP_pw {l:List Int} (h:∀ y ∈ l,0≤y):Pw (joinP l).data.toList:=by
 have key:∀ (L:List (List UInt8)),(∀ x ∈ L,Pw x)→Pw (Lib.join L [44]):=by
  intro L
  induction L with
  |nil=>intro _ c hc;simp [Lib.join] at hc
  |cons x L ih=>
   intro hL c hc
   cases L with
   |nil=>rw [Lib.join_one] at hc;exact hL x List.mem_cons_self c hc
   |cons y L=>
    have e:Lib.join (x::y::L) [44]=x++44::Lib.join (y::L) [44]:=by simp [Lib.join,List.intercalate]
    rw [e] at hc
    rcases List.mem_append.1 hc with hc|hc
    ·exact hL x List.mem_cons_self c hc
    ·rcases List.mem_cons.1 hc with rfl|hc
     ·decide
     ·exact ih (fun z hz=>hL z (List.mem_cons_of_mem _ hz)) c hc
 have e:(joinP l).data.toList=Lib.join (l.map itoa) [44]:=by simp [joinP]
 rw [e]
 refine key _ (fun x hx=>?_)
 obtain⟨n,hn,rfl⟩:=List.mem_map.1 hx
 exact fun c hc=>isD_pw ((itoa_pw n (h n hn)).2 c hc)
def Sml (x:Tk):Prop:=(1≤x.id∧x.id≤99)∧(1≤x.p∧x.p≤99)∧(1≤x.c∧x.c≤x.d∧x.d≤x.t∧x.t≤1073741824)∧(∀ y ∈ x.ch,1≤y∧y≤1073741824)∧(∀ y ∈ x.us,0≤y∧y<256)
theorem Sml.of {x:Tk} {sets:Int} (hs:sets≤256) (h:rightE x.id x.c x.d x.t x.p x.ch x.us sets=0):Sml x:=by
 obtain⟨h1,h2,h3,_,h5,_,h7⟩:=rightE_small hs h
 exact⟨h1,h2,h3,h5,h7⟩
theorem taskW_pw {x:Tk} (h:Sml x):∀ w ∈ taskW x,w.data.toList≠[]∧Pw w.data.toList:=by
 obtain⟨h1,h2,h3,h4,h5⟩:=h
 have n0:Pw (⟨#[116,97,115,107]⟩:ByteArray).data.toList:=by unfold Pw;decide
 have n1:Pw (⟨#[99]⟩:ByteArray).data.toList:=by unfold Pw;decide
 have n2:Pw (⟨#[100]⟩:ByteArray).data.toList:=by unfold Pw;decide
 have n3:Pw (⟨#[116]⟩:ByteArray).data.toList:=by unfold Pw;decide
 have n4:Pw (⟨#[112]⟩:ByteArray).data.toList:=by unfold Pw;decide
 have n5:Pw (⟨#[99,104,117,110,107,115]⟩:ByteArray).data.toList:=by unfold Pw;decide
 have n6:Pw (⟨#[117,115,101]⟩:ByteArray).data.toList:=by unfold Pw;decide
 have d0:=digB_pw (n:=x.id) (by omega)
 have d1:=digB_pw (n:=x.c) (by omega)
 have d2:=digB_pw (n:=x.d) (by omega)
 have d3:=digB_pw (n:=x.t) (by omega)
 have d4:=digB_pw (n:=x.p) (by omega)
 have j5:=joinP_pw (l:=x.ch) (fun y hy=>by have:=h4 y hy;omega)
 have j6:=joinP_pw (l:=x.us) (fun y hy=>by have:=h5 y hy;omega)
 intro w hw
 unfold taskW at hw
 rcases List.mem_append.1 hw with hw|hw
 ·simp only [List.mem_cons,List.not_mem_nil,or_false] at hw
  rcases hw with rfl|rfl|rfl|rfl|rfl|rfl
  ·exact⟨by decide,n0⟩
  ·exact d0
  ·exact nameW_pw n1 d1.2
  ·exact nameW_pw n2 d2.2
  ·exact nameW_pw n3 d3.2
  ·exact nameW_pw n4 d4.2
 ·rcases List.mem_append.1 hw with hw|hw
  ·split at hw
   ·simp only [List.mem_cons,List.not_mem_nil,or_false] at hw
    rw [hw]
    exact nameW_pw n5 j5
   ·cases hw
  ·split at hw
   ·simp only [List.mem_cons,List.not_mem_nil,or_false] at hw
    rw [hw]
    exact nameW_pw n6 j6
   ·cases hw
theorem taskW_ne (x:Tk):taskW x≠[]:=by unfold taskW;simp
theorem lineP_join (x:Tk):(lineP x).data.toList=Lib.join ((taskW x).map (·.data.toList)) [32]:=by
 unfold lineP lineC lineN taskW
 by_cases h1:0<x.ch.length
 ·by_cases h2:0<x.us.length
  ·simp [h1,h2,nameW,Lib.join,List.intercalate,ByteArray.data_append]
  ·simp [h1,h2,nameW,Lib.join,List.intercalate,ByteArray.data_append]
 ·by_cases h2:0<x.us.length
  ·simp [h1,h2,nameW,Lib.join,List.intercalate,ByteArray.data_append]
  ·simp [h1,h2,nameW,Lib.join,List.intercalate,ByteArray.data_append]
def headW (sets rel:Int):List ByteArray:=[⟨#[99,97,99,104,101]⟩,digB sets,digB rel]
def headL (sets rel:Int):List UInt8:=Lib.join ((headW sets rel).map (·.data.toList)) [32]
theorem headT_lines (sets rel:Int):(headT sets rel).data.toList=headL sets rel++[10]:=by
 simp [headT,headL,headW,Lib.join,List.intercalate,ByteArray.data_append]
theorem headW_pw {sets rel:Int} (h1:0≤sets) (h2:0≤rel):∀ w ∈ headW sets rel,w.data.toList≠[]∧Pw w.data.toList:=by
 intro w hw
 unfold headW at hw
 simp only [List.mem_cons,List.not_mem_nil,or_false] at hw
 rcases hw with rfl|rfl|rfl
 ·exact⟨by decide,by unfold Pw;decide⟩
 ·exact digB_pw h1
 ·exact digB_pw h2
theorem join_no10 (s:List UInt8) (hs:(10:UInt8) ∉ s):∀ (W:List (List UInt8)),(∀ w ∈ W,Pw w)→(10:UInt8) ∉ Lib.join W s:=by
 intro W
 induction W with
 |nil=>intro _ hc;simp [Lib.join] at hc
 |cons x L ih=>
  intro hL hc
  cases L with
  |nil=>rw [Lib.join_one] at hc;exact (hL x List.mem_cons_self 10 hc).1 rfl
  |cons y L=>
   have e:Lib.join (x::y::L) s=x++(s++Lib.join (y::L) s):=by simp [Lib.join,List.intercalate]
   rw [e] at hc
   rcases List.mem_append.1 hc with hc|hc
   ·exact (hL x List.mem_cons_self 10 hc).1 rfl
   ·rcases List.mem_append.1 hc with hc|hc
    ·exact hs hc
    ·exact ih (fun z hz=>hL z (List.mem_cons_of_mem _ hz)) hc
def prnL (sets rel:Int) (L:List Tk):List (List UInt8):=headL sets rel::L.map (fun x=>(lineP x).data.toList)
theorem goT_lines:∀ (L:List Tk),(∀ x ∈ L,lineT x=lineP x)→∀ h,(goT h L).data.toList=h.data.toList++linesB (L.map (fun x=>(lineP x).data.toList)):=by
 intro L
 induction L with
 |nil=>intro _ h;simp [goT,linesB]
 |cons x L ih=>
  intro hL h
  rw [goT,ih (fun y hy=>hL y (List.mem_cons_of_mem _ hy)),hL x List.mem_cons_self]
  simp [linesB,ByteArray.data_append]
theorem rightE_more {x:Tk} {sets:Int} (hs:sets≤256) (h:rightE x.id x.c x.d x.t x.p x.ch x.us sets=0):lineT x=lineP x:=by
 unfold lineT
 rw [if_pos]
 unfold rightE at h ⊢
 split at h
 ·rename_i h1
  split at h
  ·rename_i h2
   split at h
   ·rename_i h3
    split at h
    ·rename_i h4
     have h5:x.us.any (farB 256)=false:=by
      refine List.any_eq_false.2 (fun y hy=>?_)
      have:=List.any_eq_false.1 h4.2 y hy
      unfold farB at this ⊢
      simp at this ⊢
      omega
     rw [if_pos h1,if_pos h2,if_pos h3,if_pos ⟨h4.1,h5⟩]
    ·cases h
   ·cases h
  ·cases h
 ·cases h
theorem checkGo_all {sets:Int}:∀ (L:List Tk) (last:Int) (met:List Int),checkGo sets last met L=0→∀ x ∈ L,rightE x.id x.c x.d x.t x.p x.ch x.us sets=0:=by
 intro L
 induction L with
 |nil=>intro _ _ _ x hx;cases hx
 |cons y L ih=>
  intro last met h x hx
  rw [checkGo] at h
  split at h
  ·rename_i h1
   split at h
   ·cases h
   ·split at h
    ·cases h
    ·rcases List.mem_cons.1 hx with rfl|hx
     ·exact h1
     ·exact ih _ _ h x hx
  ·rename_i h1;exact absurd h h1
theorem checkGo_take {sets:Int}:∀ (L M:List Tk) (last:Int) (met:List Int),checkGo sets last met (L++M)=0→checkGo sets last met L=0:=by
 intro L
 induction L with
 |nil=>intro _ _ _ _;rfl
 |cons y L ih=>
  intro M last met h
  rw [List.cons_append,checkGo] at h
  rw [checkGo]
  split at h
  ·rename_i h1
   split at h
   ·cases h
   ·rename_i h2
    split at h
    ·cases h
    ·rename_i h3
     rw [if_pos h1,if_neg h2,if_neg h3]
     exact ih M _ _ h
  ·rename_i h1;exact absurd h h1
theorem checkE_says {sets rel:Int} {L:List Tk} (h:checkE sets rel L=0):(0≤sets∧sets≤256)∧(0≤rel∧rel≤1000)∧L≠[]∧(∀ x ∈ L,Sml x∧lineT x=lineP x)∧∀ M N,L=M++N→M≠[]→checkE sets rel M=0:=by
 have hs:=checkE_small h
 obtain⟨s1,s2,s3,s4⟩:=hs
 unfold checkE at h
 split at h
 ·rename_i h1
  refine⟨s1,s2,by intro e;rw [e] at s3;exact absurd s3 (by decide),fun x hx=>?_,fun M N e hM=>?_⟩
  ·have hx:=checkGo_all L _ _ h x hx
   exact⟨Sml.of s1.2 hx,rightE_more s1.2 hx⟩
  ·subst e
   unfold checkE
   rw [List.length_append] at s4
   have hl:=List.length_pos_iff.2 hM
   rw [if_pos ⟨h1.1,h1.2.1,by omega⟩,if_pos (by omega)]
   exact checkGo_take M N _ _ h
 ·cases h
theorem printT_lines {sets rel:Int} {L:List Tk} (h:checkE sets rel L=0):(printT sets rel L).data.toList=linesB (prnL sets rel L):=by
 obtain⟨_,_,_,h4,_⟩:=checkE_says h
 unfold printT
 rw [goT_lines L (fun x hx=>(h4 x hx).2),headT_lines]
 simp [prnL,linesB]
def prnW (sets rel:Int) (L:List Tk):List (List ByteArray):=headW sets rel::L.map taskW
theorem goP_good {sets rel size:Int}:∀ (L:List Tk) (G:List (List Wd)) (acc:List Tk) (rest:List (List Wd)),G.map tx=L.map taskW→(∀ x ∈ L,Sml x)→(∀ M N,L=M++N→M≠[]→checkE sets rel (acc++M)=0)→goP sets rel size acc (G++rest)=goP sets rel size (acc++L) rest:=by
 intro L
 induction L with
 |nil=>
  intro G acc rest h _ _
  rw [List.map_eq_nil_iff.1 h]
  simp
 |cons x L ih=>
  intro G acc rest h hS hC
  cases G with
  |nil=>cases h
  |cons g G=>
   simp only [List.map_cons,List.cons.injEq] at h
   have hg:taskG g=.ok x:=taskG_words h.1 (hS x List.mem_cons_self)
   have hc:=hC [x] L rfl (by simp)
   rw [List.cons_append,goP,hg]
   simp only
   rw [if_pos hc,ih G (acc++[x]) rest h.2 (fun y hy=>hS y (List.mem_cons_of_mem _ hy)) (fun M N e hM=>by
    rw [List.append_assoc]
    exact hC (x::M) N (by rw [e];rfl) (by simp))]
   simp
theorem parse_lines {sets rel size:Int} {L:List Tk} (h:checkE sets rel L=0) {G rest:List (List Wd)} (hG:G.map tx=prnW sets rel L) {s:ByteArray} (hs:lns (textW s)=G++rest) (hz:(s.size:Int)=size):parseP s=goP sets rel size L rest:=by
 obtain⟨h1,h2,h3,h4,h5⟩:=checkE_says h
 unfold prnW at hG
 cases G with
 |nil=>cases hG
 |cons g G=>
  simp only [List.map_cons,List.cons.injEq] at hG
  have hh:headG g=.ok (sets,rel):=headG_words hG.1 h1 h2
  unfold parseP
  rw [hs,List.cons_append]
  simp only
  rw [hh]
  simp only
  rw [hz]
  have:=goP_good (sets:=sets) (rel:=rel) (size:=size) L G [] rest hG.2 (fun x hx=>(h4 x hx).1) (fun M N e hM=>by rw [List.nil_append];exact h5 M N e hM)
  rw [this,List.nil_append]
theorem goP_end {sets rel size:Int} {L:List Tk} (h:L≠[]):goP sets rel size L []=(sets,rel,L,size,0):=by
 unfold goP
 rw [if_neg]
 intro e
 exact h (List.eq_nil_of_length_eq_zero e)
theorem prnL_wds {sets rel:Int} {L:List Tk} (h:checkE sets rel L=0):(∀ b ∈ prnL sets rel L,(10:UInt8) ∉ b)∧(prnL sets rel L).map wds=prnW sets rel L∧((prnL sets rel L).map wds).filter (fun w=>!w.isEmpty)=prnW sets rel L:=by
 obtain⟨h1,h2,h3,h4,h5⟩:=checkE_says h
 have e32:∀ c ∈ ([32]:List UInt8),ws c=true:=by decide
 have hh:=headW_pw h1.1 h2.1
 have kh:wds (headL sets rel)=headW sets rel:=by
  have:=wds_join [32] e32 (by simp) [] tail_nil (headW sets rel) (by simp [headW]) hh
  rwa [List.append_nil] at this
 have kt:∀ x ∈ L,wds (lineP x).data.toList=taskW x:=fun x hx=>by
  have:=wds_join [32] e32 (by simp) [] tail_nil (taskW x) (taskW_ne x) (taskW_pw (h4 x hx).1)
  rwa [List.append_nil,← lineP_join] at this
 have km:(prnL sets rel L).map wds=prnW sets rel L:=by
  unfold prnL prnW
  rw [List.map_cons,kh,List.map_map]
  congr 1
  exact List.map_congr_left (fun x hx=>kt x hx)
 refine⟨fun b hb=>?_,km,?_⟩
 ·unfold prnL at hb
  rcases List.mem_cons.1 hb with rfl|hb
  ·refine join_no10 [32] (by decide) _ (fun w hw=>?_)
   obtain⟨v,hv,rfl⟩:=List.mem_map.1 hw
   exact (hh v hv).2
  ·obtain⟨x,hx,rfl⟩:=List.mem_map.1 hb
   rw [lineP_join]
   refine join_no10 [32] (by decide) _ (fun w hw=>?_)
   obtain⟨v,hv,rfl⟩:=List.mem_map.1 hw
   exact (taskW_pw (h4 x hx).1 v hv).2
 ·rw [km]
  refine List.filter_eq_self.2 (fun w hw=>?_)
  unfold prnW at hw
  rcases List.mem_cons.1 hw with rfl|hw
  ·rfl
  ·obtain⟨x,hx,rfl⟩:=List.mem_map.1 hw
   have:=taskW_ne x
   cases ht:taskW x with
   |nil=>exact absurd ht this
   |cons a l=>rfl
theorem parse_print {sets rel:Int} {L:List Tk} (h:checkE sets rel L=0):parseP (printT sets rel L)=(sets,rel,L,((printT sets rel L).size:Int),0):=by
 obtain⟨h1,_,h3⟩:=prnL_wds h
 obtain⟨G,g1,g2⟩:=lnsB_lines (prnL sets rel L) h1 1 0 []
 rw [h3] at g2
 rw [List.append_nil,← printT_lines h] at g1
 have e:lns (textW (printT sets rel L))=G++[]:=by rw [lns_text,g1];rfl
 rw [parse_lines h g2 e rfl]
 exact goP_end (checkE_says h).2.2.1
end Go.Proofs.YtcfknijdhmildaaDoor
end
section
namespace Go.Proofs.YtcfknijdhmildaaDoor.PParseBack
open Go.RowKit Go.Shelf Go.Lib Go.Proofs.YtcfknijdhmildaaDoorW.PrintWords
theorem sum_nonneg:∀ l:List Int,(∀ y ∈ l,1≤y)→0≤l.sum:=by
 intro l
 induction l with
 |nil=>intro _;simp
 |cons x r ih=>
  intro h
  have h1:=h x List.mem_cons_self
  have h2:=ih (fun y hy=>h y (List.mem_cons_of_mem _ hy))
  rw [List.sum_cons]
  omega
theorem chunkL_sum:∀ (l:List Int) (z:Int),(∀ y ∈ l,1≤y)→0≤z→chunkL (l.sum+z) l=some z:=by
 intro l
 induction l with
 |nil=>intro z _ _;simp [chunkL]
 |cons x r ih=>
  intro z h hz
  have h1:=h x List.mem_cons_self
  have h2:=sum_nonneg r (fun y hy=>h y (List.mem_cons_of_mem _ hy))
  have h3:=ih z (fun y hy=>h y (List.mem_cons_of_mem _ hy)) hz
  rw [chunkL,List.sum_cons,if_pos ⟨h1,by omega⟩,show x+r.sum+z - x=r.sum+z by omega]
  exact h3
theorem good_right {i:Nat} (hi:i<6) {sets:Int} {t:S52} (h:GoodTask i sets t):rightE t.f0 t.f1 t.f2 t.f3 t.f4 t.f5 t.f6 sets=0:=by
 have h1:=h.id
 have h2:=h.c1
 have h3:=h.cd
 have h4:=h.dt
 have h5:=h.t24
 have h6:=h.p1
 have h7:=h.p99
 have hc:chunksB t.f1 t.f5=true:=by
  unfold chunksB
  rcases h.chs with e|e
  ·rw [e];simp [chunkL,chunkFin]
  ·have:=chunkL_sum t.f5 0 h.ch1 (by omega)
   rw [Int.add_zero,e] at this
   rw [this]
   have hl:=h.chl
   have e1:decide (t.f5.length≤64)=true:=decide_eq_true (by omega)
   unfold chunkFin
   simp [e1]
 have hu:t.f6.length≤64∧t.f6.any (farB sets)=false:=by
  refine⟨by have:=h.usl;omega,List.any_eq_false.2 (fun y hy=>?_)⟩
  have:=h.us y hy
  unfold farB
  simp
  omega
 unfold rightE inB
 rw [if_pos ⟨decide_eq_true (by omega),decide_eq_true (by omega)⟩,if_pos ⟨decide_eq_true (by omega),decide_eq_true (by omega),by omega⟩,if_pos hc,if_pos hu]
theorem good_go {sets rel:Int} {l:List S52} (h:GoodSys sets rel l):∀ (n i:Nat),i+n=l.length→checkGo sets (i:Int) (((l.map tkOf).take i).map (·.p)) ((l.map tkOf).drop i)=0:=by
 have h6:=h.l6
 intro n
 induction n with
 |zero=>
  intro i hi
  rw [List.drop_eq_nil_of_le (by simp;omega)]
  rfl
 |succ n ih=>
  intro i hi
  have hil:i<l.length:=by omega
  have hil':i<(l.map tkOf).length:=by simpa using hil
  have hg:=h.task i hil
  have he:(l.map tkOf)[i]=tkOf l[i]:=by simp
  have hr:=good_right (by omega) hg
  rw [checkGo_step hil',he]
  have hr':rightE (tkOf l[i]).id (tkOf l[i]).c (tkOf l[i]).d (tkOf l[i]).t (tkOf l[i]).p (tkOf l[i]).ch (tkOf l[i]).us sets=0:=hr
  rw [if_pos hr']
  have hid:(tkOf l[i]).id=(i:Int)+1:=hg.id
  rw [if_neg (by omega)]
  have hp:(tkOf l[i]).p ∉ ((l.map tkOf).take i).map (·.p):=by
   intro hm
   rw [List.mem_map] at hm
   obtain⟨y,hy,hyp⟩:=hm
   obtain⟨j,hj,hjy⟩:=List.mem_iff_getElem.1 hy
   rw [List.length_take] at hj
   have hjl:j<l.length:=by omega
   have hji:j<i:=by omega
   have e:y=tkOf l[j]:=by rw [← hjy];simp
   have hgj:=h.task j hjl
   have q1:l[j].f4 % 10=(j:Int):=hgj.pi
   have q2:l[i].f4 % 10=(i:Int):=hg.pi
   rw [e] at hyp
   have q3:l[j].f4=l[i].f4:=hyp
   rw [q3] at q1
   omega
  rw [if_neg hp]
  have hn:=ih (i+1) (by omega)
  have htk:((l.map tkOf).take (i+1)).map (·.p)=((l.map tkOf).take i).map (·.p)++[(tkOf l[i]).p]:=by
   rw [List.take_add_one,List.getElem?_eq_getElem hil',List.map_append,he];rfl
  rw [htk,Int.natCast_succ,← hid] at hn
  exact hn
theorem goT_ge (L:List Tk):∀ h,h.size≤(goT h L).size:=by
 induction L with
 |nil=>intro h;exact Nat.le_refl _
 |cons x r ih=>
  intro h
  have h1:=ih ((h++lineT x)++⟨#[10]⟩)
  simp only [ByteArray.size_append,goT] at h1 ⊢
  omega
theorem good_check {sets rel:Int} {l:List S52} (h:GoodSys sets rel l):checkE sets rel (l.map tkOf)=0∧0<(printT sets rel (l.map tkOf)).size∧(printT sets rel (l.map tkOf)).size≤20000:=by
 have h1:=h.s1
 have h2:=h.s8
 have h3:=h.r0
 have h4:=h.r3
 have h5:=h.l1
 have h6:=h.l6
 refine⟨?_,?_,?_⟩
 ·have hg:=good_go h l.length 0 (by omega)
  unfold checkE inB
  rw [if_pos ⟨decide_eq_true (by omega),decide_eq_true (by omega),by rw [List.length_map];omega⟩,if_pos (by rw [List.length_map];omega)]
  simpa using hg
 ·have hh:6≤(headT sets rel).size:=by
   have z0:(⟨#[99,97,99,104,101,32]⟩:ByteArray).size=6:=rfl
   unfold headT
   simp only [ByteArray.size_append]
   omega
  have:=goT_ge (l.map tkOf) (headT sets rel)
  unfold printT
  omega
 ·have hh:=headT_size sets rel (by omega) (by omega)
  have:=goT_size (l.map tkOf) (headT sets rel)
  rw [List.length_map] at this
  unfold printT
  omega
theorem good_small {sets rel:Int} {l:List S52} (h:GoodSys sets rel l):∀ x ∈ l.map tkOf,x.ch.length≤1000000∧x.us.length≤1000000∧x.c≤9223372036854775807:=by
 intro x hx
 obtain⟨y,hy,rfl⟩:=List.mem_map.1 hx
 obtain⟨j,hj,rfl⟩:=List.mem_iff_getElem.1 hy
 have hg:=h.task j hj
 have a1:=hg.chl
 have a2:=hg.usl
 have a3:=hg.cd
 have a4:=hg.dt
 have a5:=hg.t24
 exact⟨by show l[j].f5.length≤_;omega,by show l[j].f6.length≤_;omega,by show l[j].f1≤_;omega⟩
end Go.Proofs.YtcfknijdhmildaaDoor.PParseBack
end
section
namespace Go.Proofs.YtcfknijdhmildaaDoor
open Go.RowKit Go.Shelf Go.Lib Go.Proofs.YtcfknijdhmildaaDoorW.PrintWords
def uC (c:UInt8):List UInt8:=if c=10 then [32,35,32,110,111,116,101,61,49]++[10,32,10] else if c=32 then [9,32] else [c]
def uB (l:List UInt8):List UInt8:=l.flatMap uC
theorem uB_app (a b:List UInt8):uB (a++b)=uB a++uB b:=by simp [uB]
theorem uB_word:∀ (w:List UInt8),Pw w→uB w=w:=by
 intro w
 induction w with
 |nil=>intro _;rfl
 |cons c w ih=>
  intro h
  obtain⟨h1,_,h3⟩:=h c List.mem_cons_self
  have c32:c≠32:=by rintro rfl;revert h3;decide
  have:=ih (fun d hd=>h d (List.mem_cons_of_mem _ hd))
  unfold uB at this ⊢
  rw [List.flatMap_cons,this]
  unfold uC
  rw [if_neg h1,if_neg c32]
  rfl
theorem uB_join:∀ (W:List (List UInt8)),(∀ w ∈ W,Pw w)→uB (Lib.join W [32])=Lib.join W [9,32]:=by
 intro W
 induction W with
 |nil=>intro _;rfl
 |cons w W ih=>
  intro h
  have h1:=uB_word w (h w List.mem_cons_self)
  cases W with
  |nil=>rw [Lib.join_one,Lib.join_one,h1]
  |cons v W=>
   have e:∀ s,Lib.join (w::v::W) s=w++(s++Lib.join (v::W) s):=fun s=>by simp [Lib.join,List.intercalate]
   rw [e,e,uB_app,uB_app,h1,ih (fun x hx=>h x (List.mem_cons_of_mem _ hx))]
   rfl
def noteT:List UInt8:=[32,35,32,110,111,116,101,61,49]
theorem tail_note:Tail noteT:=by
 intro q p t i
 have e1:ws 32=true:=rfl
 simp [noteT,scan,emit,e1]
theorem uB_lines:∀ (Bs:List (List UInt8)),uB (linesB Bs)=linesB (Bs.flatMap (fun b=>[uB b++noteT,[32]])):=by
 intro Bs
 induction Bs with
 |nil=>rfl
 |cons b Bs ih=>
  have e:linesB (b::Bs)=b++10::linesB Bs:=by have:=linesB_cons b Bs [];simpa using this
  rw [e,show b++10::linesB Bs=b++([10]++linesB Bs) by simp,uB_app,uB_app,ih]
  have e10:uB [10]=noteT++[10,32,10]:=rfl
  rw [e10]
  simp [linesB]
theorem parse_notes {sets rel:Int} {L:List Tk} (h:checkE sets rel L=0) {u:ByteArray} (hu:u.data.toList=uB (printT sets rel L).data.toList):parseP u=(sets,rel,L,(u.size:Int),0):=by
 obtain⟨c1,c2,c3,c4,_⟩:=checkE_says h
 have e932:∀ c ∈ ([9,32]:List UInt8),ws c=true:=by decide
 have hh:=headW_pw c1.1 c2.1
 have key:∀ (W:List ByteArray),W≠[]→(∀ w ∈ W,w.data.toList≠[]∧Pw w.data.toList)→(10:UInt8) ∉ (uB (Lib.join (W.map (·.data.toList)) [32])++noteT)∧wds (uB (Lib.join (W.map (·.data.toList)) [32])++noteT)=W:=by
  intro W hW hw
  have hm:∀ w ∈ W.map (·.data.toList),Pw w:=fun w hw'=>by
   obtain⟨v,hv,rfl⟩:=List.mem_map.1 hw'
   exact (hw v hv).2
  rw [uB_join _ hm]
  refine⟨fun e=>?_,wds_join [9,32] e932 (by simp) noteT tail_note W hW hw⟩
  rcases List.mem_append.1 e with e|e
  ·exact join_no10 [9,32] (by decide) _ hm e
  ·revert e;decide
 have kh:=key (headW sets rel) (by simp [headW]) hh
 have kt:∀ x ∈ L,(10:UInt8) ∉ (uB (lineP x).data.toList++noteT)∧wds (uB (lineP x).data.toList++noteT)=taskW x:=fun x hx=>by
  rw [lineP_join]
  exact key (taskW x) (taskW_ne x) (taskW_pw (c4 x hx).1)
 have h32:(10:UInt8) ∉ ([32]:List UInt8)∧wds [32]=[]:=⟨by decide,rfl⟩
 rw [printT_lines h,uB_lines] at hu
 obtain⟨G,g1,g2⟩:=lnsB_lines ((prnL sets rel L).flatMap (fun b=>[uB b++noteT,[32]])) (fun b hb=>by
  obtain⟨d,hd,hb⟩:=List.mem_flatMap.1 hb
  simp only [List.mem_cons,List.not_mem_nil,or_false] at hb
  rcases hb with rfl|rfl
  ·unfold prnL at hd
   rcases List.mem_cons.1 hd with rfl|hd
   ·exact kh.1
   ·obtain⟨x,hx,rfl⟩:=List.mem_map.1 hd
    exact (kt x hx).1
  ·exact h32.1) 1 0 []
 rw [List.append_nil,← hu,← lns_text] at g1
 have hf:∀ (M:List Tk),(∀ x ∈ M,x ∈ L)→(((M.map (fun x=>(lineP x).data.toList)).flatMap (fun b=>[uB b++noteT,[32]])).map wds).filter (fun w=>!w.isEmpty)=M.map taskW:=by
  intro M
  induction M with
  |nil=>intro _;rfl
  |cons x M ih=>
   intro hM
   have h1:=kt x (hM x List.mem_cons_self)
   have hne:(fun w:List ByteArray=>!w.isEmpty) (taskW x)=true:=by
    have:=taskW_ne x
    cases ht:taskW x with
    |nil=>exact absurd ht this
    |cons a l=>rfl
   simp only [List.map_cons,List.flatMap_cons,List.cons_append,List.nil_append]
   rw [h1.2,h32.2,List.filter_cons_of_pos (p:=fun w:List ByteArray=>!w.isEmpty) hne,List.filter_cons_of_neg (by simp),ih (fun y hy=>hM y (List.mem_cons_of_mem _ hy))]
 have g3:G.map tx=prnW sets rel L:=by
  rw [g2]
  unfold prnL prnW
  simp only [List.map_cons,List.flatMap_cons,List.cons_append,List.nil_append]
  have kh2:wds (uB (headL sets rel)++noteT)=headW sets rel:=kh.2
  rw [kh2,h32.2,List.filter_cons_of_pos (by simp [headW]),List.filter_cons_of_neg (by simp),hf L (fun _ h=>h)]
 have e:lns (textW u)=G++[]:=by rw [g1];rfl
 rw [parse_lines h g3 e rfl]
 exact goP_end c3
end Go.Proofs.YtcfknijdhmildaaDoor
end
section
set_option linter.unusedVariables false
namespace Go.Proofs.YtcfknijdhmildaaDoor.PParseBack
open Go.RowKit Go.Lib Go.Proofs.YtcfknijdhmildaaDoorW.PrintWords
theorem str_byte (T:ByteArray) (i:Nat) (h:i<T.size):strOfNums [bt T (i:Int)]=⟨#[T[i]]⟩:=by
 have hb:bt T (i:Int)=((T[i]).toNat:Int):=by
  unfold bt
  rw [dif_pos (by simpa using h)]
  rfl
 rw [hb]
 simp [strOfNums]
theorem uB_succ (T:ByteArray) (i:Nat) (h:i<T.size):uB (T.data.toList.take (i+1))=uB (T.data.toList.take i)++uC T[i]:=by
 have hl:i<T.data.toList.length:=by rw [← Lib.size_eq];exact h
 rw [List.take_succ_eq_append_getElem hl,uB_app]
 have e:T.data.toList[i]=T[i]:=rfl
 rw [e]
 simp [uB]
theorem uC_len (c:UInt8):(uC c).length≤12:=by
 unfold uC
 split
 ·simp
 ·split<;>simp
theorem uB_len:∀ l:List UInt8,(uB l).length≤12 * l.length:=by
 intro l
 induction l with
 |nil=>simp [uB]
 |cons c l ih=>
  have:=uC_len c
  simp only [uB,List.flatMap_cons,List.length_append,List.length_cons] at ih ⊢
  omega
theorem uB_few:∀ l:List UInt8,(uB l).length≤2 * l.length+11 * l.count 10:=by
 intro l
 induction l with
 |nil=>simp [uB]
 |cons c l ih=>
  simp only [uB,List.flatMap_cons,List.length_append,List.length_cons] at ih ⊢
  by_cases hc:c=10
  ·subst hc
   rw [List.count_cons_self]
   have:(uC 10).length=12:=rfl
   omega
  ·rw [List.count_cons_of_ne hc]
   have:(uC c).length≤2:=by
    unfold uC
    rw [if_neg hc]
    split<;>simp
   omega
theorem count_lines:∀ (Bs:List (List UInt8)),(∀ b ∈ Bs,(10:UInt8) ∉ b)→(linesB Bs).count 10=Bs.length:=by
 intro Bs
 induction Bs with
 |nil=>intro _;rfl
 |cons b Bs ih=>
  intro h
  have h1:=ih (fun c hc=>h c (List.mem_cons_of_mem _ hc))
  have h2:=List.count_eq_zero.2 (h b List.mem_cons_self)
  unfold linesB at h1 ⊢
  rw [List.flatMap_cons,List.count_append,h1,List.count_append,h2]
  simp
  omega
theorem byte_is (c d:UInt8):((c.toNat:Int)=(d.toNat:Int))↔c=d:=by
 constructor
 ·intro h
  exact UInt8.toNat_inj.1 (by omega)
 ·rintro rfl;rfl
theorem back_l0 (T:ByteArray) (hT:T.size≤20000) (b:Bool) (a e:Int) (t2:Bool) (s r:Int) (M:List S52) (V:Bool)
  (hend:∀ u:ByteArray,u.data.toList=uB T.data.toList→Ev (fun k=>ostinatolaw07_ParseBack.l0 k b T a e t2 u (T.size:Int) s r M) V) :
  ∀ (d i:Nat) (acc:ByteArray),i+d=T.size→acc.data.toList=uB (T.data.toList.take i)→Ev (fun k=>ostinatolaw07_ParseBack.l0 k b T a e t2 acc (i:Int) s r M) V:=by
 intro d
 induction d with
 |zero=>
  intro i acc hi hacc
  obtain rfl:i=T.size:=by omega
  rw [Lib.size_eq,List.take_length] at hacc
  exact hend acc hacc
 |succ d ih=>
  intro i acc hi hacc
  have hlt:i<T.size:=by omega
  have hsz:acc.size≤240000:=by
   have:=uB_len (T.data.toList.take i)
   rw [← hacc,← Lib.size_eq,List.length_take,← Lib.size_eq] at this
   omega
  have hb:bt T (i:Int)=((T[i]).toNat:Int):=by
   unfold bt
   rw [dif_pos (by simpa using hlt)]
   rfl
  have hs:=str_byte T i hlt
  have hss:(strOfNums [bt T (i:Int)]).size=1:=by rw [hs];rfl
  have hnext:∀ acc':ByteArray,acc'.data.toList=uB (T.data.toList.take i)++uC T[i]→Ev (fun k=>ostinatolaw07_ParseBack.l0 k b T a e t2 acc' (wrap64 ((i:Int)+1)) s r M) V:=fun acc' h=>by
   rw [qaT i (by omega)]
   exact ih (i+1) acc' (by omega) (by rw [h,uB_succ T i hlt])
  have z9:(⟨#[32,35,32,110,111,116,101,61,49]⟩:ByteArray).size=9:=rfl
  have z1:(⟨#[9]⟩:ByteArray).size=1:=rfl
  by_cases h10:T[i]=10
  ·have hb10:bt T (i:Int)=10:=by rw [hb,h10];rfl
   refine Ev.step (fun k=>by rw [ostinatolaw07_ParseBack.l0]) (Ev.ifp (by omega) (Ev.ifp (by omega) (Ev.ifp hb10 (Ev.ifp (by omega) ?_))))
   refine Ev.step (fun k=>by rw [ostinatolaw07_ParseBack.j1]) (Ev.ifp (by omega) (Ev.ifp (by omega) (Ev.ifn (by rw [hb10];decide) ?_)))
   refine Ev.bindS rfl ?_
   refine Ev.ifp (by rw [hss,ByteArray.size_append,z9];omega) (Ev.ifp hb10 (Ev.ifp (by rw [ByteArray.size_append,ByteArray.size_append,hss,z9];omega) ?_))
   refine hnext _ ?_
   rw [hs,h10]
   simp only [ByteArray.data_append,Array.toList_append,hacc,List.append_assoc]
   rfl
  ·have hb10:¬ bt T (i:Int)=10:=fun h=>h10 ((byte_is T[i] 10).1 (by rw [← hb,h];rfl))
   refine Ev.step (fun k=>by rw [ostinatolaw07_ParseBack.l0]) (Ev.ifp (by omega) (Ev.ifp (by omega) (Ev.ifn hb10 ?_)))
   by_cases h32:T[i]=32
   ·have hb32:bt T (i:Int)=32:=by rw [hb,h32];rfl
    refine Ev.step (fun k=>by rw [ostinatolaw07_ParseBack.j1]) (Ev.ifp (by omega) (Ev.ifp (by omega) (Ev.ifp hb32 (Ev.ifp (by omega) ?_))))
    refine Ev.bindS rfl ?_
    refine Ev.ifp (by rw [hss,ByteArray.size_append,z1];omega) (Ev.ifn hb10 ?_)
    refine hnext _ ?_
    rw [hs,h32]
    simp only [ByteArray.data_append,Array.toList_append,hacc]
    rw [List.append_assoc]
    rfl
   ·have hb32:¬ bt T (i:Int)=32:=fun h=>h32 ((byte_is T[i] 32).1 (by rw [← hb,h];rfl))
    refine Ev.step (fun k=>by rw [ostinatolaw07_ParseBack.j1]) (Ev.ifp (by omega) (Ev.ifp (by omega) (Ev.ifn hb32 ?_)))
    refine Ev.bindS rfl ?_
    refine Ev.ifp (by rw [hss];omega) (Ev.ifn hb10 ?_)
    refine hnext _ ?_
    rw [hs]
    simp only [ByteArray.data_append,Array.toList_append,hacc]
    unfold uC
    rw [if_neg h10,if_neg h32]
theorem pure_ParseBack (x0:S24) (ok0_:ok24 x0):∃ k,ostinatolaw07_ParseBack.f k x0.f0 x0.f1 x0.f2=some true:=by
 obtain⟨s,rl,M,hm,hg⟩:=lawmade_f x0.f0 x0.f1 x0.f2
 obtain⟨g1,g2,g3⟩:=good_check hg
 have hsm:=good_small hg
 obtain⟨L,hL⟩:∃ L,M.map tkOf=L:=⟨_,rfl⟩
 have hML:M=L.map tkTo:=by rw [← hL,List.map_map];exact (List.map_id' M).symm
 rw [hL] at g1 g2 g3 hsm
 have hl:=(checkE_small g1).2.2.2
 have hp:=parse_print g1
 have hsame:=same_f s rl L (by omega) (fun x hx=>⟨(hsm x hx).1,(hsm x hx).2.1⟩)
 refine Ev.rounds (r:=true) ?_
 unfold ostinatolaw07_ParseBack.f
 refine Ev.bindS awake_f ?_
 refine Ev.bind hm ?_
 rw [hML]
 refine Ev.bindS (print_f g1 hsm) ?_
 refine Ev.bindS (show parse_Parse.f (printT s rl L)=_ from parse_f (by omega) hp) ?_
 refine Ev.bind hsame ?_
 refine back_l0 (printT s rl L) g3 true _ 0 true s rl (L.map tkTo) true (fun u hu=>?_) _ 0 ⟨#[]⟩ (Nat.zero_add _) rfl
 have hz:u.size≤65536:=by
  have h1:=uB_few (printT s rl L).data.toList
  rw [← hu,← Lib.size_eq,← Lib.size_eq] at h1
  have h2:=count_lines (prnL s rl L) (prnL_wds g1).1
  rw [printT_lines g1,h2] at h1
  have h3:(prnL s rl L).length=L.length+1:=by simp [prnL]
  omega
 have hpu:=parse_notes g1 hu
 have hne:¬ (printT s rl L).toList=([]:List UInt8):=by
  intro h
  rw [Lib.toList_data] at h
  rw [Lib.size_eq,h] at g2
  exact absurd g2 (by decide)
 refine Ev.step (fun k=>by rw [ostinatolaw07_ParseBack.l0]) (Ev.ifn (by omega) ?_)
 refine Ev.bindS (parse_f hz hpu) ?_
 refine Ev.bind hsame ?_
 exact Ev.ifp rfl (Ev.ifn hne (Ev.ifp rfl (Ev.ifp rfl (Ev.ifp rfl (Ev.ifp rfl (Ev.ifp rfl (Ev.now _)))))))
end Go.Proofs.YtcfknijdhmildaaDoor.PParseBack
end
section
namespace Go.Proofs.YtcfknijdhmildaaDoor
open Go.ChangeShapes Go.WideShapes Go.ChangeAt Go.RowKit
theorem laid_met (os:Os) (args:Array Value):laidMetH Tryd.prog Rows.parseBackRow.laid ((World.laidAll Tryd.prog os Rows.parseBackRow.laid).forCall (fun _ _=>0) ⟨#[],args,[]⟩).memory:=by
 rw [MakeChecks.laidMetH_plain _ _ _ (by kernel_rfl)]
 exact laidMet_laidAll _ (by kernel_rfl) (by kernel_rfl)
theorem handed_laid {H:Type} {enc:TypeId × Value→H} {C:Checked} {os:Os} {f:FuncId} {fn:Func} {s:ChangeSpec} {l:List (String × DataW Unit)}
  (own:ownKnob C.prog.godebug=none) (started:os.Started) (noInit:C.prog.inits.idxOf? f=none) (hfn:C.prog.funcs[f]? = some fn)
  (witness:∃ (w:World) (tape:Tape) (i:Input),w.os=os∧(w.forCall tape i).Shaped C.prog∧i.vars=[]∧Input.okWide C.prog (w.forCall tape i) .any w.heap.size f i ∧
   ((s.pre enc C.prog fn [] false (w.forCall tape i).memory i.args∧laidMetH C.prog l (w.forCall tape i).memory)∧sizedMet enc C.prog fn (OpenSpec.ofChange s) false (w.forCall tape i).memory i.args)∧({}:Assume).holds C.prog (lone (Frame.enter C.prog f i.args .normal) [] (w.forCall tape i)))
  (contract:∀ (W:World) (base:Nat) (args:Array Value) (ds gs:List (DataW H)) (before:List MemPlace),
   (∀ (j:Nat) t v,fn.params[j]? = some t→args[j]? = some v→Value.okWide C.prog W .any base t v) →
   DataW.Whole enc C.prog fn.params.toList s.vars false W args.toList ds gs before→laidMetH C.prog l W→W.ShapedOpen C.prog →
   Calls C.prog f args W fun e W'=>∃ v,e=.returned v∧s.post enc C.prog fn false true false false W args v W') :
  ReturnsInHanded {} C os f .any (fun w args=>(s.pre enc C.prog fn [] false w args∧laidMetH C.prog l w)∧sizedMet enc C.prog fn (OpenSpec.ofChange s) false w args) (s.post enc C.prog fn false true false false):=by
 refine returnsInHanded_of_calls own started noInit witness ?_
 intro w tape i _ hsh _ hok hpre _
 obtain⟨_,_,_,fn',hfn',_,_,_,_,hval⟩:=hok
 obtain rfl:fn' = fn:=Option.some.inj (hfn'.symm.trans hfn)
 obtain⟨⟨⟨ds,gs,before,hw,_⟩,hl⟩,_⟩:=hpre
 have hw':=DataW.Whole.of_heap (w':=w.forCall tape i) (by rfl) hw
 refine (contract (w.forCall tape i) w.heap.size i.args ds gs before hval hw' (laidMetH.of_heap (by rfl) hl) hsh).mono fun e W' ⟨v,he,hp⟩=>?_
 subst he
 exact ChangeSpec.post_blind hp
end Go.Proofs.YtcfknijdhmildaaDoor
end
section
namespace Go.Proofs.YtcfknijdhmildaaDoor
open Go.RowKit
theorem tab_of_laid {W:World} (h:laidMetH Tryd.prog Rows.parseBackRow.laid W):Lib.TabIs Tryd.prog W "internal/strconv.uint64pow10" .u64 Lib.pow10Tab:=by
 rw [MakeChecks.laidMetH_plain _ _ _ (by kernel_rfl)] at h
 have hm:("internal/strconv.uint64pow10",Rows.laid_internal_strconv_uint64pow10) ∈ Rows.parseBackRow.laid:=by
  unfold Rows.parseBackRow
  simp
 obtain⟨g,t,cs,fuel,p,hg,ht,hv,hd⟩:=Lib.laidMet.reads h hm
 have hg0:Tryd.prog.globalNamed "internal/strconv.uint64pow10" = some 0:=by kernel_rfl
 obtain rfl:=Option.some.inj (hg0.symm.trans hg)
 have e:(Rows.laid_internal_strconv_uint64pow10:DataW Unit)=Lib.tabData .u64 Lib.pow10Tab:=by kernel_rfl
 rw [e] at hd
 have hty:(Tryd.prog.globals[0]?).map (·.type)=some 169:=by kernel_rfl
 obtain rfl:=Option.some.inj (hty.symm.trans ht)
 unfold Lib.TabIs
 rw [hv,← Lib.cells_of_tab Tryd.underlying169 Tryd.underlying90 (by kernel_rfl) (by kernel_rfl) hd]
end Go.Proofs.YtcfknijdhmildaaDoor
end
