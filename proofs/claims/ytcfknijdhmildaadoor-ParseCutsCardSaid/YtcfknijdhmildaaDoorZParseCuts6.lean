/- Texts of this claim, one behind the other: PParseCuts7, PParseCuts, QParseCutsQAwk, QParseCutsQRd, QParseCutsQChk, QParseCutsPMade, PrnA, QParseCutsQGd, PrnB, PureParseCuts, Laid, LaidTab. -/
import Derived.Test.YtcfknijdhmildaaDoorZParseCuts3
import Derived.Test.YtcfknijdhmildaaDoorZParseCuts4
import Derived.Test.YtcfknijdhmildaaDoorZParseCuts5
import Derived.Test.YtcfknijdhmildaaDoorZParseCuts1
import Derived.Test.YtcfknijdhmildaaDoorZParseCuts2
import Derived.Test.YtcfknijdhmildaaDoorRows
import Derived.Test.YtcfknijdhmildaaDoorCards
import Derived.Test.YtcfknijdhmildaaDoorTie
import Derived.ProofKit
import Derived.LaidMore
import Derived.Lay
import Derived.LaidLaws
import Derived.LaidHandle
import Derived.HandedShaped
import Derived.SevenTiedAt
import Derived.Lib.LaidU8
import Derived.Lib.LaidTab

set_option maxHeartbeats 8000000
set_option maxRecDepth 100000
set_option linter.unusedVariables false
set_option linter.unusedSimpArgs false
section
namespace Go.Proofs.YtcfknijdhmildaaDoor.PParseCuts
open Go.RowKit Go.Proofs.YtcfknijdhmildaaDoorW.PrintWords Go.Proofs.YtcfknijdhmildaaDoorW.PrintLast Go.Proofs.YtcfknijdhmildaaDoorW.PrintMore
attribute [local go_sem] max2_int min2_int max_two min_two max_three min_three max_four min_four
set_option linter.unusedVariables false
set_option linter.unusedSimpArgs false
noncomputable section
def ostinatolaw07_ParseCuts.f (k:Nat) (a0_0:Int) (a0_1:Int) (l0_2:List (S60)) (a1:Int):Option (Bool):=(ostinatolaw07_awake.f).bind fun t176=>((ostinatolaw07_Sys_made.f k a0_0 a0_1 l0_2).bind fun bt177=>((parse_Print.f bt177.1 bt177.2.1 bt177.2.2).bind fun t183=>(if (t183.size:Int)=0 then (some false) else (if 0≤(Int.tmod (wrap64 ((Int.tmod a1 (t183.size:Int))+(t183.size:Int))) (t183.size:Int)) then (if (Int.tmod (wrap64 ((Int.tmod a1 (t183.size:Int))+(t183.size:Int))) (t183.size:Int))≤(t183.size:Int) then ((parse_Parse.f (t183.extract 0 ((Int.tmod (wrap64 ((Int.tmod a1 (t183.size:Int))+(t183.size:Int))) (t183.size:Int)):Int).toNat)).bind fun bt184=>(if bt184.2.2.2.2=0 then (if t176=true then (if bt184.2.2.2.1=(Int.tmod (wrap64 ((Int.tmod a1 (t183.size:Int))+(t183.size:Int))) (t183.size:Int)) then (if (bt184.2.2.1.length:Int) ≥ 1 then (if (bt184.2.2.1.length:Int)≤(bt177.2.2.length:Int) then (if bt184.1=bt177.1 then ((ostinatoref05_Check.f k bt184.1 bt184.2.1 bt184.2.2.1).bind fun t192=>(some (t192 == 0))) else (some false)) else (some false)) else (some false)) else (some false)) else (some false)) else (if t176=true then (if bt184.2.2.2.1 ≥ 0 then (some (decide (bt184.2.2.2.1≤(Int.tmod (wrap64 ((Int.tmod a1 (t183.size:Int))+(t183.size:Int))) (t183.size:Int))))) else (some false)) else (some false)))) else (none)) else (none)))))
theorem ostinatolaw07_ParseCuts.calls (k:Nat) (a0_0:Int) (a0_1:Int) (A0_2:Option Addr) (c0_2:Nat) (l0_2:List (S60)) (a1:Int) (r:Bool) (w:World) (hr0_2:Kd.C k60 w A0_2 l0_2.length l0_2) (hc0_2:l0_2.length≤c0_2) (h:ostinatolaw07_ParseCuts.f k a0_0 a0_1 l0_2 a1=some r) (hT:Tabs w) :
  Calls Tryd.prog 7 #[.agg #[.int .i64 a0_0,.int .i64 a0_1,.slice A0_2 l0_2.length c0_2],.int .i64 a1] w fun e w'=>e=.returned (.bool r)∧Below w.heap.size w w':=by
 have hu24:=Tryd.underlying24
 have hu32:=Tryd.underlying32
 have HR0_2:=qaj.mk hr0_2
 have HC0_2:=qaj.mk hc0_2
 clear hr0_2 hc0_2
 have HB:=qaj.mk (Below.refl w.heap.size w)
 have H:((ostinatolaw07_awake.f).bind fun t176=>((ostinatolaw07_Sys_made.f k a0_0 a0_1 l0_2).bind fun bt177=>((parse_Print.f bt177.1 bt177.2.1 bt177.2.2).bind fun t183=>(if (t183.size:Int)=0 then (some false) else (if 0≤(Int.tmod (wrap64 ((Int.tmod a1 (t183.size:Int))+(t183.size:Int))) (t183.size:Int)) then (if (Int.tmod (wrap64 ((Int.tmod a1 (t183.size:Int))+(t183.size:Int))) (t183.size:Int))≤(t183.size:Int) then ((parse_Parse.f (t183.extract 0 ((Int.tmod (wrap64 ((Int.tmod a1 (t183.size:Int))+(t183.size:Int))) (t183.size:Int)):Int).toNat)).bind fun bt184=>(if bt184.2.2.2.2=0 then (if t176=true then (if bt184.2.2.2.1=(Int.tmod (wrap64 ((Int.tmod a1 (t183.size:Int))+(t183.size:Int))) (t183.size:Int)) then (if (bt184.2.2.1.length:Int) ≥ 1 then (if (bt184.2.2.1.length:Int)≤(bt177.2.2.length:Int) then (if bt184.1=bt177.1 then ((ostinatoref05_Check.f k bt184.1 bt184.2.1 bt184.2.2.1).bind fun t192=>(some (t192 == 0))) else (some false)) else (some false)) else (some false)) else (some false)) else (some false)) else (if t176=true then (if bt184.2.2.2.1 ≥ 0 then (some (decide (bt184.2.2.2.1≤(Int.tmod (wrap64 ((Int.tmod a1 (t183.size:Int))+(t183.size:Int))) (t183.size:Int))))) else (some false)) else (some false)))) else (none)) else (none))))))=some r:=h
 clear h
 have HT:=qaj.mk hT
 clear hT
 replace H:=Option.bind_eq_some_iff.mp H
 obtain⟨t176,A30,H⟩:=H
 replace H:((ostinatolaw07_Sys_made.f k a0_0 a0_1 l0_2).bind fun bt177=>((parse_Print.f bt177.1 bt177.2.1 bt177.2.2).bind fun t183=>(if (t183.size:Int)=0 then (some false) else (if 0≤(Int.tmod (wrap64 ((Int.tmod a1 (t183.size:Int))+(t183.size:Int))) (t183.size:Int)) then (if (Int.tmod (wrap64 ((Int.tmod a1 (t183.size:Int))+(t183.size:Int))) (t183.size:Int))≤(t183.size:Int) then ((parse_Parse.f (t183.extract 0 ((Int.tmod (wrap64 ((Int.tmod a1 (t183.size:Int))+(t183.size:Int))) (t183.size:Int)):Int).toNat)).bind fun bt184=>(if bt184.2.2.2.2=0 then (if t176=true then (if bt184.2.2.2.1=(Int.tmod (wrap64 ((Int.tmod a1 (t183.size:Int))+(t183.size:Int))) (t183.size:Int)) then (if (bt184.2.2.1.length:Int) ≥ 1 then (if (bt184.2.2.1.length:Int)≤(bt177.2.2.length:Int) then (if bt184.1=bt177.1 then ((ostinatoref05_Check.f k bt184.1 bt184.2.1 bt184.2.2.1).bind fun t192=>(some (t192 == 0))) else (some false)) else (some false)) else (some false)) else (some false)) else (some false)) else (if t176=true then (if bt184.2.2.2.1 ≥ 0 then (some (decide (bt184.2.2.2.1≤(Int.tmod (wrap64 ((Int.tmod a1 (t183.size:Int))+(t183.size:Int))) (t183.size:Int))))) else (some false)) else (some false)))) else (none)) else (none)))))=some r:=H
 have A3:=qaj.mk A30
 clear A30
 replace H:=Option.bind_eq_some_iff.mp H
 obtain⟨⟨t177,t178,t179⟩,A40,H⟩:=H
 replace H:((parse_Print.f t177 t178 t179).bind fun t183=>(if (t183.size:Int)=0 then (some false) else (if 0≤(Int.tmod (wrap64 ((Int.tmod a1 (t183.size:Int))+(t183.size:Int))) (t183.size:Int)) then (if (Int.tmod (wrap64 ((Int.tmod a1 (t183.size:Int))+(t183.size:Int))) (t183.size:Int))≤(t183.size:Int) then ((parse_Parse.f (t183.extract 0 ((Int.tmod (wrap64 ((Int.tmod a1 (t183.size:Int))+(t183.size:Int))) (t183.size:Int)):Int).toNat)).bind fun bt184=>(if bt184.2.2.2.2=0 then (if t176=true then (if bt184.2.2.2.1=(Int.tmod (wrap64 ((Int.tmod a1 (t183.size:Int))+(t183.size:Int))) (t183.size:Int)) then (if (bt184.2.2.1.length:Int) ≥ 1 then (if (bt184.2.2.1.length:Int)≤(t179.length:Int) then (if bt184.1=t177 then ((ostinatoref05_Check.f k bt184.1 bt184.2.1 bt184.2.2.1).bind fun t192=>(some (t192 == 0))) else (some false)) else (some false)) else (some false)) else (some false)) else (some false)) else (if t176=true then (if bt184.2.2.2.1 ≥ 0 then (some (decide (bt184.2.2.2.1≤(Int.tmod (wrap64 ((Int.tmod a1 (t183.size:Int))+(t183.size:Int))) (t183.size:Int))))) else (some false)) else (some false)))) else (none)) else (none))))=some r:=H
 have A4:=qaj.mk A40
 clear A40
 replace H:=Option.bind_eq_some_iff.mp H
 obtain⟨t183,A50,H⟩:=H
 replace H:(if (t183.size:Int)=0 then (some false) else (if 0≤(Int.tmod (wrap64 ((Int.tmod a1 (t183.size:Int))+(t183.size:Int))) (t183.size:Int)) then (if (Int.tmod (wrap64 ((Int.tmod a1 (t183.size:Int))+(t183.size:Int))) (t183.size:Int))≤(t183.size:Int) then ((parse_Parse.f (t183.extract 0 ((Int.tmod (wrap64 ((Int.tmod a1 (t183.size:Int))+(t183.size:Int))) (t183.size:Int)):Int).toNat)).bind fun bt184=>(if bt184.2.2.2.2=0 then (if t176=true then (if bt184.2.2.2.1=(Int.tmod (wrap64 ((Int.tmod a1 (t183.size:Int))+(t183.size:Int))) (t183.size:Int)) then (if (bt184.2.2.1.length:Int) ≥ 1 then (if (bt184.2.2.1.length:Int)≤(t179.length:Int) then (if bt184.1=t177 then ((ostinatoref05_Check.f k bt184.1 bt184.2.1 bt184.2.2.1).bind fun t192=>(some (t192 == 0))) else (some false)) else (some false)) else (some false)) else (some false)) else (some false)) else (if t176=true then (if bt184.2.2.2.1 ≥ 0 then (some (decide (bt184.2.2.2.1≤(Int.tmod (wrap64 ((Int.tmod a1 (t183.size:Int))+(t183.size:Int))) (t183.size:Int))))) else (some false)) else (some false)))) else (none)) else (none)))=some r:=H
 have A5:=qaj.mk A50
 clear A50
 by_cases c6:(t183.size:Int)=0
 ·rw [if_pos c6] at H
  have c6b0:((t183.size:Int) == 0)=true:=beq_iff_eq.mpr c6
  have c6b1:((t183.size:Int) != 0)=false:=bne_eq_false_iff_eq.mpr c6
  clear c6
  obtain rfl:=Option.some.inj H
  go_enter Tryd.func7,Tryd.ntmps7
  go_wp2_with (first|((with_reducible refine qaE (N:=2) rfl ?_);(try (refine qaD (by rfl) ?_;dsimp only));refine qaA ?hg (N:=2) ?hd (cs:=#[.int .i64 a0_0,.int .i64 a0_1,.slice A0_2 l0_2.length c0_2]) (t:=24) ?hr ?_;(case hd=>rfl);(case hg=>rfl);(case hr=>first|(go_simp;done)|(go_simp;rfl));intro gb175 hg w7 hbox hb;have n0_:=qaj.mk (qam (by repeat (first|(with_reducible first|exact HB.out|apply qai|apply qaa|apply qah)|exact HB.out)) hb);have n1_:=qaj.mk (hbox);have n2_:=qaj.mk ((by rw [hg];exact (qak (by repeat (first|(with_reducible first|exact HB.out|apply qai|apply qaa|apply qah)|exact HB.out))):w.heap.size≤gb175));have n3_:=qaj.mk ((by rw [hg];exact (qak (by repeat (first|(with_reducible first|exact HB.out|apply qai|apply qaa|apply qah)|exact HB.out))):w.heap.size≤gb175));clear HB;have HB:=n0_;have BK175:=n1_;have GW175:=n2_;have GE175:=n3_;clear n0_ n1_ n2_ n3_;clear hb hbox hg)|((with_reducible refine qau (f:=8) rfl ?_);refine qaJ (some 12) rfl rfl Tryd.func8 (by kernel_rfl) rfl #[] rfl (by (try simp only [List.map_toArray,List.map_cons,List.map_nil]);first|done|rfl|(simp only [List.length_drop,List.length_take];rfl)) ?_;(with_reducible refine (ostinatolaw07_awake.calls  t176 _ A3.out (Tabs.below HT.out (by repeat (first|(with_reducible first|exact HB.out|apply qai|apply qaa|apply qah|refine qae ?_ GE175.out)|exact HB.out)))).mono ?_);rintro e w8 ⟨rfl,hb⟩;refine⟨_,rfl,?_⟩;have n0_:=qaj.mk (qal (g:=gb175) (o:=.cells #[.int .i64 a0_0,.int .i64 a0_1,.slice A0_2 l0_2.length c0_2] 24 (0,0)) (by (with_reducible repeat (first|refine qad ?_ _|refine qag ?_|refine qab ?_ _));exact BK175.out) hb);have n1_:=qaj.mk (qam (by repeat (first|(with_reducible first|exact HB.out|apply qai|apply qaa|apply qah|refine qae ?_ GE175.out)|exact HB.out)) hb);clear BK175;clear HB;have BK175:=n0_;have HB:=n1_;clear n0_ n1_;(try clear hb);(try clear hb2);(try clear hk);(try clear hi);have hcz9_0:w8.cell? ⟨gb175,0,none⟩=some (.int .i64 a0_0):=(qaf BK175.out 0).trans rfl;have hcz9_1:w8.cell? ⟨gb175,1,none⟩=some (.int .i64 a0_1):=(qaf BK175.out 1).trans rfl;have hcz9_2:w8.cell? ⟨gb175,2,none⟩=some (.slice A0_2 l0_2.length c0_2):=(qaf BK175.out 2).trans rfl;have hfz9_0:=qac BK175.out 0;have hfz9_1:=qac BK175.out 1;have hfz9_2:=qac BK175.out 2)|((with_reducible refine qau (f:=11) rfl ?_);refine qaJ (some 14) rfl rfl Tryd.func11 (by kernel_rfl) rfl #[.agg #[.int .i64 a0_0,.int .i64 a0_1,.slice A0_2 l0_2.length c0_2]] rfl (by (try simp only [List.map_toArray,List.map_cons,List.map_nil]);first|done|rfl|(simp only [List.length_drop,List.length_take];rfl)) ?_;(with_reducible refine (ostinatolaw07_Sys_made.calls k a0_0 a0_1 (fun k_=>k_<w.heap.size) _ _ l0_2 t177 t178 t179 _ ?side1 A4.out).mono ?_);(case side1=>exact Kd.V_mk HC0_2.out (Kd.F_below (Kd.C_F k60_heap HR0_2.out) (by repeat (first|(with_reducible first|exact HB.out|apply qai|apply qaa|apply qah|refine qae ?_ GE175.out)|exact HB.out))));rintro e w10 ⟨v180,rfl,ho0,hb⟩;refine⟨_,rfl,?_⟩;have n0_:=qaj.mk (Kd.N_lower (Kd.N_mono (ok':=fun k_=>k_≠gb175) ho0 (fun k_ hk_=>Or.elim hk_ (fun hs_=>fun e_=>Nat.not_le.2 hs_ (by rw [e_];exact GW175.out)) (fun hn_=>(Kd.freshB (g:=gb175) (o:=.cells #[.int .i64 a0_0,.int .i64 a0_1,.slice A0_2 l0_2.length c0_2] 24 (0,0)) (by (with_reducible repeat (first|refine qad ?_ _|refine qag ?_|refine qab ?_ _));exact BK175.out) k_ hn_)))) (qak (by repeat (first|(with_reducible first|exact HB.out|apply qai|apply qaa|apply qah|refine qae ?_ GE175.out)|exact HB.out))));have n1_:=qaj.mk (qal (g:=gb175) (o:=.cells #[.int .i64 a0_0,.int .i64 a0_1,.slice A0_2 l0_2.length c0_2] 24 (0,0)) (by (with_reducible repeat (first|refine qad ?_ _|refine qag ?_|refine qab ?_ _));exact BK175.out) hb);have n2_:=qaj.mk (qam (by repeat (first|(with_reducible first|exact HB.out|apply qai|apply qaa|apply qah|refine qae ?_ GE175.out)|exact HB.out)) hb);clear BK175;clear HB;have HO181:=n0_;have BK175:=n1_;have HB:=n2_;clear n0_ n1_ n2_;(try clear hb);(try clear hb2);(try clear hk);(try clear hi);(try clear ho0))|((with_reducible refine qaE (N:=6) rfl ?_);(try (refine qaD (by rfl) ?_;dsimp only));refine qaA ?hg (N:=6) ?hd (cs:=#[.int .i64 0,.int .i64 0,.slice none 0 0]) (t:=32) ?hr ?_;(case hd=>rfl);(case hg=>rfl);(case hr=>first|(go_simp;done)|(go_simp;rfl));intro gb182 hg w11 hbox hb;have n0_:=qaj.mk (Kd.N_below (Kd.N_elderB (by (with_reducible repeat (first|apply Kd.N_alloc|apply Kd.N_drewN|apply Kd.N_drew));exact HO181.out) gb182 (Nat.le_of_eq hg.symm)) hb);have n1_:=qaj.mk (qal (g:=gb175) (o:=.cells #[.int .i64 a0_0,.int .i64 a0_1,.slice A0_2 l0_2.length c0_2] 24 (0,0)) (by (with_reducible repeat (first|refine qad ?_ _|refine qag ?_|refine qab ?_ _));exact BK175.out) hb);have n2_:=qaj.mk (qam (by repeat (first|(with_reducible first|exact HB.out|apply qai|apply qaa|apply qah|refine qae ?_ GE175.out)|exact HB.out)) hb);have n3_:=qaj.mk (hbox);have n4_:=qaj.mk ((by rw [hg];exact (qak (by repeat (first|(with_reducible first|exact HB.out|apply qai|apply qaa|apply qah|refine qae ?_ GE175.out)|exact HB.out))):w.heap.size≤gb182));have n5_:=qaj.mk ((by rw [hg];exact (qak (by repeat (first|(with_reducible first|exact HB.out|apply qai|apply qaa|apply qah|refine qae ?_ GE175.out)|exact HB.out))):w.heap.size≤gb182));have n6_:=qaj.mk ((by rw [hg];exact Nat.ne_of_lt (qax (g:=gb175) (o:=.cells #[.int .i64 a0_0,.int .i64 a0_1,.slice A0_2 l0_2.length c0_2] 24 (0,0)) (by (with_reducible repeat (first|refine qad ?_ _|refine qag ?_|refine qab ?_ _));exact BK175.out)):gb175≠gb182));have n7_:=qaj.mk ((by rw [hg];exact Nat.ne_of_gt (qax (g:=gb175) (o:=.cells #[.int .i64 a0_0,.int .i64 a0_1,.slice A0_2 l0_2.length c0_2] 24 (0,0)) (by (with_reducible repeat (first|refine qad ?_ _|refine qag ?_|refine qab ?_ _));exact BK175.out)):gb182≠gb175));clear HO181;clear BK175;clear HB;have HO181:=n0_;have BK175:=n1_;have HB:=n2_;have BK182:=n3_;have GW182:=n4_;have GE182:=n5_;have NB175_182:=n6_;have NB182_175:=n7_;clear n0_ n1_ n2_ n3_ n4_ n5_ n6_ n7_;clear hb hbox hg;have hnb12:=NB182_175.out;have hnc12:=NB175_182.out;have hcz13_0:w11.cell? ⟨gb182,0,none⟩=some (.int .i64 0):=(qaf BK182.out 0).trans rfl;have hcz13_1:w11.cell? ⟨gb182,1,none⟩=some (.int .i64 0):=(qaf BK182.out 1).trans rfl;have hcz13_2:w11.cell? ⟨gb182,2,none⟩=some (.slice none 0 0):=(qaf BK182.out 2).trans rfl;have hfz13_0:=qac BK182.out 0;have hfz13_1:=qac BK182.out 1;have hfz13_2:=qac BK182.out 2;obtain⟨Ao14,co14,eo14⟩:=Kd.N_slice HO181.out;subst eo14)|((with_reducible refine qau (f:=15) rfl ?_);refine qaJ (some 16) rfl rfl Tryd.func15 (by kernel_rfl) rfl #[.agg #[.int .i64 t177,.int .i64 t178,.slice Ao14 t179.length co14]] rfl (by (try simp only [List.map_toArray,List.map_cons,List.map_nil]);first|done|rfl|(simp only [List.length_drop,List.length_take];rfl)) ?_;(with_reducible refine (parse_Print.calls t177 t178 _ _ t179 t183 _ ?side1 ?side2 A5.out (Tabs.below HT.out (by repeat (first|(with_reducible first|exact HB.out|apply qai|apply qaa|apply qah|refine qae ?_ GE175.out|refine qae ?_ GE182.out)|exact HB.out)))).mono ?_);(case side1=>refine (Kd.N_reads' (e:=52) (base:=w.heap.size) (ok:=fun k_=>(k_≠gb175∧k_≠gb182)) (n:=t179.length) (c:=co14) ?_).2.2;exact (by (with_reducible repeat (first|apply Kd.N_alloc|apply Kd.N_drewN|apply Kd.N_drew));exact (Kd.N_mono (Kd.N_far (p:=⟨gb182,2,none⟩) (Kd.N_far (p:=⟨gb182,1,none⟩) (Kd.N_far (p:=⟨gb182,0,none⟩) (Kd.N_mono HO181.out (fun k_ hk=>(⟨hk,hk.2⟩:_∧k_≠gb182))) (fun _ hk=>hk.2) (.int .i64 t177)) (fun _ hk=>hk.2) (.int .i64 t178)) (fun _ hk=>hk.2) (.slice Ao14 t179.length co14)) (fun _ h_=>h_.1))));(case side2=>exact (Kd.N_reads' HO181.out).2.1);rintro e w15 ⟨rfl,hb⟩;refine⟨_,rfl,?_⟩;have n0_:=qaj.mk (Kd.N_below (by (with_reducible repeat (first|apply Kd.N_alloc|apply Kd.N_drewN|apply Kd.N_drew));exact (Kd.N_mono (Kd.N_far (p:=⟨gb182,2,none⟩) (Kd.N_far (p:=⟨gb182,1,none⟩) (Kd.N_far (p:=⟨gb182,0,none⟩) (Kd.N_mono HO181.out (fun k_ hk=>(⟨hk,hk.2⟩:_∧k_≠gb182))) (fun _ hk=>hk.2) (.int .i64 t177)) (fun _ hk=>hk.2) (.int .i64 t178)) (fun _ hk=>hk.2) (.slice Ao14 t179.length co14)) (fun _ h_=>h_.1))) hb);have n1_:=qaj.mk (qal (g:=gb175) (o:=.cells #[.int .i64 a0_0,.int .i64 a0_1,.slice A0_2 l0_2.length c0_2] 24 (0,0)) (by (with_reducible repeat (first|refine qad ?_ _|refine qag ?_|refine qab ?_ _));refine qaq ?_ NB175_182.out _;(with_reducible repeat (first|refine qad ?_ _|refine qag ?_|refine qab ?_ _));refine qaq ?_ NB175_182.out _;(with_reducible repeat (first|refine qad ?_ _|refine qag ?_|refine qab ?_ _));refine qaq ?_ NB175_182.out _;(with_reducible repeat (first|refine qad ?_ _|refine qag ?_|refine qab ?_ _));exact BK175.out) hb);have n2_:=qaj.mk (qal (g:=gb182) (o:=.cells #[.int .i64 t177,.int .i64 t178,.slice Ao14 t179.length co14] 32 (0,0)) (by (with_reducible repeat (first|refine qad ?_ _|refine qag ?_|refine qab ?_ _));refine qat (cs:=#[.int .i64 t177,.int .i64 t178,.slice none 0 0]) ?_ 2 _ rfl;(with_reducible repeat (first|refine qad ?_ _|refine qag ?_|refine qab ?_ _));refine qat (cs:=#[.int .i64 t177,.int .i64 0,.slice none 0 0]) ?_ 1 _ rfl;(with_reducible repeat (first|refine qad ?_ _|refine qag ?_|refine qab ?_ _));refine qat (cs:=#[.int .i64 0,.int .i64 0,.slice none 0 0]) ?_ 0 _ rfl;(with_reducible repeat (first|refine qad ?_ _|refine qag ?_|refine qab ?_ _));exact BK182.out) hb);have n3_:=qaj.mk (qam (by repeat (first|(with_reducible first|exact HB.out|apply qai|apply qaa|apply qah|refine qae ?_ GE175.out|refine qae ?_ GE182.out)|exact HB.out)) hb);clear HO181;clear BK175;clear BK182;clear HB;have HO181:=n0_;have BK175:=n1_;have BK182:=n2_;have HB:=n3_;clear n0_ n1_ n2_ n3_;(try clear hb);(try clear hb2);(try clear hk);(try clear hi)))
  go_ret
  exact⟨by first|rfl|(simp [qao,qan]<;>rfl)|(simp [bneNil,bneNilU]<;>rfl)|(simp [*,qao,qan]<;>rfl),by repeat (first|(with_reducible first|exact HB.out|apply qai|apply qaa|apply qah|refine qae ?_ GE175.out|refine qae ?_ GE182.out)|exact HB.out)⟩
 ·rw [if_neg c6] at H
  have c6b0:((t183.size:Int) == 0)=false:=beq_eq_false_iff_ne.mpr c6
  have c6b1:((t183.size:Int) != 0)=true:=bne_iff_ne.mpr c6
  obtain⟨ji16,hji16⟩:∃ j_:Int,(Int.tmod (wrap64 ((Int.tmod a1 (t183.size:Int))+(t183.size:Int))) (t183.size:Int))=j_:=⟨_,rfl⟩
  replace H:(if 0≤(ji16) then (if (ji16)≤(t183.size:Int) then ((parse_Parse.f (t183.extract 0 ((ji16):Int).toNat)).bind fun bt184=>(if bt184.2.2.2.2=0 then (if t176=true then (if bt184.2.2.2.1=(ji16) then (if (bt184.2.2.1.length:Int) ≥ 1 then (if (bt184.2.2.1.length:Int)≤(t179.length:Int) then (if bt184.1=t177 then ((ostinatoref05_Check.f k bt184.1 bt184.2.1 bt184.2.2.1).bind fun t192=>(some (t192 == 0))) else (some false)) else (some false)) else (some false)) else (some false)) else (some false)) else (if t176=true then (if bt184.2.2.2.1 ≥ 0 then (some (decide (bt184.2.2.2.1≤(ji16)))) else (some false)) else (some false)))) else (none)) else (none))=some r:=by first|(rw [hji16] at H;exact H)|(simp only [hji16] at H ⊢;exact H)
  (try rw [hji16] at A3)
  (try rw [hji16] at A4)
  (try rw [hji16] at A5)
  by_cases c17:0≤(ji16)
  ·rw [if_pos c17] at H
   have c17b0:=eq_true c17
   have c17b1:decide (0≤(ji16))=true:=decide_eq_true c17
   clear c17
   by_cases c18:(ji16)≤(t183.size:Int)
   ·rw [if_pos c18] at H
    have c18b0:=eq_true c18
    have c18b1:decide ((ji16)≤(t183.size:Int))=true:=decide_eq_true c18
    clear c18
    replace H:=Option.bind_eq_some_iff.mp H
    obtain⟨⟨t184,t185,t186,t189,t190⟩,A190,H⟩:=H
    replace H:(if t190=0 then (if t176=true then (if t189=(ji16) then (if (t186.length:Int) ≥ 1 then (if (t186.length:Int)≤(t179.length:Int) then (if t184=t177 then ((ostinatoref05_Check.f k t184 t185 t186).bind fun t192=>(some (t192 == 0))) else (some false)) else (some false)) else (some false)) else (some false)) else (some false)) else (if t176=true then (if t189 ≥ 0 then (some (decide (t189≤(ji16)))) else (some false)) else (some false)))=some r:=H
    have A19:=qaj.mk A190
    clear A190
    by_cases c20:t190=0
    ·rw [if_pos c20] at H
     have c20b0:(t190 == 0)=true:=beq_iff_eq.mpr c20
     have c20b1:(t190 != 0)=false:=bne_eq_false_iff_eq.mpr c20
     clear c20
     by_cases c21:t176=true
     ·subst c21
      have H1:(if t189=(ji16) then (if (t186.length:Int) ≥ 1 then (if (t186.length:Int)≤(t179.length:Int) then (if t184=t177 then ((ostinatoref05_Check.f k t184 t185 t186).bind fun t192=>(some (t192 == 0))) else (some false)) else (some false)) else (some false)) else (some false))=some r:=by rw [if_pos rfl] at H;exact H
      clear H
      have H:=H1
      clear H1
      by_cases c22:t189=(ji16)
      ·rw [if_pos c22] at H
       have c22b0:(t189 == (ji16))=true:=beq_iff_eq.mpr c22
       have c22b1:(t189 != (ji16))=false:=bne_eq_false_iff_eq.mpr c22
       clear c22
       by_cases c23:(t186.length:Int) ≥ 1
       ·rw [if_pos c23] at H
        have c23b0:decide (1≤(t186.length:Int))=true:=decide_eq_true c23
        have c23b1:decide (1≤t186.length)=true:=decide_eq_true (by omega)
        clear c23
        by_cases c24:(t186.length:Int)≤(t179.length:Int)
        ·rw [if_pos c24] at H
         have c24b0:decide ((t186.length:Int)≤(t179.length:Int))=true:=decide_eq_true c24
         have c24b1:decide (t186.length≤t179.length)=true:=decide_eq_true (Int.ofNat_le.mp c24)
         clear c24
         by_cases c25:t184=t177
         ·rw [if_pos c25] at H
          have c25b0:(t184 == t177)=true:=beq_iff_eq.mpr c25
          have c25b1:(t184 != t177)=false:=bne_eq_false_iff_eq.mpr c25
          clear c25
          replace H:=Option.bind_eq_some_iff.mp H
          obtain⟨t192,A260,H⟩:=H
          replace H:(some (t192 == 0))=some r:=H
          have A26:=qaj.mk A260
          clear A260
          obtain rfl:=Option.some.inj H
          go_enter Tryd.func7,Tryd.ntmps7
          go_wp2_with (first|((with_reducible refine qaE (N:=2) rfl ?_);(try (refine qaD (by rfl) ?_;dsimp only));refine qaA ?hg (N:=2) ?hd (cs:=#[.int .i64 a0_0,.int .i64 a0_1,.slice A0_2 l0_2.length c0_2]) (t:=24) ?hr ?_;(case hd=>rfl);(case hg=>rfl);(case hr=>first|(go_simp;done)|(go_simp;rfl));intro gb175 hg w27 hbox hb;have n0_:=qaj.mk (qam (by repeat (first|(with_reducible first|exact HB.out|apply qai|apply qaa|apply qah)|exact HB.out)) hb);have n1_:=qaj.mk (hbox);have n2_:=qaj.mk ((by rw [hg];exact (qak (by repeat (first|(with_reducible first|exact HB.out|apply qai|apply qaa|apply qah)|exact HB.out))):w.heap.size≤gb175));have n3_:=qaj.mk ((by rw [hg];exact (qak (by repeat (first|(with_reducible first|exact HB.out|apply qai|apply qaa|apply qah)|exact HB.out))):w.heap.size≤gb175));clear HB;have HB:=n0_;have BK175:=n1_;have GW175:=n2_;have GE175:=n3_;clear n0_ n1_ n2_ n3_;clear hb hbox hg)|((with_reducible refine qau (f:=8) rfl ?_);refine qaJ (some 12) rfl rfl Tryd.func8 (by kernel_rfl) rfl #[] rfl (by (try simp only [List.map_toArray,List.map_cons,List.map_nil]);first|done|rfl|(simp only [List.length_drop,List.length_take];rfl)) ?_;(with_reducible refine (ostinatolaw07_awake.calls  true _ A3.out (Tabs.below HT.out (by repeat (first|(with_reducible first|exact HB.out|apply qai|apply qaa|apply qah|refine qae ?_ GE175.out)|exact HB.out)))).mono ?_);rintro e w28 ⟨rfl,hb⟩;refine⟨_,rfl,?_⟩;have n0_:=qaj.mk (qal (g:=gb175) (o:=.cells #[.int .i64 a0_0,.int .i64 a0_1,.slice A0_2 l0_2.length c0_2] 24 (0,0)) (by (with_reducible repeat (first|refine qad ?_ _|refine qag ?_|refine qab ?_ _));exact BK175.out) hb);have n1_:=qaj.mk (qam (by repeat (first|(with_reducible first|exact HB.out|apply qai|apply qaa|apply qah|refine qae ?_ GE175.out)|exact HB.out)) hb);clear BK175;clear HB;have BK175:=n0_;have HB:=n1_;clear n0_ n1_;(try clear hb);(try clear hb2);(try clear hk);(try clear hi);have hcz29_0:w28.cell? ⟨gb175,0,none⟩=some (.int .i64 a0_0):=(qaf BK175.out 0).trans rfl;have hcz29_1:w28.cell? ⟨gb175,1,none⟩=some (.int .i64 a0_1):=(qaf BK175.out 1).trans rfl;have hcz29_2:w28.cell? ⟨gb175,2,none⟩=some (.slice A0_2 l0_2.length c0_2):=(qaf BK175.out 2).trans rfl;have hfz29_0:=qac BK175.out 0;have hfz29_1:=qac BK175.out 1;have hfz29_2:=qac BK175.out 2)|((with_reducible refine qau (f:=11) rfl ?_);refine qaJ (some 14) rfl rfl Tryd.func11 (by kernel_rfl) rfl #[.agg #[.int .i64 a0_0,.int .i64 a0_1,.slice A0_2 l0_2.length c0_2]] rfl (by (try simp only [List.map_toArray,List.map_cons,List.map_nil]);first|done|rfl|(simp only [List.length_drop,List.length_take];rfl)) ?_;(with_reducible refine (ostinatolaw07_Sys_made.calls k a0_0 a0_1 (fun k_=>k_<w.heap.size) _ _ l0_2 t177 t178 t179 _ ?side1 A4.out).mono ?_);(case side1=>exact Kd.V_mk HC0_2.out (Kd.F_below (Kd.C_F k60_heap HR0_2.out) (by repeat (first|(with_reducible first|exact HB.out|apply qai|apply qaa|apply qah|refine qae ?_ GE175.out)|exact HB.out))));rintro e w30 ⟨v180,rfl,ho0,hb⟩;refine⟨_,rfl,?_⟩;have n0_:=qaj.mk (Kd.N_lower (Kd.N_mono (ok':=fun k_=>k_≠gb175) ho0 (fun k_ hk_=>Or.elim hk_ (fun hs_=>fun e_=>Nat.not_le.2 hs_ (by rw [e_];exact GW175.out)) (fun hn_=>(Kd.freshB (g:=gb175) (o:=.cells #[.int .i64 a0_0,.int .i64 a0_1,.slice A0_2 l0_2.length c0_2] 24 (0,0)) (by (with_reducible repeat (first|refine qad ?_ _|refine qag ?_|refine qab ?_ _));exact BK175.out) k_ hn_)))) (qak (by repeat (first|(with_reducible first|exact HB.out|apply qai|apply qaa|apply qah|refine qae ?_ GE175.out)|exact HB.out))));have n1_:=qaj.mk (qal (g:=gb175) (o:=.cells #[.int .i64 a0_0,.int .i64 a0_1,.slice A0_2 l0_2.length c0_2] 24 (0,0)) (by (with_reducible repeat (first|refine qad ?_ _|refine qag ?_|refine qab ?_ _));exact BK175.out) hb);have n2_:=qaj.mk (qam (by repeat (first|(with_reducible first|exact HB.out|apply qai|apply qaa|apply qah|refine qae ?_ GE175.out)|exact HB.out)) hb);clear BK175;clear HB;have HO181:=n0_;have BK175:=n1_;have HB:=n2_;clear n0_ n1_ n2_;(try clear hb);(try clear hb2);(try clear hk);(try clear hi);(try clear ho0))|((with_reducible refine qaE (N:=6) rfl ?_);(try (refine qaD (by rfl) ?_;dsimp only));refine qaA ?hg (N:=6) ?hd (cs:=#[.int .i64 0,.int .i64 0,.slice none 0 0]) (t:=32) ?hr ?_;(case hd=>rfl);(case hg=>rfl);(case hr=>first|(go_simp;done)|(go_simp;rfl));intro gb182 hg w31 hbox hb;have n0_:=qaj.mk (Kd.N_below (Kd.N_elderB (by (with_reducible repeat (first|apply Kd.N_alloc|apply Kd.N_drewN|apply Kd.N_drew));exact HO181.out) gb182 (Nat.le_of_eq hg.symm)) hb);have n1_:=qaj.mk (qal (g:=gb175) (o:=.cells #[.int .i64 a0_0,.int .i64 a0_1,.slice A0_2 l0_2.length c0_2] 24 (0,0)) (by (with_reducible repeat (first|refine qad ?_ _|refine qag ?_|refine qab ?_ _));exact BK175.out) hb);have n2_:=qaj.mk (qam (by repeat (first|(with_reducible first|exact HB.out|apply qai|apply qaa|apply qah|refine qae ?_ GE175.out)|exact HB.out)) hb);have n3_:=qaj.mk (hbox);have n4_:=qaj.mk ((by rw [hg];exact (qak (by repeat (first|(with_reducible first|exact HB.out|apply qai|apply qaa|apply qah|refine qae ?_ GE175.out)|exact HB.out))):w.heap.size≤gb182));have n5_:=qaj.mk ((by rw [hg];exact (qak (by repeat (first|(with_reducible first|exact HB.out|apply qai|apply qaa|apply qah|refine qae ?_ GE175.out)|exact HB.out))):w.heap.size≤gb182));have n6_:=qaj.mk ((by rw [hg];exact Nat.ne_of_lt (qax (g:=gb175) (o:=.cells #[.int .i64 a0_0,.int .i64 a0_1,.slice A0_2 l0_2.length c0_2] 24 (0,0)) (by (with_reducible repeat (first|refine qad ?_ _|refine qag ?_|refine qab ?_ _));exact BK175.out)):gb175≠gb182));have n7_:=qaj.mk ((by rw [hg];exact Nat.ne_of_gt (qax (g:=gb175) (o:=.cells #[.int .i64 a0_0,.int .i64 a0_1,.slice A0_2 l0_2.length c0_2] 24 (0,0)) (by (with_reducible repeat (first|refine qad ?_ _|refine qag ?_|refine qab ?_ _));exact BK175.out)):gb182≠gb175));clear HO181;clear BK175;clear HB;have HO181:=n0_;have BK175:=n1_;have HB:=n2_;have BK182:=n3_;have GW182:=n4_;have GE182:=n5_;have NB175_182:=n6_;have NB182_175:=n7_;clear n0_ n1_ n2_ n3_ n4_ n5_ n6_ n7_;clear hb hbox hg;have hnb32:=NB182_175.out;have hnc32:=NB175_182.out;have hcz33_0:w31.cell? ⟨gb182,0,none⟩=some (.int .i64 0):=(qaf BK182.out 0).trans rfl;have hcz33_1:w31.cell? ⟨gb182,1,none⟩=some (.int .i64 0):=(qaf BK182.out 1).trans rfl;have hcz33_2:w31.cell? ⟨gb182,2,none⟩=some (.slice none 0 0):=(qaf BK182.out 2).trans rfl;have hfz33_0:=qac BK182.out 0;have hfz33_1:=qac BK182.out 1;have hfz33_2:=qac BK182.out 2;obtain⟨Ao34,co34,eo34⟩:=Kd.N_slice HO181.out;subst eo34)|((with_reducible refine qau (f:=15) rfl ?_);refine qaJ (some 16) rfl rfl Tryd.func15 (by kernel_rfl) rfl #[.agg #[.int .i64 t177,.int .i64 t178,.slice Ao34 t179.length co34]] rfl (by (try simp only [List.map_toArray,List.map_cons,List.map_nil]);first|done|rfl|(simp only [List.length_drop,List.length_take];rfl)) ?_;(with_reducible refine (parse_Print.calls t177 t178 _ _ t179 t183 _ ?side1 ?side2 A5.out (Tabs.below HT.out (by repeat (first|(with_reducible first|exact HB.out|apply qai|apply qaa|apply qah|refine qae ?_ GE175.out|refine qae ?_ GE182.out)|exact HB.out)))).mono ?_);(case side1=>refine (Kd.N_reads' (e:=52) (base:=w.heap.size) (ok:=fun k_=>(k_≠gb175∧k_≠gb182)) (n:=t179.length) (c:=co34) ?_).2.2;exact (by (with_reducible repeat (first|apply Kd.N_alloc|apply Kd.N_drewN|apply Kd.N_drew));exact (Kd.N_mono (Kd.N_far (p:=⟨gb182,2,none⟩) (Kd.N_far (p:=⟨gb182,1,none⟩) (Kd.N_far (p:=⟨gb182,0,none⟩) (Kd.N_mono HO181.out (fun k_ hk=>(⟨hk,hk.2⟩:_∧k_≠gb182))) (fun _ hk=>hk.2) (.int .i64 t177)) (fun _ hk=>hk.2) (.int .i64 t178)) (fun _ hk=>hk.2) (.slice Ao34 t179.length co34)) (fun _ h_=>h_.1))));(case side2=>exact (Kd.N_reads' HO181.out).2.1);rintro e w35 ⟨rfl,hb⟩;refine⟨_,rfl,?_⟩;have n0_:=qaj.mk (Kd.N_below (by (with_reducible repeat (first|apply Kd.N_alloc|apply Kd.N_drewN|apply Kd.N_drew));exact (Kd.N_mono (Kd.N_far (p:=⟨gb182,2,none⟩) (Kd.N_far (p:=⟨gb182,1,none⟩) (Kd.N_far (p:=⟨gb182,0,none⟩) (Kd.N_mono HO181.out (fun k_ hk=>(⟨hk,hk.2⟩:_∧k_≠gb182))) (fun _ hk=>hk.2) (.int .i64 t177)) (fun _ hk=>hk.2) (.int .i64 t178)) (fun _ hk=>hk.2) (.slice Ao34 t179.length co34)) (fun _ h_=>h_.1))) hb);have n1_:=qaj.mk (qal (g:=gb175) (o:=.cells #[.int .i64 a0_0,.int .i64 a0_1,.slice A0_2 l0_2.length c0_2] 24 (0,0)) (by (with_reducible repeat (first|refine qad ?_ _|refine qag ?_|refine qab ?_ _));refine qaq ?_ NB175_182.out _;(with_reducible repeat (first|refine qad ?_ _|refine qag ?_|refine qab ?_ _));refine qaq ?_ NB175_182.out _;(with_reducible repeat (first|refine qad ?_ _|refine qag ?_|refine qab ?_ _));refine qaq ?_ NB175_182.out _;(with_reducible repeat (first|refine qad ?_ _|refine qag ?_|refine qab ?_ _));exact BK175.out) hb);have n2_:=qaj.mk (qal (g:=gb182) (o:=.cells #[.int .i64 t177,.int .i64 t178,.slice Ao34 t179.length co34] 32 (0,0)) (by (with_reducible repeat (first|refine qad ?_ _|refine qag ?_|refine qab ?_ _));refine qat (cs:=#[.int .i64 t177,.int .i64 t178,.slice none 0 0]) ?_ 2 _ rfl;(with_reducible repeat (first|refine qad ?_ _|refine qag ?_|refine qab ?_ _));refine qat (cs:=#[.int .i64 t177,.int .i64 0,.slice none 0 0]) ?_ 1 _ rfl;(with_reducible repeat (first|refine qad ?_ _|refine qag ?_|refine qab ?_ _));refine qat (cs:=#[.int .i64 0,.int .i64 0,.slice none 0 0]) ?_ 0 _ rfl;(with_reducible repeat (first|refine qad ?_ _|refine qag ?_|refine qab ?_ _));exact BK182.out) hb);have n3_:=qaj.mk (qam (by repeat (first|(with_reducible first|exact HB.out|apply qai|apply qaa|apply qah|refine qae ?_ GE175.out|refine qae ?_ GE182.out)|exact HB.out)) hb);clear HO181;clear BK175;clear BK182;clear HB;have HO181:=n0_;have BK175:=n1_;have BK182:=n2_;have HB:=n3_;clear n0_ n1_ n2_ n3_;(try clear hb);(try clear hb2);(try clear hk);(try clear hi))|((with_reducible refine qau (f:=12) rfl ?_);refine qaJ (some 34) rfl rfl Tryd.func12 (by kernel_rfl) rfl #[.string (t183.extract 0 ((ji16):Int).toNat)] rfl (by (try simp only [List.map_toArray,List.map_cons,List.map_nil]);first|done|(simp only [hji16];rfl)|rfl|(simp only [List.length_drop,List.length_take];rfl)) ?_;(with_reducible refine (parse_Parse.calls (t183.extract 0 ((ji16):Int).toNat) t184 t185 t186 t189 t190 _ A19.out (Tabs.below HT.out (by repeat (first|(with_reducible first|exact HB.out|apply qai|apply qaa|apply qah|refine qae ?_ GE175.out|refine qae ?_ GE182.out)|exact HB.out)))).mono ?_);rintro e w36 ⟨v187,rfl,ho0,hb⟩;refine⟨_,rfl,?_⟩;have n0_:=qaj.mk (Kd.N_elder' (by (with_reducible repeat (first|apply Kd.N_alloc|apply Kd.N_drewN|apply Kd.N_drew));exact HO181.out) (Kd.S_base ho0) hb);have n1_:=qaj.mk (Kd.N_lower (Kd.N_mono (ok':=fun k_=>some k_≠(.slice Ao34 t179.length co34:Value).ownBlock∧k_≠gb175∧k_≠gb182) (Kd.S_N (Kd.S_bound ho0)) (fun k_ hk_=>⟨(Kd.fresh' (Kd.N_lt (by (with_reducible repeat (first|apply Kd.N_alloc|apply Kd.N_drewN|apply Kd.N_drew));exact HO181.out)) k_ hk_.2.1),(Kd.freshB (g:=gb175) (o:=.cells #[.int .i64 a0_0,.int .i64 a0_1,.slice A0_2 l0_2.length c0_2] 24 (0,0)) (by (with_reducible repeat (first|refine qad ?_ _|refine qag ?_|refine qab ?_ _));exact BK175.out) k_ hk_.2.1),(Kd.freshB (g:=gb182) (o:=.cells #[.int .i64 t177,.int .i64 t178,.slice Ao34 t179.length co34] 32 (0,0)) (by (with_reducible repeat (first|refine qad ?_ _|refine qag ?_|refine qab ?_ _));exact BK182.out) k_ hk_.2.1)⟩)) (qak (by repeat (first|(with_reducible first|exact HB.out|apply qai|apply qaa|apply qah|refine qae ?_ GE175.out|refine qae ?_ GE182.out)|exact HB.out))));have n2_:=qaj.mk (qal (g:=gb175) (o:=.cells #[.int .i64 a0_0,.int .i64 a0_1,.slice A0_2 l0_2.length c0_2] 24 (0,0)) (by (with_reducible repeat (first|refine qad ?_ _|refine qag ?_|refine qab ?_ _));exact BK175.out) hb);have n3_:=qaj.mk (qal (g:=gb182) (o:=.cells #[.int .i64 t177,.int .i64 t178,.slice Ao34 t179.length co34] 32 (0,0)) (by (with_reducible repeat (first|refine qad ?_ _|refine qag ?_|refine qab ?_ _));exact BK182.out) hb);have n4_:=qaj.mk (qam (by repeat (first|(with_reducible first|exact HB.out|apply qai|apply qaa|apply qah|refine qae ?_ GE175.out|refine qae ?_ GE182.out)|exact HB.out)) hb);clear HO181;clear BK175;clear BK182;clear HB;have HO181:=n0_;have HO188:=n1_;have BK175:=n2_;have BK182:=n3_;have HB:=n4_;clear n0_ n1_ n2_ n3_ n4_;(try clear hb);(try clear hb2);(try clear hk);(try clear hi);(try clear ho0))|((with_reducible refine qaE (N:=9) rfl ?_);(try (refine qaD (by rfl) ?_;dsimp only));refine qaA ?hg (N:=9) ?hd (cs:=#[.int .i64 0,.int .i64 0,.slice none 0 0]) (t:=32) ?hr ?_;(case hd=>rfl);(case hg=>rfl);(case hr=>first|(go_simp;done)|(go_simp;rfl));intro gb191 hg w37 hbox hb;have n0_:=qaj.mk (Kd.N_below (Kd.N_elderB (by (with_reducible repeat (first|apply Kd.N_alloc|apply Kd.N_drewN|apply Kd.N_drew));exact HO181.out) gb191 (Nat.le_of_eq hg.symm)) hb);have n1_:=qaj.mk (Kd.N_below (Kd.N_elderB (by (with_reducible repeat (first|apply Kd.N_alloc|apply Kd.N_drewN|apply Kd.N_drew));exact HO188.out) gb191 (Nat.le_of_eq hg.symm)) hb);have n2_:=qaj.mk (qal (g:=gb175) (o:=.cells #[.int .i64 a0_0,.int .i64 a0_1,.slice A0_2 l0_2.length c0_2] 24 (0,0)) (by (with_reducible repeat (first|refine qad ?_ _|refine qag ?_|refine qab ?_ _));exact BK175.out) hb);have n3_:=qaj.mk (qal (g:=gb182) (o:=.cells #[.int .i64 t177,.int .i64 t178,.slice Ao34 t179.length co34] 32 (0,0)) (by (with_reducible repeat (first|refine qad ?_ _|refine qag ?_|refine qab ?_ _));exact BK182.out) hb);have n4_:=qaj.mk (qam (by repeat (first|(with_reducible first|exact HB.out|apply qai|apply qaa|apply qah|refine qae ?_ GE175.out|refine qae ?_ GE182.out)|exact HB.out)) hb);have n5_:=qaj.mk (hbox);have n6_:=qaj.mk ((by rw [hg];exact (qak (by repeat (first|(with_reducible first|exact HB.out|apply qai|apply qaa|apply qah|refine qae ?_ GE175.out|refine qae ?_ GE182.out)|exact HB.out))):w.heap.size≤gb191));have n7_:=qaj.mk ((by rw [hg];exact (qak (by repeat (first|(with_reducible first|exact HB.out|apply qai|apply qaa|apply qah|refine qae ?_ GE175.out|refine qae ?_ GE182.out)|exact HB.out))):w.heap.size≤gb191));have n8_:=qaj.mk ((by rw [hg];exact Nat.ne_of_lt (qax (g:=gb175) (o:=.cells #[.int .i64 a0_0,.int .i64 a0_1,.slice A0_2 l0_2.length c0_2] 24 (0,0)) (by (with_reducible repeat (first|refine qad ?_ _|refine qag ?_|refine qab ?_ _));exact BK175.out)):gb175≠gb191));have n9_:=qaj.mk ((by rw [hg];exact Nat.ne_of_gt (qax (g:=gb175) (o:=.cells #[.int .i64 a0_0,.int .i64 a0_1,.slice A0_2 l0_2.length c0_2] 24 (0,0)) (by (with_reducible repeat (first|refine qad ?_ _|refine qag ?_|refine qab ?_ _));exact BK175.out)):gb191≠gb175));have n10_:=qaj.mk ((by rw [hg];exact Nat.ne_of_lt (qax (g:=gb182) (o:=.cells #[.int .i64 t177,.int .i64 t178,.slice Ao34 t179.length co34] 32 (0,0)) (by (with_reducible repeat (first|refine qad ?_ _|refine qag ?_|refine qab ?_ _));exact BK182.out)):gb182≠gb191));have n11_:=qaj.mk ((by rw [hg];exact Nat.ne_of_gt (qax (g:=gb182) (o:=.cells #[.int .i64 t177,.int .i64 t178,.slice Ao34 t179.length co34] 32 (0,0)) (by (with_reducible repeat (first|refine qad ?_ _|refine qag ?_|refine qab ?_ _));exact BK182.out)):gb191≠gb182));clear HO181;clear HO188;clear BK175;clear BK182;clear HB;have HO181:=n0_;have HO188:=n1_;have BK175:=n2_;have BK182:=n3_;have HB:=n4_;have BK191:=n5_;have GW191:=n6_;have GE191:=n7_;have NB175_191:=n8_;have NB191_175:=n9_;have NB182_191:=n10_;have NB191_182:=n11_;clear n0_ n1_ n2_ n3_ n4_ n5_ n6_ n7_ n8_ n9_ n10_ n11_;clear hb hbox hg;have hnb38:=NB191_175.out;have hnc38:=NB175_191.out;have hnb39:=NB191_182.out;have hnc39:=NB182_191.out;have hcz40_0:w37.cell? ⟨gb191,0,none⟩=some (.int .i64 0):=(qaf BK191.out 0).trans rfl;have hcz40_1:w37.cell? ⟨gb191,1,none⟩=some (.int .i64 0):=(qaf BK191.out 1).trans rfl;have hcz40_2:w37.cell? ⟨gb191,2,none⟩=some (.slice none 0 0):=(qaf BK191.out 2).trans rfl;have hfz40_0:=qac BK191.out 0;have hfz40_1:=qac BK191.out 1;have hfz40_2:=qac BK191.out 2;obtain⟨Ao41,co41,eo41⟩:=Kd.N_slice HO188.out;subst eo41;have hcz42_0:w37.cell? ⟨gb182,0,none⟩=some (.int .i64 t177):=(qaf BK182.out 0).trans rfl;have hcz42_1:w37.cell? ⟨gb182,1,none⟩=some (.int .i64 t178):=(qaf BK182.out 1).trans rfl;have hcz42_2:w37.cell? ⟨gb182,2,none⟩=some (.slice Ao34 t179.length co34):=(qaf BK182.out 2).trans rfl;have hfz42_0:=qac BK182.out 0;have hfz42_1:=qac BK182.out 1;have hfz42_2:=qac BK182.out 2)|(go_at_call 16;(with_reducible refine (ostinatoref05_Check.calls k t184 t185 _ _ t186 t192 _ ?side1 ?side2 A26.out).mono ?_);(case side1=>refine (Kd.N_reads' (e:=52) (base:=w.heap.size) (ok:=fun k_=>((some k_≠(.slice Ao34 t179.length co34:Value).ownBlock∧(k_≠gb175∧k_≠gb182))∧k_≠gb191)) (n:=t186.length) (c:=co41) ?_).2.2;exact (by (with_reducible repeat (first|apply Kd.N_alloc|apply Kd.N_drewN|apply Kd.N_drew));exact (Kd.N_mono (Kd.N_far (p:=⟨gb191,2,none⟩) (Kd.N_far (p:=⟨gb191,1,none⟩) (Kd.N_far (p:=⟨gb191,0,none⟩) (Kd.N_mono HO188.out (fun k_ hk=>(⟨hk,hk.2⟩:_∧k_≠gb191))) (fun _ hk=>hk.2) (.int .i64 t184)) (fun _ hk=>hk.2) (.int .i64 t185)) (fun _ hk=>hk.2) (.slice Ao41 t186.length co41)) (fun _ h_=>h_.1))));(case side2=>exact (Kd.N_reads' HO188.out).2.1);rintro e w43 ⟨rfl,hb⟩;have n0_:=qaj.mk (Kd.N_below (by (with_reducible repeat (first|apply Kd.N_alloc|apply Kd.N_drewN|apply Kd.N_drew));exact (Kd.N_mono (Kd.N_far (p:=⟨gb191,2,none⟩) (Kd.N_far (p:=⟨gb191,1,none⟩) (Kd.N_far (p:=⟨gb191,0,none⟩) (Kd.N_mono HO181.out (fun k_ hk=>(⟨hk,hk.2⟩:_∧k_≠gb191))) (fun _ hk=>hk.2) (.int .i64 t184)) (fun _ hk=>hk.2) (.int .i64 t185)) (fun _ hk=>hk.2) (.slice Ao41 t186.length co41)) (fun _ h_=>h_.1))) hb);have n1_:=qaj.mk (Kd.N_below (by (with_reducible repeat (first|apply Kd.N_alloc|apply Kd.N_drewN|apply Kd.N_drew));exact (Kd.N_mono (Kd.N_far (p:=⟨gb191,2,none⟩) (Kd.N_far (p:=⟨gb191,1,none⟩) (Kd.N_far (p:=⟨gb191,0,none⟩) (Kd.N_mono HO188.out (fun k_ hk=>(⟨hk,hk.2⟩:_∧k_≠gb191))) (fun _ hk=>hk.2) (.int .i64 t184)) (fun _ hk=>hk.2) (.int .i64 t185)) (fun _ hk=>hk.2) (.slice Ao41 t186.length co41)) (fun _ h_=>h_.1))) hb);have n2_:=qaj.mk (qal (g:=gb175) (o:=.cells #[.int .i64 a0_0,.int .i64 a0_1,.slice A0_2 l0_2.length c0_2] 24 (0,0)) (by (with_reducible repeat (first|refine qad ?_ _|refine qag ?_|refine qab ?_ _));refine qaq ?_ NB175_191.out _;(with_reducible repeat (first|refine qad ?_ _|refine qag ?_|refine qab ?_ _));refine qaq ?_ NB175_191.out _;(with_reducible repeat (first|refine qad ?_ _|refine qag ?_|refine qab ?_ _));refine qaq ?_ NB175_191.out _;(with_reducible repeat (first|refine qad ?_ _|refine qag ?_|refine qab ?_ _));exact BK175.out) hb);have n3_:=qaj.mk (qal (g:=gb182) (o:=.cells #[.int .i64 t177,.int .i64 t178,.slice Ao34 t179.length co34] 32 (0,0)) (by (with_reducible repeat (first|refine qad ?_ _|refine qag ?_|refine qab ?_ _));refine qaq ?_ NB182_191.out _;(with_reducible repeat (first|refine qad ?_ _|refine qag ?_|refine qab ?_ _));refine qaq ?_ NB182_191.out _;(with_reducible repeat (first|refine qad ?_ _|refine qag ?_|refine qab ?_ _));refine qaq ?_ NB182_191.out _;(with_reducible repeat (first|refine qad ?_ _|refine qag ?_|refine qab ?_ _));exact BK182.out) hb);have n4_:=qaj.mk (qal (g:=gb191) (o:=.cells #[.int .i64 t184,.int .i64 t185,.slice Ao41 t186.length co41] 32 (0,0)) (by (with_reducible repeat (first|refine qad ?_ _|refine qag ?_|refine qab ?_ _));refine qat (cs:=#[.int .i64 t184,.int .i64 t185,.slice none 0 0]) ?_ 2 _ rfl;(with_reducible repeat (first|refine qad ?_ _|refine qag ?_|refine qab ?_ _));refine qat (cs:=#[.int .i64 t184,.int .i64 0,.slice none 0 0]) ?_ 1 _ rfl;(with_reducible repeat (first|refine qad ?_ _|refine qag ?_|refine qab ?_ _));refine qat (cs:=#[.int .i64 0,.int .i64 0,.slice none 0 0]) ?_ 0 _ rfl;(with_reducible repeat (first|refine qad ?_ _|refine qag ?_|refine qab ?_ _));exact BK191.out) hb);have n5_:=qaj.mk (qam (by repeat (first|(with_reducible first|exact HB.out|apply qai|apply qaa|apply qah|refine qae ?_ GE175.out|refine qae ?_ GE182.out|refine qae ?_ GE191.out)|exact HB.out)) hb);clear HO181;clear HO188;clear BK175;clear BK182;clear BK191;clear HB;have HO181:=n0_;have HO188:=n1_;have BK175:=n2_;have BK182:=n3_;have BK191:=n4_;have HB:=n5_;clear n0_ n1_ n2_ n3_ n4_ n5_;(try clear hb);(try clear hb2);(try clear hk);(try clear hi)))
          go_ret
          exact⟨by first|rfl|(simp [qao,qan]<;>rfl)|(simp [bneNil,bneNilU]<;>rfl)|(simp only [← hji16];first|rfl|(simp [qao,qan]<;>rfl))|(simp [*,qao,qan]<;>rfl),by repeat (first|(with_reducible first|exact HB.out|apply qai|apply qaa|apply qah|refine qae ?_ GE175.out|refine qae ?_ GE182.out|refine qae ?_ GE191.out)|exact HB.out)⟩
         ·rw [if_neg c25] at H
          have c25b0:(t184 == t177)=false:=beq_eq_false_iff_ne.mpr c25
          have c25b1:(t184 != t177)=true:=bne_iff_ne.mpr c25
          obtain rfl:=Option.some.inj H
          go_enter Tryd.func7,Tryd.ntmps7
          go_wp2_with (first|((with_reducible refine qaE (N:=2) rfl ?_);(try (refine qaD (by rfl) ?_;dsimp only));refine qaA ?hg (N:=2) ?hd (cs:=#[.int .i64 a0_0,.int .i64 a0_1,.slice A0_2 l0_2.length c0_2]) (t:=24) ?hr ?_;(case hd=>rfl);(case hg=>rfl);(case hr=>first|(go_simp;done)|(go_simp;rfl));intro gb175 hg w44 hbox hb;have n0_:=qaj.mk (qam (by repeat (first|(with_reducible first|exact HB.out|apply qai|apply qaa|apply qah)|exact HB.out)) hb);have n1_:=qaj.mk (hbox);have n2_:=qaj.mk ((by rw [hg];exact (qak (by repeat (first|(with_reducible first|exact HB.out|apply qai|apply qaa|apply qah)|exact HB.out))):w.heap.size≤gb175));have n3_:=qaj.mk ((by rw [hg];exact (qak (by repeat (first|(with_reducible first|exact HB.out|apply qai|apply qaa|apply qah)|exact HB.out))):w.heap.size≤gb175));clear HB;have HB:=n0_;have BK175:=n1_;have GW175:=n2_;have GE175:=n3_;clear n0_ n1_ n2_ n3_;clear hb hbox hg)|((with_reducible refine qau (f:=8) rfl ?_);refine qaJ (some 12) rfl rfl Tryd.func8 (by kernel_rfl) rfl #[] rfl (by (try simp only [List.map_toArray,List.map_cons,List.map_nil]);first|done|rfl|(simp only [List.length_drop,List.length_take];rfl)) ?_;(with_reducible refine (ostinatolaw07_awake.calls  true _ A3.out (Tabs.below HT.out (by repeat (first|(with_reducible first|exact HB.out|apply qai|apply qaa|apply qah|refine qae ?_ GE175.out)|exact HB.out)))).mono ?_);rintro e w45 ⟨rfl,hb⟩;refine⟨_,rfl,?_⟩;have n0_:=qaj.mk (qal (g:=gb175) (o:=.cells #[.int .i64 a0_0,.int .i64 a0_1,.slice A0_2 l0_2.length c0_2] 24 (0,0)) (by (with_reducible repeat (first|refine qad ?_ _|refine qag ?_|refine qab ?_ _));exact BK175.out) hb);have n1_:=qaj.mk (qam (by repeat (first|(with_reducible first|exact HB.out|apply qai|apply qaa|apply qah|refine qae ?_ GE175.out)|exact HB.out)) hb);clear BK175;clear HB;have BK175:=n0_;have HB:=n1_;clear n0_ n1_;(try clear hb);(try clear hb2);(try clear hk);(try clear hi);have hcz46_0:w45.cell? ⟨gb175,0,none⟩=some (.int .i64 a0_0):=(qaf BK175.out 0).trans rfl;have hcz46_1:w45.cell? ⟨gb175,1,none⟩=some (.int .i64 a0_1):=(qaf BK175.out 1).trans rfl;have hcz46_2:w45.cell? ⟨gb175,2,none⟩=some (.slice A0_2 l0_2.length c0_2):=(qaf BK175.out 2).trans rfl;have hfz46_0:=qac BK175.out 0;have hfz46_1:=qac BK175.out 1;have hfz46_2:=qac BK175.out 2)|((with_reducible refine qau (f:=11) rfl ?_);refine qaJ (some 14) rfl rfl Tryd.func11 (by kernel_rfl) rfl #[.agg #[.int .i64 a0_0,.int .i64 a0_1,.slice A0_2 l0_2.length c0_2]] rfl (by (try simp only [List.map_toArray,List.map_cons,List.map_nil]);first|done|rfl|(simp only [List.length_drop,List.length_take];rfl)) ?_;(with_reducible refine (ostinatolaw07_Sys_made.calls k a0_0 a0_1 (fun k_=>k_<w.heap.size) _ _ l0_2 t177 t178 t179 _ ?side1 A4.out).mono ?_);(case side1=>exact Kd.V_mk HC0_2.out (Kd.F_below (Kd.C_F k60_heap HR0_2.out) (by repeat (first|(with_reducible first|exact HB.out|apply qai|apply qaa|apply qah|refine qae ?_ GE175.out)|exact HB.out))));rintro e w47 ⟨v180,rfl,ho0,hb⟩;refine⟨_,rfl,?_⟩;have n0_:=qaj.mk (Kd.N_lower (Kd.N_mono (ok':=fun k_=>k_≠gb175) ho0 (fun k_ hk_=>Or.elim hk_ (fun hs_=>fun e_=>Nat.not_le.2 hs_ (by rw [e_];exact GW175.out)) (fun hn_=>(Kd.freshB (g:=gb175) (o:=.cells #[.int .i64 a0_0,.int .i64 a0_1,.slice A0_2 l0_2.length c0_2] 24 (0,0)) (by (with_reducible repeat (first|refine qad ?_ _|refine qag ?_|refine qab ?_ _));exact BK175.out) k_ hn_)))) (qak (by repeat (first|(with_reducible first|exact HB.out|apply qai|apply qaa|apply qah|refine qae ?_ GE175.out)|exact HB.out))));have n1_:=qaj.mk (qal (g:=gb175) (o:=.cells #[.int .i64 a0_0,.int .i64 a0_1,.slice A0_2 l0_2.length c0_2] 24 (0,0)) (by (with_reducible repeat (first|refine qad ?_ _|refine qag ?_|refine qab ?_ _));exact BK175.out) hb);have n2_:=qaj.mk (qam (by repeat (first|(with_reducible first|exact HB.out|apply qai|apply qaa|apply qah|refine qae ?_ GE175.out)|exact HB.out)) hb);clear BK175;clear HB;have HO181:=n0_;have BK175:=n1_;have HB:=n2_;clear n0_ n1_ n2_;(try clear hb);(try clear hb2);(try clear hk);(try clear hi);(try clear ho0))|((with_reducible refine qaE (N:=6) rfl ?_);(try (refine qaD (by rfl) ?_;dsimp only));refine qaA ?hg (N:=6) ?hd (cs:=#[.int .i64 0,.int .i64 0,.slice none 0 0]) (t:=32) ?hr ?_;(case hd=>rfl);(case hg=>rfl);(case hr=>first|(go_simp;done)|(go_simp;rfl));intro gb182 hg w48 hbox hb;have n0_:=qaj.mk (Kd.N_below (Kd.N_elderB (by (with_reducible repeat (first|apply Kd.N_alloc|apply Kd.N_drewN|apply Kd.N_drew));exact HO181.out) gb182 (Nat.le_of_eq hg.symm)) hb);have n1_:=qaj.mk (qal (g:=gb175) (o:=.cells #[.int .i64 a0_0,.int .i64 a0_1,.slice A0_2 l0_2.length c0_2] 24 (0,0)) (by (with_reducible repeat (first|refine qad ?_ _|refine qag ?_|refine qab ?_ _));exact BK175.out) hb);have n2_:=qaj.mk (qam (by repeat (first|(with_reducible first|exact HB.out|apply qai|apply qaa|apply qah|refine qae ?_ GE175.out)|exact HB.out)) hb);have n3_:=qaj.mk (hbox);have n4_:=qaj.mk ((by rw [hg];exact (qak (by repeat (first|(with_reducible first|exact HB.out|apply qai|apply qaa|apply qah|refine qae ?_ GE175.out)|exact HB.out))):w.heap.size≤gb182));have n5_:=qaj.mk ((by rw [hg];exact (qak (by repeat (first|(with_reducible first|exact HB.out|apply qai|apply qaa|apply qah|refine qae ?_ GE175.out)|exact HB.out))):w.heap.size≤gb182));have n6_:=qaj.mk ((by rw [hg];exact Nat.ne_of_lt (qax (g:=gb175) (o:=.cells #[.int .i64 a0_0,.int .i64 a0_1,.slice A0_2 l0_2.length c0_2] 24 (0,0)) (by (with_reducible repeat (first|refine qad ?_ _|refine qag ?_|refine qab ?_ _));exact BK175.out)):gb175≠gb182));have n7_:=qaj.mk ((by rw [hg];exact Nat.ne_of_gt (qax (g:=gb175) (o:=.cells #[.int .i64 a0_0,.int .i64 a0_1,.slice A0_2 l0_2.length c0_2] 24 (0,0)) (by (with_reducible repeat (first|refine qad ?_ _|refine qag ?_|refine qab ?_ _));exact BK175.out)):gb182≠gb175));clear HO181;clear BK175;clear HB;have HO181:=n0_;have BK175:=n1_;have HB:=n2_;have BK182:=n3_;have GW182:=n4_;have GE182:=n5_;have NB175_182:=n6_;have NB182_175:=n7_;clear n0_ n1_ n2_ n3_ n4_ n5_ n6_ n7_;clear hb hbox hg;have hnb49:=NB182_175.out;have hnc49:=NB175_182.out;have hcz50_0:w48.cell? ⟨gb182,0,none⟩=some (.int .i64 0):=(qaf BK182.out 0).trans rfl;have hcz50_1:w48.cell? ⟨gb182,1,none⟩=some (.int .i64 0):=(qaf BK182.out 1).trans rfl;have hcz50_2:w48.cell? ⟨gb182,2,none⟩=some (.slice none 0 0):=(qaf BK182.out 2).trans rfl;have hfz50_0:=qac BK182.out 0;have hfz50_1:=qac BK182.out 1;have hfz50_2:=qac BK182.out 2;obtain⟨Ao51,co51,eo51⟩:=Kd.N_slice HO181.out;subst eo51)|((with_reducible refine qau (f:=15) rfl ?_);refine qaJ (some 16) rfl rfl Tryd.func15 (by kernel_rfl) rfl #[.agg #[.int .i64 t177,.int .i64 t178,.slice Ao51 t179.length co51]] rfl (by (try simp only [List.map_toArray,List.map_cons,List.map_nil]);first|done|rfl|(simp only [List.length_drop,List.length_take];rfl)) ?_;(with_reducible refine (parse_Print.calls t177 t178 _ _ t179 t183 _ ?side1 ?side2 A5.out (Tabs.below HT.out (by repeat (first|(with_reducible first|exact HB.out|apply qai|apply qaa|apply qah|refine qae ?_ GE175.out|refine qae ?_ GE182.out)|exact HB.out)))).mono ?_);(case side1=>refine (Kd.N_reads' (e:=52) (base:=w.heap.size) (ok:=fun k_=>(k_≠gb175∧k_≠gb182)) (n:=t179.length) (c:=co51) ?_).2.2;exact (by (with_reducible repeat (first|apply Kd.N_alloc|apply Kd.N_drewN|apply Kd.N_drew));exact (Kd.N_mono (Kd.N_far (p:=⟨gb182,2,none⟩) (Kd.N_far (p:=⟨gb182,1,none⟩) (Kd.N_far (p:=⟨gb182,0,none⟩) (Kd.N_mono HO181.out (fun k_ hk=>(⟨hk,hk.2⟩:_∧k_≠gb182))) (fun _ hk=>hk.2) (.int .i64 t177)) (fun _ hk=>hk.2) (.int .i64 t178)) (fun _ hk=>hk.2) (.slice Ao51 t179.length co51)) (fun _ h_=>h_.1))));(case side2=>exact (Kd.N_reads' HO181.out).2.1);rintro e w52 ⟨rfl,hb⟩;refine⟨_,rfl,?_⟩;have n0_:=qaj.mk (Kd.N_below (by (with_reducible repeat (first|apply Kd.N_alloc|apply Kd.N_drewN|apply Kd.N_drew));exact (Kd.N_mono (Kd.N_far (p:=⟨gb182,2,none⟩) (Kd.N_far (p:=⟨gb182,1,none⟩) (Kd.N_far (p:=⟨gb182,0,none⟩) (Kd.N_mono HO181.out (fun k_ hk=>(⟨hk,hk.2⟩:_∧k_≠gb182))) (fun _ hk=>hk.2) (.int .i64 t177)) (fun _ hk=>hk.2) (.int .i64 t178)) (fun _ hk=>hk.2) (.slice Ao51 t179.length co51)) (fun _ h_=>h_.1))) hb);have n1_:=qaj.mk (qal (g:=gb175) (o:=.cells #[.int .i64 a0_0,.int .i64 a0_1,.slice A0_2 l0_2.length c0_2] 24 (0,0)) (by (with_reducible repeat (first|refine qad ?_ _|refine qag ?_|refine qab ?_ _));refine qaq ?_ NB175_182.out _;(with_reducible repeat (first|refine qad ?_ _|refine qag ?_|refine qab ?_ _));refine qaq ?_ NB175_182.out _;(with_reducible repeat (first|refine qad ?_ _|refine qag ?_|refine qab ?_ _));refine qaq ?_ NB175_182.out _;(with_reducible repeat (first|refine qad ?_ _|refine qag ?_|refine qab ?_ _));exact BK175.out) hb);have n2_:=qaj.mk (qal (g:=gb182) (o:=.cells #[.int .i64 t177,.int .i64 t178,.slice Ao51 t179.length co51] 32 (0,0)) (by (with_reducible repeat (first|refine qad ?_ _|refine qag ?_|refine qab ?_ _));refine qat (cs:=#[.int .i64 t177,.int .i64 t178,.slice none 0 0]) ?_ 2 _ rfl;(with_reducible repeat (first|refine qad ?_ _|refine qag ?_|refine qab ?_ _));refine qat (cs:=#[.int .i64 t177,.int .i64 0,.slice none 0 0]) ?_ 1 _ rfl;(with_reducible repeat (first|refine qad ?_ _|refine qag ?_|refine qab ?_ _));refine qat (cs:=#[.int .i64 0,.int .i64 0,.slice none 0 0]) ?_ 0 _ rfl;(with_reducible repeat (first|refine qad ?_ _|refine qag ?_|refine qab ?_ _));exact BK182.out) hb);have n3_:=qaj.mk (qam (by repeat (first|(with_reducible first|exact HB.out|apply qai|apply qaa|apply qah|refine qae ?_ GE175.out|refine qae ?_ GE182.out)|exact HB.out)) hb);clear HO181;clear BK175;clear BK182;clear HB;have HO181:=n0_;have BK175:=n1_;have BK182:=n2_;have HB:=n3_;clear n0_ n1_ n2_ n3_;(try clear hb);(try clear hb2);(try clear hk);(try clear hi))|((with_reducible refine qau (f:=12) rfl ?_);refine qaJ (some 34) rfl rfl Tryd.func12 (by kernel_rfl) rfl #[.string (t183.extract 0 ((ji16):Int).toNat)] rfl (by (try simp only [List.map_toArray,List.map_cons,List.map_nil]);first|done|(simp only [hji16];rfl)|rfl|(simp only [List.length_drop,List.length_take];rfl)) ?_;(with_reducible refine (parse_Parse.calls (t183.extract 0 ((ji16):Int).toNat) t184 t185 t186 t189 t190 _ A19.out (Tabs.below HT.out (by repeat (first|(with_reducible first|exact HB.out|apply qai|apply qaa|apply qah|refine qae ?_ GE175.out|refine qae ?_ GE182.out)|exact HB.out)))).mono ?_);rintro e w53 ⟨v187,rfl,ho0,hb⟩;refine⟨_,rfl,?_⟩;have n0_:=qaj.mk (Kd.N_elder' (by (with_reducible repeat (first|apply Kd.N_alloc|apply Kd.N_drewN|apply Kd.N_drew));exact HO181.out) (Kd.S_base ho0) hb);have n1_:=qaj.mk (Kd.N_lower (Kd.N_mono (ok':=fun k_=>some k_≠(.slice Ao51 t179.length co51:Value).ownBlock∧k_≠gb175∧k_≠gb182) (Kd.S_N (Kd.S_bound ho0)) (fun k_ hk_=>⟨(Kd.fresh' (Kd.N_lt (by (with_reducible repeat (first|apply Kd.N_alloc|apply Kd.N_drewN|apply Kd.N_drew));exact HO181.out)) k_ hk_.2.1),(Kd.freshB (g:=gb175) (o:=.cells #[.int .i64 a0_0,.int .i64 a0_1,.slice A0_2 l0_2.length c0_2] 24 (0,0)) (by (with_reducible repeat (first|refine qad ?_ _|refine qag ?_|refine qab ?_ _));exact BK175.out) k_ hk_.2.1),(Kd.freshB (g:=gb182) (o:=.cells #[.int .i64 t177,.int .i64 t178,.slice Ao51 t179.length co51] 32 (0,0)) (by (with_reducible repeat (first|refine qad ?_ _|refine qag ?_|refine qab ?_ _));exact BK182.out) k_ hk_.2.1)⟩)) (qak (by repeat (first|(with_reducible first|exact HB.out|apply qai|apply qaa|apply qah|refine qae ?_ GE175.out|refine qae ?_ GE182.out)|exact HB.out))));have n2_:=qaj.mk (qal (g:=gb175) (o:=.cells #[.int .i64 a0_0,.int .i64 a0_1,.slice A0_2 l0_2.length c0_2] 24 (0,0)) (by (with_reducible repeat (first|refine qad ?_ _|refine qag ?_|refine qab ?_ _));exact BK175.out) hb);have n3_:=qaj.mk (qal (g:=gb182) (o:=.cells #[.int .i64 t177,.int .i64 t178,.slice Ao51 t179.length co51] 32 (0,0)) (by (with_reducible repeat (first|refine qad ?_ _|refine qag ?_|refine qab ?_ _));exact BK182.out) hb);have n4_:=qaj.mk (qam (by repeat (first|(with_reducible first|exact HB.out|apply qai|apply qaa|apply qah|refine qae ?_ GE175.out|refine qae ?_ GE182.out)|exact HB.out)) hb);clear HO181;clear BK175;clear BK182;clear HB;have HO181:=n0_;have HO188:=n1_;have BK175:=n2_;have BK182:=n3_;have HB:=n4_;clear n0_ n1_ n2_ n3_ n4_;(try clear hb);(try clear hb2);(try clear hk);(try clear hi);(try clear ho0))|((with_reducible refine qaE (N:=9) rfl ?_);(try (refine qaD (by rfl) ?_;dsimp only));refine qaA ?hg (N:=9) ?hd (cs:=#[.int .i64 0,.int .i64 0,.slice none 0 0]) (t:=32) ?hr ?_;(case hd=>rfl);(case hg=>rfl);(case hr=>first|(go_simp;done)|(go_simp;rfl));intro gb191 hg w54 hbox hb;have n0_:=qaj.mk (Kd.N_below (Kd.N_elderB (by (with_reducible repeat (first|apply Kd.N_alloc|apply Kd.N_drewN|apply Kd.N_drew));exact HO181.out) gb191 (Nat.le_of_eq hg.symm)) hb);have n1_:=qaj.mk (Kd.N_below (Kd.N_elderB (by (with_reducible repeat (first|apply Kd.N_alloc|apply Kd.N_drewN|apply Kd.N_drew));exact HO188.out) gb191 (Nat.le_of_eq hg.symm)) hb);have n2_:=qaj.mk (qal (g:=gb175) (o:=.cells #[.int .i64 a0_0,.int .i64 a0_1,.slice A0_2 l0_2.length c0_2] 24 (0,0)) (by (with_reducible repeat (first|refine qad ?_ _|refine qag ?_|refine qab ?_ _));exact BK175.out) hb);have n3_:=qaj.mk (qal (g:=gb182) (o:=.cells #[.int .i64 t177,.int .i64 t178,.slice Ao51 t179.length co51] 32 (0,0)) (by (with_reducible repeat (first|refine qad ?_ _|refine qag ?_|refine qab ?_ _));exact BK182.out) hb);have n4_:=qaj.mk (qam (by repeat (first|(with_reducible first|exact HB.out|apply qai|apply qaa|apply qah|refine qae ?_ GE175.out|refine qae ?_ GE182.out)|exact HB.out)) hb);have n5_:=qaj.mk (hbox);have n6_:=qaj.mk ((by rw [hg];exact (qak (by repeat (first|(with_reducible first|exact HB.out|apply qai|apply qaa|apply qah|refine qae ?_ GE175.out|refine qae ?_ GE182.out)|exact HB.out))):w.heap.size≤gb191));have n7_:=qaj.mk ((by rw [hg];exact (qak (by repeat (first|(with_reducible first|exact HB.out|apply qai|apply qaa|apply qah|refine qae ?_ GE175.out|refine qae ?_ GE182.out)|exact HB.out))):w.heap.size≤gb191));have n8_:=qaj.mk ((by rw [hg];exact Nat.ne_of_lt (qax (g:=gb175) (o:=.cells #[.int .i64 a0_0,.int .i64 a0_1,.slice A0_2 l0_2.length c0_2] 24 (0,0)) (by (with_reducible repeat (first|refine qad ?_ _|refine qag ?_|refine qab ?_ _));exact BK175.out)):gb175≠gb191));have n9_:=qaj.mk ((by rw [hg];exact Nat.ne_of_gt (qax (g:=gb175) (o:=.cells #[.int .i64 a0_0,.int .i64 a0_1,.slice A0_2 l0_2.length c0_2] 24 (0,0)) (by (with_reducible repeat (first|refine qad ?_ _|refine qag ?_|refine qab ?_ _));exact BK175.out)):gb191≠gb175));have n10_:=qaj.mk ((by rw [hg];exact Nat.ne_of_lt (qax (g:=gb182) (o:=.cells #[.int .i64 t177,.int .i64 t178,.slice Ao51 t179.length co51] 32 (0,0)) (by (with_reducible repeat (first|refine qad ?_ _|refine qag ?_|refine qab ?_ _));exact BK182.out)):gb182≠gb191));have n11_:=qaj.mk ((by rw [hg];exact Nat.ne_of_gt (qax (g:=gb182) (o:=.cells #[.int .i64 t177,.int .i64 t178,.slice Ao51 t179.length co51] 32 (0,0)) (by (with_reducible repeat (first|refine qad ?_ _|refine qag ?_|refine qab ?_ _));exact BK182.out)):gb191≠gb182));clear HO181;clear HO188;clear BK175;clear BK182;clear HB;have HO181:=n0_;have HO188:=n1_;have BK175:=n2_;have BK182:=n3_;have HB:=n4_;have BK191:=n5_;have GW191:=n6_;have GE191:=n7_;have NB175_191:=n8_;have NB191_175:=n9_;have NB182_191:=n10_;have NB191_182:=n11_;clear n0_ n1_ n2_ n3_ n4_ n5_ n6_ n7_ n8_ n9_ n10_ n11_;clear hb hbox hg;have hnb55:=NB191_175.out;have hnc55:=NB175_191.out;have hnb56:=NB191_182.out;have hnc56:=NB182_191.out;have hcz57_0:w54.cell? ⟨gb191,0,none⟩=some (.int .i64 0):=(qaf BK191.out 0).trans rfl;have hcz57_1:w54.cell? ⟨gb191,1,none⟩=some (.int .i64 0):=(qaf BK191.out 1).trans rfl;have hcz57_2:w54.cell? ⟨gb191,2,none⟩=some (.slice none 0 0):=(qaf BK191.out 2).trans rfl;have hfz57_0:=qac BK191.out 0;have hfz57_1:=qac BK191.out 1;have hfz57_2:=qac BK191.out 2;obtain⟨Ao58,co58,eo58⟩:=Kd.N_slice HO188.out;subst eo58;have hcz59_0:w54.cell? ⟨gb182,0,none⟩=some (.int .i64 t177):=(qaf BK182.out 0).trans rfl;have hcz59_1:w54.cell? ⟨gb182,1,none⟩=some (.int .i64 t178):=(qaf BK182.out 1).trans rfl;have hcz59_2:w54.cell? ⟨gb182,2,none⟩=some (.slice Ao51 t179.length co51):=(qaf BK182.out 2).trans rfl;have hfz59_0:=qac BK182.out 0;have hfz59_1:=qac BK182.out 1;have hfz59_2:=qac BK182.out 2))
          go_ret
          exact⟨by first|rfl|(simp [qao,qan]<;>rfl)|(simp [bneNil,bneNilU]<;>rfl)|(simp only [← hji16];first|rfl|(simp [qao,qan]<;>rfl))|(simp [*,qao,qan]<;>rfl),by repeat (first|(with_reducible first|exact HB.out|apply qai|apply qaa|apply qah|refine qae ?_ GE175.out|refine qae ?_ GE182.out|refine qae ?_ GE191.out)|exact HB.out)⟩
        ·rw [if_neg c24] at H
         have c24b0:decide ((t186.length:Int)≤(t179.length:Int))=false:=decide_eq_false c24
         have c24b1:decide (t186.length≤t179.length)=false:=decide_eq_false (fun h=>c24 (Int.ofNat_le.mpr h))
         clear c24
         obtain rfl:=Option.some.inj H
         go_enter Tryd.func7,Tryd.ntmps7
         go_wp2_with (first|((with_reducible refine qaE (N:=2) rfl ?_);(try (refine qaD (by rfl) ?_;dsimp only));refine qaA ?hg (N:=2) ?hd (cs:=#[.int .i64 a0_0,.int .i64 a0_1,.slice A0_2 l0_2.length c0_2]) (t:=24) ?hr ?_;(case hd=>rfl);(case hg=>rfl);(case hr=>first|(go_simp;done)|(go_simp;rfl));intro gb175 hg w60 hbox hb;have n0_:=qaj.mk (qam (by repeat (first|(with_reducible first|exact HB.out|apply qai|apply qaa|apply qah)|exact HB.out)) hb);have n1_:=qaj.mk (hbox);have n2_:=qaj.mk ((by rw [hg];exact (qak (by repeat (first|(with_reducible first|exact HB.out|apply qai|apply qaa|apply qah)|exact HB.out))):w.heap.size≤gb175));have n3_:=qaj.mk ((by rw [hg];exact (qak (by repeat (first|(with_reducible first|exact HB.out|apply qai|apply qaa|apply qah)|exact HB.out))):w.heap.size≤gb175));clear HB;have HB:=n0_;have BK175:=n1_;have GW175:=n2_;have GE175:=n3_;clear n0_ n1_ n2_ n3_;clear hb hbox hg)|((with_reducible refine qau (f:=8) rfl ?_);refine qaJ (some 12) rfl rfl Tryd.func8 (by kernel_rfl) rfl #[] rfl (by (try simp only [List.map_toArray,List.map_cons,List.map_nil]);first|done|rfl|(simp only [List.length_drop,List.length_take];rfl)) ?_;(with_reducible refine (ostinatolaw07_awake.calls  true _ A3.out (Tabs.below HT.out (by repeat (first|(with_reducible first|exact HB.out|apply qai|apply qaa|apply qah|refine qae ?_ GE175.out)|exact HB.out)))).mono ?_);rintro e w61 ⟨rfl,hb⟩;refine⟨_,rfl,?_⟩;have n0_:=qaj.mk (qal (g:=gb175) (o:=.cells #[.int .i64 a0_0,.int .i64 a0_1,.slice A0_2 l0_2.length c0_2] 24 (0,0)) (by (with_reducible repeat (first|refine qad ?_ _|refine qag ?_|refine qab ?_ _));exact BK175.out) hb);have n1_:=qaj.mk (qam (by repeat (first|(with_reducible first|exact HB.out|apply qai|apply qaa|apply qah|refine qae ?_ GE175.out)|exact HB.out)) hb);clear BK175;clear HB;have BK175:=n0_;have HB:=n1_;clear n0_ n1_;(try clear hb);(try clear hb2);(try clear hk);(try clear hi);have hcz62_0:w61.cell? ⟨gb175,0,none⟩=some (.int .i64 a0_0):=(qaf BK175.out 0).trans rfl;have hcz62_1:w61.cell? ⟨gb175,1,none⟩=some (.int .i64 a0_1):=(qaf BK175.out 1).trans rfl;have hcz62_2:w61.cell? ⟨gb175,2,none⟩=some (.slice A0_2 l0_2.length c0_2):=(qaf BK175.out 2).trans rfl;have hfz62_0:=qac BK175.out 0;have hfz62_1:=qac BK175.out 1;have hfz62_2:=qac BK175.out 2)|((with_reducible refine qau (f:=11) rfl ?_);refine qaJ (some 14) rfl rfl Tryd.func11 (by kernel_rfl) rfl #[.agg #[.int .i64 a0_0,.int .i64 a0_1,.slice A0_2 l0_2.length c0_2]] rfl (by (try simp only [List.map_toArray,List.map_cons,List.map_nil]);first|done|rfl|(simp only [List.length_drop,List.length_take];rfl)) ?_;(with_reducible refine (ostinatolaw07_Sys_made.calls k a0_0 a0_1 (fun k_=>k_<w.heap.size) _ _ l0_2 t177 t178 t179 _ ?side1 A4.out).mono ?_);(case side1=>exact Kd.V_mk HC0_2.out (Kd.F_below (Kd.C_F k60_heap HR0_2.out) (by repeat (first|(with_reducible first|exact HB.out|apply qai|apply qaa|apply qah|refine qae ?_ GE175.out)|exact HB.out))));rintro e w63 ⟨v180,rfl,ho0,hb⟩;refine⟨_,rfl,?_⟩;have n0_:=qaj.mk (Kd.N_lower (Kd.N_mono (ok':=fun k_=>k_≠gb175) ho0 (fun k_ hk_=>Or.elim hk_ (fun hs_=>fun e_=>Nat.not_le.2 hs_ (by rw [e_];exact GW175.out)) (fun hn_=>(Kd.freshB (g:=gb175) (o:=.cells #[.int .i64 a0_0,.int .i64 a0_1,.slice A0_2 l0_2.length c0_2] 24 (0,0)) (by (with_reducible repeat (first|refine qad ?_ _|refine qag ?_|refine qab ?_ _));exact BK175.out) k_ hn_)))) (qak (by repeat (first|(with_reducible first|exact HB.out|apply qai|apply qaa|apply qah|refine qae ?_ GE175.out)|exact HB.out))));have n1_:=qaj.mk (qal (g:=gb175) (o:=.cells #[.int .i64 a0_0,.int .i64 a0_1,.slice A0_2 l0_2.length c0_2] 24 (0,0)) (by (with_reducible repeat (first|refine qad ?_ _|refine qag ?_|refine qab ?_ _));exact BK175.out) hb);have n2_:=qaj.mk (qam (by repeat (first|(with_reducible first|exact HB.out|apply qai|apply qaa|apply qah|refine qae ?_ GE175.out)|exact HB.out)) hb);clear BK175;clear HB;have HO181:=n0_;have BK175:=n1_;have HB:=n2_;clear n0_ n1_ n2_;(try clear hb);(try clear hb2);(try clear hk);(try clear hi);(try clear ho0))|((with_reducible refine qaE (N:=6) rfl ?_);(try (refine qaD (by rfl) ?_;dsimp only));refine qaA ?hg (N:=6) ?hd (cs:=#[.int .i64 0,.int .i64 0,.slice none 0 0]) (t:=32) ?hr ?_;(case hd=>rfl);(case hg=>rfl);(case hr=>first|(go_simp;done)|(go_simp;rfl));intro gb182 hg w64 hbox hb;have n0_:=qaj.mk (Kd.N_below (Kd.N_elderB (by (with_reducible repeat (first|apply Kd.N_alloc|apply Kd.N_drewN|apply Kd.N_drew));exact HO181.out) gb182 (Nat.le_of_eq hg.symm)) hb);have n1_:=qaj.mk (qal (g:=gb175) (o:=.cells #[.int .i64 a0_0,.int .i64 a0_1,.slice A0_2 l0_2.length c0_2] 24 (0,0)) (by (with_reducible repeat (first|refine qad ?_ _|refine qag ?_|refine qab ?_ _));exact BK175.out) hb);have n2_:=qaj.mk (qam (by repeat (first|(with_reducible first|exact HB.out|apply qai|apply qaa|apply qah|refine qae ?_ GE175.out)|exact HB.out)) hb);have n3_:=qaj.mk (hbox);have n4_:=qaj.mk ((by rw [hg];exact (qak (by repeat (first|(with_reducible first|exact HB.out|apply qai|apply qaa|apply qah|refine qae ?_ GE175.out)|exact HB.out))):w.heap.size≤gb182));have n5_:=qaj.mk ((by rw [hg];exact (qak (by repeat (first|(with_reducible first|exact HB.out|apply qai|apply qaa|apply qah|refine qae ?_ GE175.out)|exact HB.out))):w.heap.size≤gb182));have n6_:=qaj.mk ((by rw [hg];exact Nat.ne_of_lt (qax (g:=gb175) (o:=.cells #[.int .i64 a0_0,.int .i64 a0_1,.slice A0_2 l0_2.length c0_2] 24 (0,0)) (by (with_reducible repeat (first|refine qad ?_ _|refine qag ?_|refine qab ?_ _));exact BK175.out)):gb175≠gb182));have n7_:=qaj.mk ((by rw [hg];exact Nat.ne_of_gt (qax (g:=gb175) (o:=.cells #[.int .i64 a0_0,.int .i64 a0_1,.slice A0_2 l0_2.length c0_2] 24 (0,0)) (by (with_reducible repeat (first|refine qad ?_ _|refine qag ?_|refine qab ?_ _));exact BK175.out)):gb182≠gb175));clear HO181;clear BK175;clear HB;have HO181:=n0_;have BK175:=n1_;have HB:=n2_;have BK182:=n3_;have GW182:=n4_;have GE182:=n5_;have NB175_182:=n6_;have NB182_175:=n7_;clear n0_ n1_ n2_ n3_ n4_ n5_ n6_ n7_;clear hb hbox hg;have hnb65:=NB182_175.out;have hnc65:=NB175_182.out;have hcz66_0:w64.cell? ⟨gb182,0,none⟩=some (.int .i64 0):=(qaf BK182.out 0).trans rfl;have hcz66_1:w64.cell? ⟨gb182,1,none⟩=some (.int .i64 0):=(qaf BK182.out 1).trans rfl;have hcz66_2:w64.cell? ⟨gb182,2,none⟩=some (.slice none 0 0):=(qaf BK182.out 2).trans rfl;have hfz66_0:=qac BK182.out 0;have hfz66_1:=qac BK182.out 1;have hfz66_2:=qac BK182.out 2;obtain⟨Ao67,co67,eo67⟩:=Kd.N_slice HO181.out;subst eo67)|((with_reducible refine qau (f:=15) rfl ?_);refine qaJ (some 16) rfl rfl Tryd.func15 (by kernel_rfl) rfl #[.agg #[.int .i64 t177,.int .i64 t178,.slice Ao67 t179.length co67]] rfl (by (try simp only [List.map_toArray,List.map_cons,List.map_nil]);first|done|rfl|(simp only [List.length_drop,List.length_take];rfl)) ?_;(with_reducible refine (parse_Print.calls t177 t178 _ _ t179 t183 _ ?side1 ?side2 A5.out (Tabs.below HT.out (by repeat (first|(with_reducible first|exact HB.out|apply qai|apply qaa|apply qah|refine qae ?_ GE175.out|refine qae ?_ GE182.out)|exact HB.out)))).mono ?_);(case side1=>refine (Kd.N_reads' (e:=52) (base:=w.heap.size) (ok:=fun k_=>(k_≠gb175∧k_≠gb182)) (n:=t179.length) (c:=co67) ?_).2.2;exact (by (with_reducible repeat (first|apply Kd.N_alloc|apply Kd.N_drewN|apply Kd.N_drew));exact (Kd.N_mono (Kd.N_far (p:=⟨gb182,2,none⟩) (Kd.N_far (p:=⟨gb182,1,none⟩) (Kd.N_far (p:=⟨gb182,0,none⟩) (Kd.N_mono HO181.out (fun k_ hk=>(⟨hk,hk.2⟩:_∧k_≠gb182))) (fun _ hk=>hk.2) (.int .i64 t177)) (fun _ hk=>hk.2) (.int .i64 t178)) (fun _ hk=>hk.2) (.slice Ao67 t179.length co67)) (fun _ h_=>h_.1))));(case side2=>exact (Kd.N_reads' HO181.out).2.1);rintro e w68 ⟨rfl,hb⟩;refine⟨_,rfl,?_⟩;have n0_:=qaj.mk (Kd.N_below (by (with_reducible repeat (first|apply Kd.N_alloc|apply Kd.N_drewN|apply Kd.N_drew));exact (Kd.N_mono (Kd.N_far (p:=⟨gb182,2,none⟩) (Kd.N_far (p:=⟨gb182,1,none⟩) (Kd.N_far (p:=⟨gb182,0,none⟩) (Kd.N_mono HO181.out (fun k_ hk=>(⟨hk,hk.2⟩:_∧k_≠gb182))) (fun _ hk=>hk.2) (.int .i64 t177)) (fun _ hk=>hk.2) (.int .i64 t178)) (fun _ hk=>hk.2) (.slice Ao67 t179.length co67)) (fun _ h_=>h_.1))) hb);have n1_:=qaj.mk (qal (g:=gb175) (o:=.cells #[.int .i64 a0_0,.int .i64 a0_1,.slice A0_2 l0_2.length c0_2] 24 (0,0)) (by (with_reducible repeat (first|refine qad ?_ _|refine qag ?_|refine qab ?_ _));refine qaq ?_ NB175_182.out _;(with_reducible repeat (first|refine qad ?_ _|refine qag ?_|refine qab ?_ _));refine qaq ?_ NB175_182.out _;(with_reducible repeat (first|refine qad ?_ _|refine qag ?_|refine qab ?_ _));refine qaq ?_ NB175_182.out _;(with_reducible repeat (first|refine qad ?_ _|refine qag ?_|refine qab ?_ _));exact BK175.out) hb);have n2_:=qaj.mk (qal (g:=gb182) (o:=.cells #[.int .i64 t177,.int .i64 t178,.slice Ao67 t179.length co67] 32 (0,0)) (by (with_reducible repeat (first|refine qad ?_ _|refine qag ?_|refine qab ?_ _));refine qat (cs:=#[.int .i64 t177,.int .i64 t178,.slice none 0 0]) ?_ 2 _ rfl;(with_reducible repeat (first|refine qad ?_ _|refine qag ?_|refine qab ?_ _));refine qat (cs:=#[.int .i64 t177,.int .i64 0,.slice none 0 0]) ?_ 1 _ rfl;(with_reducible repeat (first|refine qad ?_ _|refine qag ?_|refine qab ?_ _));refine qat (cs:=#[.int .i64 0,.int .i64 0,.slice none 0 0]) ?_ 0 _ rfl;(with_reducible repeat (first|refine qad ?_ _|refine qag ?_|refine qab ?_ _));exact BK182.out) hb);have n3_:=qaj.mk (qam (by repeat (first|(with_reducible first|exact HB.out|apply qai|apply qaa|apply qah|refine qae ?_ GE175.out|refine qae ?_ GE182.out)|exact HB.out)) hb);clear HO181;clear BK175;clear BK182;clear HB;have HO181:=n0_;have BK175:=n1_;have BK182:=n2_;have HB:=n3_;clear n0_ n1_ n2_ n3_;(try clear hb);(try clear hb2);(try clear hk);(try clear hi))|((with_reducible refine qau (f:=12) rfl ?_);refine qaJ (some 34) rfl rfl Tryd.func12 (by kernel_rfl) rfl #[.string (t183.extract 0 ((ji16):Int).toNat)] rfl (by (try simp only [List.map_toArray,List.map_cons,List.map_nil]);first|done|(simp only [hji16];rfl)|rfl|(simp only [List.length_drop,List.length_take];rfl)) ?_;(with_reducible refine (parse_Parse.calls (t183.extract 0 ((ji16):Int).toNat) t184 t185 t186 t189 t190 _ A19.out (Tabs.below HT.out (by repeat (first|(with_reducible first|exact HB.out|apply qai|apply qaa|apply qah|refine qae ?_ GE175.out|refine qae ?_ GE182.out)|exact HB.out)))).mono ?_);rintro e w69 ⟨v187,rfl,ho0,hb⟩;refine⟨_,rfl,?_⟩;have n0_:=qaj.mk (Kd.N_elder' (by (with_reducible repeat (first|apply Kd.N_alloc|apply Kd.N_drewN|apply Kd.N_drew));exact HO181.out) (Kd.S_base ho0) hb);have n1_:=qaj.mk (Kd.N_lower (Kd.N_mono (ok':=fun k_=>some k_≠(.slice Ao67 t179.length co67:Value).ownBlock∧k_≠gb175∧k_≠gb182) (Kd.S_N (Kd.S_bound ho0)) (fun k_ hk_=>⟨(Kd.fresh' (Kd.N_lt (by (with_reducible repeat (first|apply Kd.N_alloc|apply Kd.N_drewN|apply Kd.N_drew));exact HO181.out)) k_ hk_.2.1),(Kd.freshB (g:=gb175) (o:=.cells #[.int .i64 a0_0,.int .i64 a0_1,.slice A0_2 l0_2.length c0_2] 24 (0,0)) (by (with_reducible repeat (first|refine qad ?_ _|refine qag ?_|refine qab ?_ _));exact BK175.out) k_ hk_.2.1),(Kd.freshB (g:=gb182) (o:=.cells #[.int .i64 t177,.int .i64 t178,.slice Ao67 t179.length co67] 32 (0,0)) (by (with_reducible repeat (first|refine qad ?_ _|refine qag ?_|refine qab ?_ _));exact BK182.out) k_ hk_.2.1)⟩)) (qak (by repeat (first|(with_reducible first|exact HB.out|apply qai|apply qaa|apply qah|refine qae ?_ GE175.out|refine qae ?_ GE182.out)|exact HB.out))));have n2_:=qaj.mk (qal (g:=gb175) (o:=.cells #[.int .i64 a0_0,.int .i64 a0_1,.slice A0_2 l0_2.length c0_2] 24 (0,0)) (by (with_reducible repeat (first|refine qad ?_ _|refine qag ?_|refine qab ?_ _));exact BK175.out) hb);have n3_:=qaj.mk (qal (g:=gb182) (o:=.cells #[.int .i64 t177,.int .i64 t178,.slice Ao67 t179.length co67] 32 (0,0)) (by (with_reducible repeat (first|refine qad ?_ _|refine qag ?_|refine qab ?_ _));exact BK182.out) hb);have n4_:=qaj.mk (qam (by repeat (first|(with_reducible first|exact HB.out|apply qai|apply qaa|apply qah|refine qae ?_ GE175.out|refine qae ?_ GE182.out)|exact HB.out)) hb);clear HO181;clear BK175;clear BK182;clear HB;have HO181:=n0_;have HO188:=n1_;have BK175:=n2_;have BK182:=n3_;have HB:=n4_;clear n0_ n1_ n2_ n3_ n4_;(try clear hb);(try clear hb2);(try clear hk);(try clear hi);(try clear ho0))|((with_reducible refine qaE (N:=9) rfl ?_);(try (refine qaD (by rfl) ?_;dsimp only));refine qaA ?hg (N:=9) ?hd (cs:=#[.int .i64 0,.int .i64 0,.slice none 0 0]) (t:=32) ?hr ?_;(case hd=>rfl);(case hg=>rfl);(case hr=>first|(go_simp;done)|(go_simp;rfl));intro gb191 hg w70 hbox hb;have n0_:=qaj.mk (Kd.N_below (Kd.N_elderB (by (with_reducible repeat (first|apply Kd.N_alloc|apply Kd.N_drewN|apply Kd.N_drew));exact HO181.out) gb191 (Nat.le_of_eq hg.symm)) hb);have n1_:=qaj.mk (Kd.N_below (Kd.N_elderB (by (with_reducible repeat (first|apply Kd.N_alloc|apply Kd.N_drewN|apply Kd.N_drew));exact HO188.out) gb191 (Nat.le_of_eq hg.symm)) hb);have n2_:=qaj.mk (qal (g:=gb175) (o:=.cells #[.int .i64 a0_0,.int .i64 a0_1,.slice A0_2 l0_2.length c0_2] 24 (0,0)) (by (with_reducible repeat (first|refine qad ?_ _|refine qag ?_|refine qab ?_ _));exact BK175.out) hb);have n3_:=qaj.mk (qal (g:=gb182) (o:=.cells #[.int .i64 t177,.int .i64 t178,.slice Ao67 t179.length co67] 32 (0,0)) (by (with_reducible repeat (first|refine qad ?_ _|refine qag ?_|refine qab ?_ _));exact BK182.out) hb);have n4_:=qaj.mk (qam (by repeat (first|(with_reducible first|exact HB.out|apply qai|apply qaa|apply qah|refine qae ?_ GE175.out|refine qae ?_ GE182.out)|exact HB.out)) hb);have n5_:=qaj.mk (hbox);have n6_:=qaj.mk ((by rw [hg];exact (qak (by repeat (first|(with_reducible first|exact HB.out|apply qai|apply qaa|apply qah|refine qae ?_ GE175.out|refine qae ?_ GE182.out)|exact HB.out))):w.heap.size≤gb191));have n7_:=qaj.mk ((by rw [hg];exact (qak (by repeat (first|(with_reducible first|exact HB.out|apply qai|apply qaa|apply qah|refine qae ?_ GE175.out|refine qae ?_ GE182.out)|exact HB.out))):w.heap.size≤gb191));have n8_:=qaj.mk ((by rw [hg];exact Nat.ne_of_lt (qax (g:=gb175) (o:=.cells #[.int .i64 a0_0,.int .i64 a0_1,.slice A0_2 l0_2.length c0_2] 24 (0,0)) (by (with_reducible repeat (first|refine qad ?_ _|refine qag ?_|refine qab ?_ _));exact BK175.out)):gb175≠gb191));have n9_:=qaj.mk ((by rw [hg];exact Nat.ne_of_gt (qax (g:=gb175) (o:=.cells #[.int .i64 a0_0,.int .i64 a0_1,.slice A0_2 l0_2.length c0_2] 24 (0,0)) (by (with_reducible repeat (first|refine qad ?_ _|refine qag ?_|refine qab ?_ _));exact BK175.out)):gb191≠gb175));have n10_:=qaj.mk ((by rw [hg];exact Nat.ne_of_lt (qax (g:=gb182) (o:=.cells #[.int .i64 t177,.int .i64 t178,.slice Ao67 t179.length co67] 32 (0,0)) (by (with_reducible repeat (first|refine qad ?_ _|refine qag ?_|refine qab ?_ _));exact BK182.out)):gb182≠gb191));have n11_:=qaj.mk ((by rw [hg];exact Nat.ne_of_gt (qax (g:=gb182) (o:=.cells #[.int .i64 t177,.int .i64 t178,.slice Ao67 t179.length co67] 32 (0,0)) (by (with_reducible repeat (first|refine qad ?_ _|refine qag ?_|refine qab ?_ _));exact BK182.out)):gb191≠gb182));clear HO181;clear HO188;clear BK175;clear BK182;clear HB;have HO181:=n0_;have HO188:=n1_;have BK175:=n2_;have BK182:=n3_;have HB:=n4_;have BK191:=n5_;have GW191:=n6_;have GE191:=n7_;have NB175_191:=n8_;have NB191_175:=n9_;have NB182_191:=n10_;have NB191_182:=n11_;clear n0_ n1_ n2_ n3_ n4_ n5_ n6_ n7_ n8_ n9_ n10_ n11_;clear hb hbox hg;have hnb71:=NB191_175.out;have hnc71:=NB175_191.out;have hnb72:=NB191_182.out;have hnc72:=NB182_191.out;have hcz73_0:w70.cell? ⟨gb191,0,none⟩=some (.int .i64 0):=(qaf BK191.out 0).trans rfl;have hcz73_1:w70.cell? ⟨gb191,1,none⟩=some (.int .i64 0):=(qaf BK191.out 1).trans rfl;have hcz73_2:w70.cell? ⟨gb191,2,none⟩=some (.slice none 0 0):=(qaf BK191.out 2).trans rfl;have hfz73_0:=qac BK191.out 0;have hfz73_1:=qac BK191.out 1;have hfz73_2:=qac BK191.out 2;obtain⟨Ao74,co74,eo74⟩:=Kd.N_slice HO188.out;subst eo74;have hcz75_0:w70.cell? ⟨gb182,0,none⟩=some (.int .i64 t177):=(qaf BK182.out 0).trans rfl;have hcz75_1:w70.cell? ⟨gb182,1,none⟩=some (.int .i64 t178):=(qaf BK182.out 1).trans rfl;have hcz75_2:w70.cell? ⟨gb182,2,none⟩=some (.slice Ao67 t179.length co67):=(qaf BK182.out 2).trans rfl;have hfz75_0:=qac BK182.out 0;have hfz75_1:=qac BK182.out 1;have hfz75_2:=qac BK182.out 2))
         go_ret
         exact⟨by first|rfl|(simp [qao,qan]<;>rfl)|(simp [bneNil,bneNilU]<;>rfl)|(simp only [← hji16];first|rfl|(simp [qao,qan]<;>rfl))|(simp [*,qao,qan]<;>rfl),by repeat (first|(with_reducible first|exact HB.out|apply qai|apply qaa|apply qah|refine qae ?_ GE175.out|refine qae ?_ GE182.out|refine qae ?_ GE191.out)|exact HB.out)⟩
       ·rw [if_neg c23] at H
        have c23b0:decide (1≤(t186.length:Int))=false:=decide_eq_false c23
        have c23b1:decide (1≤t186.length)=false:=decide_eq_false (by omega)
        clear c23
        obtain rfl:=Option.some.inj H
        go_enter Tryd.func7,Tryd.ntmps7
        go_wp2_with (first|((with_reducible refine qaE (N:=2) rfl ?_);(try (refine qaD (by rfl) ?_;dsimp only));refine qaA ?hg (N:=2) ?hd (cs:=#[.int .i64 a0_0,.int .i64 a0_1,.slice A0_2 l0_2.length c0_2]) (t:=24) ?hr ?_;(case hd=>rfl);(case hg=>rfl);(case hr=>first|(go_simp;done)|(go_simp;rfl));intro gb175 hg w76 hbox hb;have n0_:=qaj.mk (qam (by repeat (first|(with_reducible first|exact HB.out|apply qai|apply qaa|apply qah)|exact HB.out)) hb);have n1_:=qaj.mk (hbox);have n2_:=qaj.mk ((by rw [hg];exact (qak (by repeat (first|(with_reducible first|exact HB.out|apply qai|apply qaa|apply qah)|exact HB.out))):w.heap.size≤gb175));have n3_:=qaj.mk ((by rw [hg];exact (qak (by repeat (first|(with_reducible first|exact HB.out|apply qai|apply qaa|apply qah)|exact HB.out))):w.heap.size≤gb175));clear HB;have HB:=n0_;have BK175:=n1_;have GW175:=n2_;have GE175:=n3_;clear n0_ n1_ n2_ n3_;clear hb hbox hg)|((with_reducible refine qau (f:=8) rfl ?_);refine qaJ (some 12) rfl rfl Tryd.func8 (by kernel_rfl) rfl #[] rfl (by (try simp only [List.map_toArray,List.map_cons,List.map_nil]);first|done|rfl|(simp only [List.length_drop,List.length_take];rfl)) ?_;(with_reducible refine (ostinatolaw07_awake.calls  true _ A3.out (Tabs.below HT.out (by repeat (first|(with_reducible first|exact HB.out|apply qai|apply qaa|apply qah|refine qae ?_ GE175.out)|exact HB.out)))).mono ?_);rintro e w77 ⟨rfl,hb⟩;refine⟨_,rfl,?_⟩;have n0_:=qaj.mk (qal (g:=gb175) (o:=.cells #[.int .i64 a0_0,.int .i64 a0_1,.slice A0_2 l0_2.length c0_2] 24 (0,0)) (by (with_reducible repeat (first|refine qad ?_ _|refine qag ?_|refine qab ?_ _));exact BK175.out) hb);have n1_:=qaj.mk (qam (by repeat (first|(with_reducible first|exact HB.out|apply qai|apply qaa|apply qah|refine qae ?_ GE175.out)|exact HB.out)) hb);clear BK175;clear HB;have BK175:=n0_;have HB:=n1_;clear n0_ n1_;(try clear hb);(try clear hb2);(try clear hk);(try clear hi);have hcz78_0:w77.cell? ⟨gb175,0,none⟩=some (.int .i64 a0_0):=(qaf BK175.out 0).trans rfl;have hcz78_1:w77.cell? ⟨gb175,1,none⟩=some (.int .i64 a0_1):=(qaf BK175.out 1).trans rfl;have hcz78_2:w77.cell? ⟨gb175,2,none⟩=some (.slice A0_2 l0_2.length c0_2):=(qaf BK175.out 2).trans rfl;have hfz78_0:=qac BK175.out 0;have hfz78_1:=qac BK175.out 1;have hfz78_2:=qac BK175.out 2)|((with_reducible refine qau (f:=11) rfl ?_);refine qaJ (some 14) rfl rfl Tryd.func11 (by kernel_rfl) rfl #[.agg #[.int .i64 a0_0,.int .i64 a0_1,.slice A0_2 l0_2.length c0_2]] rfl (by (try simp only [List.map_toArray,List.map_cons,List.map_nil]);first|done|rfl|(simp only [List.length_drop,List.length_take];rfl)) ?_;(with_reducible refine (ostinatolaw07_Sys_made.calls k a0_0 a0_1 (fun k_=>k_<w.heap.size) _ _ l0_2 t177 t178 t179 _ ?side1 A4.out).mono ?_);(case side1=>exact Kd.V_mk HC0_2.out (Kd.F_below (Kd.C_F k60_heap HR0_2.out) (by repeat (first|(with_reducible first|exact HB.out|apply qai|apply qaa|apply qah|refine qae ?_ GE175.out)|exact HB.out))));rintro e w79 ⟨v180,rfl,ho0,hb⟩;refine⟨_,rfl,?_⟩;have n0_:=qaj.mk (Kd.N_lower (Kd.N_mono (ok':=fun k_=>k_≠gb175) ho0 (fun k_ hk_=>Or.elim hk_ (fun hs_=>fun e_=>Nat.not_le.2 hs_ (by rw [e_];exact GW175.out)) (fun hn_=>(Kd.freshB (g:=gb175) (o:=.cells #[.int .i64 a0_0,.int .i64 a0_1,.slice A0_2 l0_2.length c0_2] 24 (0,0)) (by (with_reducible repeat (first|refine qad ?_ _|refine qag ?_|refine qab ?_ _));exact BK175.out) k_ hn_)))) (qak (by repeat (first|(with_reducible first|exact HB.out|apply qai|apply qaa|apply qah|refine qae ?_ GE175.out)|exact HB.out))));have n1_:=qaj.mk (qal (g:=gb175) (o:=.cells #[.int .i64 a0_0,.int .i64 a0_1,.slice A0_2 l0_2.length c0_2] 24 (0,0)) (by (with_reducible repeat (first|refine qad ?_ _|refine qag ?_|refine qab ?_ _));exact BK175.out) hb);have n2_:=qaj.mk (qam (by repeat (first|(with_reducible first|exact HB.out|apply qai|apply qaa|apply qah|refine qae ?_ GE175.out)|exact HB.out)) hb);clear BK175;clear HB;have HO181:=n0_;have BK175:=n1_;have HB:=n2_;clear n0_ n1_ n2_;(try clear hb);(try clear hb2);(try clear hk);(try clear hi);(try clear ho0))|((with_reducible refine qaE (N:=6) rfl ?_);(try (refine qaD (by rfl) ?_;dsimp only));refine qaA ?hg (N:=6) ?hd (cs:=#[.int .i64 0,.int .i64 0,.slice none 0 0]) (t:=32) ?hr ?_;(case hd=>rfl);(case hg=>rfl);(case hr=>first|(go_simp;done)|(go_simp;rfl));intro gb182 hg w80 hbox hb;have n0_:=qaj.mk (Kd.N_below (Kd.N_elderB (by (with_reducible repeat (first|apply Kd.N_alloc|apply Kd.N_drewN|apply Kd.N_drew));exact HO181.out) gb182 (Nat.le_of_eq hg.symm)) hb);have n1_:=qaj.mk (qal (g:=gb175) (o:=.cells #[.int .i64 a0_0,.int .i64 a0_1,.slice A0_2 l0_2.length c0_2] 24 (0,0)) (by (with_reducible repeat (first|refine qad ?_ _|refine qag ?_|refine qab ?_ _));exact BK175.out) hb);have n2_:=qaj.mk (qam (by repeat (first|(with_reducible first|exact HB.out|apply qai|apply qaa|apply qah|refine qae ?_ GE175.out)|exact HB.out)) hb);have n3_:=qaj.mk (hbox);have n4_:=qaj.mk ((by rw [hg];exact (qak (by repeat (first|(with_reducible first|exact HB.out|apply qai|apply qaa|apply qah|refine qae ?_ GE175.out)|exact HB.out))):w.heap.size≤gb182));have n5_:=qaj.mk ((by rw [hg];exact (qak (by repeat (first|(with_reducible first|exact HB.out|apply qai|apply qaa|apply qah|refine qae ?_ GE175.out)|exact HB.out))):w.heap.size≤gb182));have n6_:=qaj.mk ((by rw [hg];exact Nat.ne_of_lt (qax (g:=gb175) (o:=.cells #[.int .i64 a0_0,.int .i64 a0_1,.slice A0_2 l0_2.length c0_2] 24 (0,0)) (by (with_reducible repeat (first|refine qad ?_ _|refine qag ?_|refine qab ?_ _));exact BK175.out)):gb175≠gb182));have n7_:=qaj.mk ((by rw [hg];exact Nat.ne_of_gt (qax (g:=gb175) (o:=.cells #[.int .i64 a0_0,.int .i64 a0_1,.slice A0_2 l0_2.length c0_2] 24 (0,0)) (by (with_reducible repeat (first|refine qad ?_ _|refine qag ?_|refine qab ?_ _));exact BK175.out)):gb182≠gb175));clear HO181;clear BK175;clear HB;have HO181:=n0_;have BK175:=n1_;have HB:=n2_;have BK182:=n3_;have GW182:=n4_;have GE182:=n5_;have NB175_182:=n6_;have NB182_175:=n7_;clear n0_ n1_ n2_ n3_ n4_ n5_ n6_ n7_;clear hb hbox hg;have hnb81:=NB182_175.out;have hnc81:=NB175_182.out;have hcz82_0:w80.cell? ⟨gb182,0,none⟩=some (.int .i64 0):=(qaf BK182.out 0).trans rfl;have hcz82_1:w80.cell? ⟨gb182,1,none⟩=some (.int .i64 0):=(qaf BK182.out 1).trans rfl;have hcz82_2:w80.cell? ⟨gb182,2,none⟩=some (.slice none 0 0):=(qaf BK182.out 2).trans rfl;have hfz82_0:=qac BK182.out 0;have hfz82_1:=qac BK182.out 1;have hfz82_2:=qac BK182.out 2;obtain⟨Ao83,co83,eo83⟩:=Kd.N_slice HO181.out;subst eo83)|((with_reducible refine qau (f:=15) rfl ?_);refine qaJ (some 16) rfl rfl Tryd.func15 (by kernel_rfl) rfl #[.agg #[.int .i64 t177,.int .i64 t178,.slice Ao83 t179.length co83]] rfl (by (try simp only [List.map_toArray,List.map_cons,List.map_nil]);first|done|rfl|(simp only [List.length_drop,List.length_take];rfl)) ?_;(with_reducible refine (parse_Print.calls t177 t178 _ _ t179 t183 _ ?side1 ?side2 A5.out (Tabs.below HT.out (by repeat (first|(with_reducible first|exact HB.out|apply qai|apply qaa|apply qah|refine qae ?_ GE175.out|refine qae ?_ GE182.out)|exact HB.out)))).mono ?_);(case side1=>refine (Kd.N_reads' (e:=52) (base:=w.heap.size) (ok:=fun k_=>(k_≠gb175∧k_≠gb182)) (n:=t179.length) (c:=co83) ?_).2.2;exact (by (with_reducible repeat (first|apply Kd.N_alloc|apply Kd.N_drewN|apply Kd.N_drew));exact (Kd.N_mono (Kd.N_far (p:=⟨gb182,2,none⟩) (Kd.N_far (p:=⟨gb182,1,none⟩) (Kd.N_far (p:=⟨gb182,0,none⟩) (Kd.N_mono HO181.out (fun k_ hk=>(⟨hk,hk.2⟩:_∧k_≠gb182))) (fun _ hk=>hk.2) (.int .i64 t177)) (fun _ hk=>hk.2) (.int .i64 t178)) (fun _ hk=>hk.2) (.slice Ao83 t179.length co83)) (fun _ h_=>h_.1))));(case side2=>exact (Kd.N_reads' HO181.out).2.1);rintro e w84 ⟨rfl,hb⟩;refine⟨_,rfl,?_⟩;have n0_:=qaj.mk (Kd.N_below (by (with_reducible repeat (first|apply Kd.N_alloc|apply Kd.N_drewN|apply Kd.N_drew));exact (Kd.N_mono (Kd.N_far (p:=⟨gb182,2,none⟩) (Kd.N_far (p:=⟨gb182,1,none⟩) (Kd.N_far (p:=⟨gb182,0,none⟩) (Kd.N_mono HO181.out (fun k_ hk=>(⟨hk,hk.2⟩:_∧k_≠gb182))) (fun _ hk=>hk.2) (.int .i64 t177)) (fun _ hk=>hk.2) (.int .i64 t178)) (fun _ hk=>hk.2) (.slice Ao83 t179.length co83)) (fun _ h_=>h_.1))) hb);have n1_:=qaj.mk (qal (g:=gb175) (o:=.cells #[.int .i64 a0_0,.int .i64 a0_1,.slice A0_2 l0_2.length c0_2] 24 (0,0)) (by (with_reducible repeat (first|refine qad ?_ _|refine qag ?_|refine qab ?_ _));refine qaq ?_ NB175_182.out _;(with_reducible repeat (first|refine qad ?_ _|refine qag ?_|refine qab ?_ _));refine qaq ?_ NB175_182.out _;(with_reducible repeat (first|refine qad ?_ _|refine qag ?_|refine qab ?_ _));refine qaq ?_ NB175_182.out _;(with_reducible repeat (first|refine qad ?_ _|refine qag ?_|refine qab ?_ _));exact BK175.out) hb);have n2_:=qaj.mk (qal (g:=gb182) (o:=.cells #[.int .i64 t177,.int .i64 t178,.slice Ao83 t179.length co83] 32 (0,0)) (by (with_reducible repeat (first|refine qad ?_ _|refine qag ?_|refine qab ?_ _));refine qat (cs:=#[.int .i64 t177,.int .i64 t178,.slice none 0 0]) ?_ 2 _ rfl;(with_reducible repeat (first|refine qad ?_ _|refine qag ?_|refine qab ?_ _));refine qat (cs:=#[.int .i64 t177,.int .i64 0,.slice none 0 0]) ?_ 1 _ rfl;(with_reducible repeat (first|refine qad ?_ _|refine qag ?_|refine qab ?_ _));refine qat (cs:=#[.int .i64 0,.int .i64 0,.slice none 0 0]) ?_ 0 _ rfl;(with_reducible repeat (first|refine qad ?_ _|refine qag ?_|refine qab ?_ _));exact BK182.out) hb);have n3_:=qaj.mk (qam (by repeat (first|(with_reducible first|exact HB.out|apply qai|apply qaa|apply qah|refine qae ?_ GE175.out|refine qae ?_ GE182.out)|exact HB.out)) hb);clear HO181;clear BK175;clear BK182;clear HB;have HO181:=n0_;have BK175:=n1_;have BK182:=n2_;have HB:=n3_;clear n0_ n1_ n2_ n3_;(try clear hb);(try clear hb2);(try clear hk);(try clear hi))|((with_reducible refine qau (f:=12) rfl ?_);refine qaJ (some 34) rfl rfl Tryd.func12 (by kernel_rfl) rfl #[.string (t183.extract 0 ((ji16):Int).toNat)] rfl (by (try simp only [List.map_toArray,List.map_cons,List.map_nil]);first|done|(simp only [hji16];rfl)|rfl|(simp only [List.length_drop,List.length_take];rfl)) ?_;(with_reducible refine (parse_Parse.calls (t183.extract 0 ((ji16):Int).toNat) t184 t185 t186 t189 t190 _ A19.out (Tabs.below HT.out (by repeat (first|(with_reducible first|exact HB.out|apply qai|apply qaa|apply qah|refine qae ?_ GE175.out|refine qae ?_ GE182.out)|exact HB.out)))).mono ?_);rintro e w85 ⟨v187,rfl,ho0,hb⟩;refine⟨_,rfl,?_⟩;have n0_:=qaj.mk (Kd.N_elder' (by (with_reducible repeat (first|apply Kd.N_alloc|apply Kd.N_drewN|apply Kd.N_drew));exact HO181.out) (Kd.S_base ho0) hb);have n1_:=qaj.mk (Kd.N_lower (Kd.N_mono (ok':=fun k_=>some k_≠(.slice Ao83 t179.length co83:Value).ownBlock∧k_≠gb175∧k_≠gb182) (Kd.S_N (Kd.S_bound ho0)) (fun k_ hk_=>⟨(Kd.fresh' (Kd.N_lt (by (with_reducible repeat (first|apply Kd.N_alloc|apply Kd.N_drewN|apply Kd.N_drew));exact HO181.out)) k_ hk_.2.1),(Kd.freshB (g:=gb175) (o:=.cells #[.int .i64 a0_0,.int .i64 a0_1,.slice A0_2 l0_2.length c0_2] 24 (0,0)) (by (with_reducible repeat (first|refine qad ?_ _|refine qag ?_|refine qab ?_ _));exact BK175.out) k_ hk_.2.1),(Kd.freshB (g:=gb182) (o:=.cells #[.int .i64 t177,.int .i64 t178,.slice Ao83 t179.length co83] 32 (0,0)) (by (with_reducible repeat (first|refine qad ?_ _|refine qag ?_|refine qab ?_ _));exact BK182.out) k_ hk_.2.1)⟩)) (qak (by repeat (first|(with_reducible first|exact HB.out|apply qai|apply qaa|apply qah|refine qae ?_ GE175.out|refine qae ?_ GE182.out)|exact HB.out))));have n2_:=qaj.mk (qal (g:=gb175) (o:=.cells #[.int .i64 a0_0,.int .i64 a0_1,.slice A0_2 l0_2.length c0_2] 24 (0,0)) (by (with_reducible repeat (first|refine qad ?_ _|refine qag ?_|refine qab ?_ _));exact BK175.out) hb);have n3_:=qaj.mk (qal (g:=gb182) (o:=.cells #[.int .i64 t177,.int .i64 t178,.slice Ao83 t179.length co83] 32 (0,0)) (by (with_reducible repeat (first|refine qad ?_ _|refine qag ?_|refine qab ?_ _));exact BK182.out) hb);have n4_:=qaj.mk (qam (by repeat (first|(with_reducible first|exact HB.out|apply qai|apply qaa|apply qah|refine qae ?_ GE175.out|refine qae ?_ GE182.out)|exact HB.out)) hb);clear HO181;clear BK175;clear BK182;clear HB;have HO181:=n0_;have HO188:=n1_;have BK175:=n2_;have BK182:=n3_;have HB:=n4_;clear n0_ n1_ n2_ n3_ n4_;(try clear hb);(try clear hb2);(try clear hk);(try clear hi);(try clear ho0))|((with_reducible refine qaE (N:=9) rfl ?_);(try (refine qaD (by rfl) ?_;dsimp only));refine qaA ?hg (N:=9) ?hd (cs:=#[.int .i64 0,.int .i64 0,.slice none 0 0]) (t:=32) ?hr ?_;(case hd=>rfl);(case hg=>rfl);(case hr=>first|(go_simp;done)|(go_simp;rfl));intro gb191 hg w86 hbox hb;have n0_:=qaj.mk (Kd.N_below (Kd.N_elderB (by (with_reducible repeat (first|apply Kd.N_alloc|apply Kd.N_drewN|apply Kd.N_drew));exact HO181.out) gb191 (Nat.le_of_eq hg.symm)) hb);have n1_:=qaj.mk (Kd.N_below (Kd.N_elderB (by (with_reducible repeat (first|apply Kd.N_alloc|apply Kd.N_drewN|apply Kd.N_drew));exact HO188.out) gb191 (Nat.le_of_eq hg.symm)) hb);have n2_:=qaj.mk (qal (g:=gb175) (o:=.cells #[.int .i64 a0_0,.int .i64 a0_1,.slice A0_2 l0_2.length c0_2] 24 (0,0)) (by (with_reducible repeat (first|refine qad ?_ _|refine qag ?_|refine qab ?_ _));exact BK175.out) hb);have n3_:=qaj.mk (qal (g:=gb182) (o:=.cells #[.int .i64 t177,.int .i64 t178,.slice Ao83 t179.length co83] 32 (0,0)) (by (with_reducible repeat (first|refine qad ?_ _|refine qag ?_|refine qab ?_ _));exact BK182.out) hb);have n4_:=qaj.mk (qam (by repeat (first|(with_reducible first|exact HB.out|apply qai|apply qaa|apply qah|refine qae ?_ GE175.out|refine qae ?_ GE182.out)|exact HB.out)) hb);have n5_:=qaj.mk (hbox);have n6_:=qaj.mk ((by rw [hg];exact (qak (by repeat (first|(with_reducible first|exact HB.out|apply qai|apply qaa|apply qah|refine qae ?_ GE175.out|refine qae ?_ GE182.out)|exact HB.out))):w.heap.size≤gb191));have n7_:=qaj.mk ((by rw [hg];exact (qak (by repeat (first|(with_reducible first|exact HB.out|apply qai|apply qaa|apply qah|refine qae ?_ GE175.out|refine qae ?_ GE182.out)|exact HB.out))):w.heap.size≤gb191));have n8_:=qaj.mk ((by rw [hg];exact Nat.ne_of_lt (qax (g:=gb175) (o:=.cells #[.int .i64 a0_0,.int .i64 a0_1,.slice A0_2 l0_2.length c0_2] 24 (0,0)) (by (with_reducible repeat (first|refine qad ?_ _|refine qag ?_|refine qab ?_ _));exact BK175.out)):gb175≠gb191));have n9_:=qaj.mk ((by rw [hg];exact Nat.ne_of_gt (qax (g:=gb175) (o:=.cells #[.int .i64 a0_0,.int .i64 a0_1,.slice A0_2 l0_2.length c0_2] 24 (0,0)) (by (with_reducible repeat (first|refine qad ?_ _|refine qag ?_|refine qab ?_ _));exact BK175.out)):gb191≠gb175));have n10_:=qaj.mk ((by rw [hg];exact Nat.ne_of_lt (qax (g:=gb182) (o:=.cells #[.int .i64 t177,.int .i64 t178,.slice Ao83 t179.length co83] 32 (0,0)) (by (with_reducible repeat (first|refine qad ?_ _|refine qag ?_|refine qab ?_ _));exact BK182.out)):gb182≠gb191));have n11_:=qaj.mk ((by rw [hg];exact Nat.ne_of_gt (qax (g:=gb182) (o:=.cells #[.int .i64 t177,.int .i64 t178,.slice Ao83 t179.length co83] 32 (0,0)) (by (with_reducible repeat (first|refine qad ?_ _|refine qag ?_|refine qab ?_ _));exact BK182.out)):gb191≠gb182));clear HO181;clear HO188;clear BK175;clear BK182;clear HB;have HO181:=n0_;have HO188:=n1_;have BK175:=n2_;have BK182:=n3_;have HB:=n4_;have BK191:=n5_;have GW191:=n6_;have GE191:=n7_;have NB175_191:=n8_;have NB191_175:=n9_;have NB182_191:=n10_;have NB191_182:=n11_;clear n0_ n1_ n2_ n3_ n4_ n5_ n6_ n7_ n8_ n9_ n10_ n11_;clear hb hbox hg;have hnb87:=NB191_175.out;have hnc87:=NB175_191.out;have hnb88:=NB191_182.out;have hnc88:=NB182_191.out;have hcz89_0:w86.cell? ⟨gb191,0,none⟩=some (.int .i64 0):=(qaf BK191.out 0).trans rfl;have hcz89_1:w86.cell? ⟨gb191,1,none⟩=some (.int .i64 0):=(qaf BK191.out 1).trans rfl;have hcz89_2:w86.cell? ⟨gb191,2,none⟩=some (.slice none 0 0):=(qaf BK191.out 2).trans rfl;have hfz89_0:=qac BK191.out 0;have hfz89_1:=qac BK191.out 1;have hfz89_2:=qac BK191.out 2;obtain⟨Ao90,co90,eo90⟩:=Kd.N_slice HO188.out;subst eo90))
        go_ret
        exact⟨by first|rfl|(simp [qao,qan]<;>rfl)|(simp [bneNil,bneNilU]<;>rfl)|(simp only [← hji16];first|rfl|(simp [qao,qan]<;>rfl))|(simp [*,qao,qan]<;>rfl),by repeat (first|(with_reducible first|exact HB.out|apply qai|apply qaa|apply qah|refine qae ?_ GE175.out|refine qae ?_ GE182.out|refine qae ?_ GE191.out)|exact HB.out)⟩
      ·rw [if_neg c22] at H
       have c22b0:(t189 == (ji16))=false:=beq_eq_false_iff_ne.mpr c22
       have c22b1:(t189 != (ji16))=true:=bne_iff_ne.mpr c22
       obtain rfl:=Option.some.inj H
       go_enter Tryd.func7,Tryd.ntmps7
       go_wp2_with (first|((with_reducible refine qaE (N:=2) rfl ?_);(try (refine qaD (by rfl) ?_;dsimp only));refine qaA ?hg (N:=2) ?hd (cs:=#[.int .i64 a0_0,.int .i64 a0_1,.slice A0_2 l0_2.length c0_2]) (t:=24) ?hr ?_;(case hd=>rfl);(case hg=>rfl);(case hr=>first|(go_simp;done)|(go_simp;rfl));intro gb175 hg w91 hbox hb;have n0_:=qaj.mk (qam (by repeat (first|(with_reducible first|exact HB.out|apply qai|apply qaa|apply qah)|exact HB.out)) hb);have n1_:=qaj.mk (hbox);have n2_:=qaj.mk ((by rw [hg];exact (qak (by repeat (first|(with_reducible first|exact HB.out|apply qai|apply qaa|apply qah)|exact HB.out))):w.heap.size≤gb175));have n3_:=qaj.mk ((by rw [hg];exact (qak (by repeat (first|(with_reducible first|exact HB.out|apply qai|apply qaa|apply qah)|exact HB.out))):w.heap.size≤gb175));clear HB;have HB:=n0_;have BK175:=n1_;have GW175:=n2_;have GE175:=n3_;clear n0_ n1_ n2_ n3_;clear hb hbox hg)|((with_reducible refine qau (f:=8) rfl ?_);refine qaJ (some 12) rfl rfl Tryd.func8 (by kernel_rfl) rfl #[] rfl (by (try simp only [List.map_toArray,List.map_cons,List.map_nil]);first|done|rfl|(simp only [List.length_drop,List.length_take];rfl)) ?_;(with_reducible refine (ostinatolaw07_awake.calls  true _ A3.out (Tabs.below HT.out (by repeat (first|(with_reducible first|exact HB.out|apply qai|apply qaa|apply qah|refine qae ?_ GE175.out)|exact HB.out)))).mono ?_);rintro e w92 ⟨rfl,hb⟩;refine⟨_,rfl,?_⟩;have n0_:=qaj.mk (qal (g:=gb175) (o:=.cells #[.int .i64 a0_0,.int .i64 a0_1,.slice A0_2 l0_2.length c0_2] 24 (0,0)) (by (with_reducible repeat (first|refine qad ?_ _|refine qag ?_|refine qab ?_ _));exact BK175.out) hb);have n1_:=qaj.mk (qam (by repeat (first|(with_reducible first|exact HB.out|apply qai|apply qaa|apply qah|refine qae ?_ GE175.out)|exact HB.out)) hb);clear BK175;clear HB;have BK175:=n0_;have HB:=n1_;clear n0_ n1_;(try clear hb);(try clear hb2);(try clear hk);(try clear hi);have hcz93_0:w92.cell? ⟨gb175,0,none⟩=some (.int .i64 a0_0):=(qaf BK175.out 0).trans rfl;have hcz93_1:w92.cell? ⟨gb175,1,none⟩=some (.int .i64 a0_1):=(qaf BK175.out 1).trans rfl;have hcz93_2:w92.cell? ⟨gb175,2,none⟩=some (.slice A0_2 l0_2.length c0_2):=(qaf BK175.out 2).trans rfl;have hfz93_0:=qac BK175.out 0;have hfz93_1:=qac BK175.out 1;have hfz93_2:=qac BK175.out 2)|((with_reducible refine qau (f:=11) rfl ?_);refine qaJ (some 14) rfl rfl Tryd.func11 (by kernel_rfl) rfl #[.agg #[.int .i64 a0_0,.int .i64 a0_1,.slice A0_2 l0_2.length c0_2]] rfl (by (try simp only [List.map_toArray,List.map_cons,List.map_nil]);first|done|rfl|(simp only [List.length_drop,List.length_take];rfl)) ?_;(with_reducible refine (ostinatolaw07_Sys_made.calls k a0_0 a0_1 (fun k_=>k_<w.heap.size) _ _ l0_2 t177 t178 t179 _ ?side1 A4.out).mono ?_);(case side1=>exact Kd.V_mk HC0_2.out (Kd.F_below (Kd.C_F k60_heap HR0_2.out) (by repeat (first|(with_reducible first|exact HB.out|apply qai|apply qaa|apply qah|refine qae ?_ GE175.out)|exact HB.out))));rintro e w94 ⟨v180,rfl,ho0,hb⟩;refine⟨_,rfl,?_⟩;have n0_:=qaj.mk (Kd.N_lower (Kd.N_mono (ok':=fun k_=>k_≠gb175) ho0 (fun k_ hk_=>Or.elim hk_ (fun hs_=>fun e_=>Nat.not_le.2 hs_ (by rw [e_];exact GW175.out)) (fun hn_=>(Kd.freshB (g:=gb175) (o:=.cells #[.int .i64 a0_0,.int .i64 a0_1,.slice A0_2 l0_2.length c0_2] 24 (0,0)) (by (with_reducible repeat (first|refine qad ?_ _|refine qag ?_|refine qab ?_ _));exact BK175.out) k_ hn_)))) (qak (by repeat (first|(with_reducible first|exact HB.out|apply qai|apply qaa|apply qah|refine qae ?_ GE175.out)|exact HB.out))));have n1_:=qaj.mk (qal (g:=gb175) (o:=.cells #[.int .i64 a0_0,.int .i64 a0_1,.slice A0_2 l0_2.length c0_2] 24 (0,0)) (by (with_reducible repeat (first|refine qad ?_ _|refine qag ?_|refine qab ?_ _));exact BK175.out) hb);have n2_:=qaj.mk (qam (by repeat (first|(with_reducible first|exact HB.out|apply qai|apply qaa|apply qah|refine qae ?_ GE175.out)|exact HB.out)) hb);clear BK175;clear HB;have HO181:=n0_;have BK175:=n1_;have HB:=n2_;clear n0_ n1_ n2_;(try clear hb);(try clear hb2);(try clear hk);(try clear hi);(try clear ho0))|((with_reducible refine qaE (N:=6) rfl ?_);(try (refine qaD (by rfl) ?_;dsimp only));refine qaA ?hg (N:=6) ?hd (cs:=#[.int .i64 0,.int .i64 0,.slice none 0 0]) (t:=32) ?hr ?_;(case hd=>rfl);(case hg=>rfl);(case hr=>first|(go_simp;done)|(go_simp;rfl));intro gb182 hg w95 hbox hb;have n0_:=qaj.mk (Kd.N_below (Kd.N_elderB (by (with_reducible repeat (first|apply Kd.N_alloc|apply Kd.N_drewN|apply Kd.N_drew));exact HO181.out) gb182 (Nat.le_of_eq hg.symm)) hb);have n1_:=qaj.mk (qal (g:=gb175) (o:=.cells #[.int .i64 a0_0,.int .i64 a0_1,.slice A0_2 l0_2.length c0_2] 24 (0,0)) (by (with_reducible repeat (first|refine qad ?_ _|refine qag ?_|refine qab ?_ _));exact BK175.out) hb);have n2_:=qaj.mk (qam (by repeat (first|(with_reducible first|exact HB.out|apply qai|apply qaa|apply qah|refine qae ?_ GE175.out)|exact HB.out)) hb);have n3_:=qaj.mk (hbox);have n4_:=qaj.mk ((by rw [hg];exact (qak (by repeat (first|(with_reducible first|exact HB.out|apply qai|apply qaa|apply qah|refine qae ?_ GE175.out)|exact HB.out))):w.heap.size≤gb182));have n5_:=qaj.mk ((by rw [hg];exact (qak (by repeat (first|(with_reducible first|exact HB.out|apply qai|apply qaa|apply qah|refine qae ?_ GE175.out)|exact HB.out))):w.heap.size≤gb182));have n6_:=qaj.mk ((by rw [hg];exact Nat.ne_of_lt (qax (g:=gb175) (o:=.cells #[.int .i64 a0_0,.int .i64 a0_1,.slice A0_2 l0_2.length c0_2] 24 (0,0)) (by (with_reducible repeat (first|refine qad ?_ _|refine qag ?_|refine qab ?_ _));exact BK175.out)):gb175≠gb182));have n7_:=qaj.mk ((by rw [hg];exact Nat.ne_of_gt (qax (g:=gb175) (o:=.cells #[.int .i64 a0_0,.int .i64 a0_1,.slice A0_2 l0_2.length c0_2] 24 (0,0)) (by (with_reducible repeat (first|refine qad ?_ _|refine qag ?_|refine qab ?_ _));exact BK175.out)):gb182≠gb175));clear HO181;clear BK175;clear HB;have HO181:=n0_;have BK175:=n1_;have HB:=n2_;have BK182:=n3_;have GW182:=n4_;have GE182:=n5_;have NB175_182:=n6_;have NB182_175:=n7_;clear n0_ n1_ n2_ n3_ n4_ n5_ n6_ n7_;clear hb hbox hg;have hnb96:=NB182_175.out;have hnc96:=NB175_182.out;have hcz97_0:w95.cell? ⟨gb182,0,none⟩=some (.int .i64 0):=(qaf BK182.out 0).trans rfl;have hcz97_1:w95.cell? ⟨gb182,1,none⟩=some (.int .i64 0):=(qaf BK182.out 1).trans rfl;have hcz97_2:w95.cell? ⟨gb182,2,none⟩=some (.slice none 0 0):=(qaf BK182.out 2).trans rfl;have hfz97_0:=qac BK182.out 0;have hfz97_1:=qac BK182.out 1;have hfz97_2:=qac BK182.out 2;obtain⟨Ao98,co98,eo98⟩:=Kd.N_slice HO181.out;subst eo98)|((with_reducible refine qau (f:=15) rfl ?_);refine qaJ (some 16) rfl rfl Tryd.func15 (by kernel_rfl) rfl #[.agg #[.int .i64 t177,.int .i64 t178,.slice Ao98 t179.length co98]] rfl (by (try simp only [List.map_toArray,List.map_cons,List.map_nil]);first|done|rfl|(simp only [List.length_drop,List.length_take];rfl)) ?_;(with_reducible refine (parse_Print.calls t177 t178 _ _ t179 t183 _ ?side1 ?side2 A5.out (Tabs.below HT.out (by repeat (first|(with_reducible first|exact HB.out|apply qai|apply qaa|apply qah|refine qae ?_ GE175.out|refine qae ?_ GE182.out)|exact HB.out)))).mono ?_);(case side1=>refine (Kd.N_reads' (e:=52) (base:=w.heap.size) (ok:=fun k_=>(k_≠gb175∧k_≠gb182)) (n:=t179.length) (c:=co98) ?_).2.2;exact (by (with_reducible repeat (first|apply Kd.N_alloc|apply Kd.N_drewN|apply Kd.N_drew));exact (Kd.N_mono (Kd.N_far (p:=⟨gb182,2,none⟩) (Kd.N_far (p:=⟨gb182,1,none⟩) (Kd.N_far (p:=⟨gb182,0,none⟩) (Kd.N_mono HO181.out (fun k_ hk=>(⟨hk,hk.2⟩:_∧k_≠gb182))) (fun _ hk=>hk.2) (.int .i64 t177)) (fun _ hk=>hk.2) (.int .i64 t178)) (fun _ hk=>hk.2) (.slice Ao98 t179.length co98)) (fun _ h_=>h_.1))));(case side2=>exact (Kd.N_reads' HO181.out).2.1);rintro e w99 ⟨rfl,hb⟩;refine⟨_,rfl,?_⟩;have n0_:=qaj.mk (Kd.N_below (by (with_reducible repeat (first|apply Kd.N_alloc|apply Kd.N_drewN|apply Kd.N_drew));exact (Kd.N_mono (Kd.N_far (p:=⟨gb182,2,none⟩) (Kd.N_far (p:=⟨gb182,1,none⟩) (Kd.N_far (p:=⟨gb182,0,none⟩) (Kd.N_mono HO181.out (fun k_ hk=>(⟨hk,hk.2⟩:_∧k_≠gb182))) (fun _ hk=>hk.2) (.int .i64 t177)) (fun _ hk=>hk.2) (.int .i64 t178)) (fun _ hk=>hk.2) (.slice Ao98 t179.length co98)) (fun _ h_=>h_.1))) hb);have n1_:=qaj.mk (qal (g:=gb175) (o:=.cells #[.int .i64 a0_0,.int .i64 a0_1,.slice A0_2 l0_2.length c0_2] 24 (0,0)) (by (with_reducible repeat (first|refine qad ?_ _|refine qag ?_|refine qab ?_ _));refine qaq ?_ NB175_182.out _;(with_reducible repeat (first|refine qad ?_ _|refine qag ?_|refine qab ?_ _));refine qaq ?_ NB175_182.out _;(with_reducible repeat (first|refine qad ?_ _|refine qag ?_|refine qab ?_ _));refine qaq ?_ NB175_182.out _;(with_reducible repeat (first|refine qad ?_ _|refine qag ?_|refine qab ?_ _));exact BK175.out) hb);have n2_:=qaj.mk (qal (g:=gb182) (o:=.cells #[.int .i64 t177,.int .i64 t178,.slice Ao98 t179.length co98] 32 (0,0)) (by (with_reducible repeat (first|refine qad ?_ _|refine qag ?_|refine qab ?_ _));refine qat (cs:=#[.int .i64 t177,.int .i64 t178,.slice none 0 0]) ?_ 2 _ rfl;(with_reducible repeat (first|refine qad ?_ _|refine qag ?_|refine qab ?_ _));refine qat (cs:=#[.int .i64 t177,.int .i64 0,.slice none 0 0]) ?_ 1 _ rfl;(with_reducible repeat (first|refine qad ?_ _|refine qag ?_|refine qab ?_ _));refine qat (cs:=#[.int .i64 0,.int .i64 0,.slice none 0 0]) ?_ 0 _ rfl;(with_reducible repeat (first|refine qad ?_ _|refine qag ?_|refine qab ?_ _));exact BK182.out) hb);have n3_:=qaj.mk (qam (by repeat (first|(with_reducible first|exact HB.out|apply qai|apply qaa|apply qah|refine qae ?_ GE175.out|refine qae ?_ GE182.out)|exact HB.out)) hb);clear HO181;clear BK175;clear BK182;clear HB;have HO181:=n0_;have BK175:=n1_;have BK182:=n2_;have HB:=n3_;clear n0_ n1_ n2_ n3_;(try clear hb);(try clear hb2);(try clear hk);(try clear hi))|((with_reducible refine qau (f:=12) rfl ?_);refine qaJ (some 34) rfl rfl Tryd.func12 (by kernel_rfl) rfl #[.string (t183.extract 0 ((ji16):Int).toNat)] rfl (by (try simp only [List.map_toArray,List.map_cons,List.map_nil]);first|done|(simp only [hji16];rfl)|rfl|(simp only [List.length_drop,List.length_take];rfl)) ?_;(with_reducible refine (parse_Parse.calls (t183.extract 0 ((ji16):Int).toNat) t184 t185 t186 t189 t190 _ A19.out (Tabs.below HT.out (by repeat (first|(with_reducible first|exact HB.out|apply qai|apply qaa|apply qah|refine qae ?_ GE175.out|refine qae ?_ GE182.out)|exact HB.out)))).mono ?_);rintro e w100 ⟨v187,rfl,ho0,hb⟩;refine⟨_,rfl,?_⟩;have n0_:=qaj.mk (Kd.N_elder' (by (with_reducible repeat (first|apply Kd.N_alloc|apply Kd.N_drewN|apply Kd.N_drew));exact HO181.out) (Kd.S_base ho0) hb);have n1_:=qaj.mk (Kd.N_lower (Kd.N_mono (ok':=fun k_=>some k_≠(.slice Ao98 t179.length co98:Value).ownBlock∧k_≠gb175∧k_≠gb182) (Kd.S_N (Kd.S_bound ho0)) (fun k_ hk_=>⟨(Kd.fresh' (Kd.N_lt (by (with_reducible repeat (first|apply Kd.N_alloc|apply Kd.N_drewN|apply Kd.N_drew));exact HO181.out)) k_ hk_.2.1),(Kd.freshB (g:=gb175) (o:=.cells #[.int .i64 a0_0,.int .i64 a0_1,.slice A0_2 l0_2.length c0_2] 24 (0,0)) (by (with_reducible repeat (first|refine qad ?_ _|refine qag ?_|refine qab ?_ _));exact BK175.out) k_ hk_.2.1),(Kd.freshB (g:=gb182) (o:=.cells #[.int .i64 t177,.int .i64 t178,.slice Ao98 t179.length co98] 32 (0,0)) (by (with_reducible repeat (first|refine qad ?_ _|refine qag ?_|refine qab ?_ _));exact BK182.out) k_ hk_.2.1)⟩)) (qak (by repeat (first|(with_reducible first|exact HB.out|apply qai|apply qaa|apply qah|refine qae ?_ GE175.out|refine qae ?_ GE182.out)|exact HB.out))));have n2_:=qaj.mk (qal (g:=gb175) (o:=.cells #[.int .i64 a0_0,.int .i64 a0_1,.slice A0_2 l0_2.length c0_2] 24 (0,0)) (by (with_reducible repeat (first|refine qad ?_ _|refine qag ?_|refine qab ?_ _));exact BK175.out) hb);have n3_:=qaj.mk (qal (g:=gb182) (o:=.cells #[.int .i64 t177,.int .i64 t178,.slice Ao98 t179.length co98] 32 (0,0)) (by (with_reducible repeat (first|refine qad ?_ _|refine qag ?_|refine qab ?_ _));exact BK182.out) hb);have n4_:=qaj.mk (qam (by repeat (first|(with_reducible first|exact HB.out|apply qai|apply qaa|apply qah|refine qae ?_ GE175.out|refine qae ?_ GE182.out)|exact HB.out)) hb);clear HO181;clear BK175;clear BK182;clear HB;have HO181:=n0_;have HO188:=n1_;have BK175:=n2_;have BK182:=n3_;have HB:=n4_;clear n0_ n1_ n2_ n3_ n4_;(try clear hb);(try clear hb2);(try clear hk);(try clear hi);(try clear ho0))|((with_reducible refine qaE (N:=9) rfl ?_);(try (refine qaD (by rfl) ?_;dsimp only));refine qaA ?hg (N:=9) ?hd (cs:=#[.int .i64 0,.int .i64 0,.slice none 0 0]) (t:=32) ?hr ?_;(case hd=>rfl);(case hg=>rfl);(case hr=>first|(go_simp;done)|(go_simp;rfl));intro gb191 hg w101 hbox hb;have n0_:=qaj.mk (Kd.N_below (Kd.N_elderB (by (with_reducible repeat (first|apply Kd.N_alloc|apply Kd.N_drewN|apply Kd.N_drew));exact HO181.out) gb191 (Nat.le_of_eq hg.symm)) hb);have n1_:=qaj.mk (Kd.N_below (Kd.N_elderB (by (with_reducible repeat (first|apply Kd.N_alloc|apply Kd.N_drewN|apply Kd.N_drew));exact HO188.out) gb191 (Nat.le_of_eq hg.symm)) hb);have n2_:=qaj.mk (qal (g:=gb175) (o:=.cells #[.int .i64 a0_0,.int .i64 a0_1,.slice A0_2 l0_2.length c0_2] 24 (0,0)) (by (with_reducible repeat (first|refine qad ?_ _|refine qag ?_|refine qab ?_ _));exact BK175.out) hb);have n3_:=qaj.mk (qal (g:=gb182) (o:=.cells #[.int .i64 t177,.int .i64 t178,.slice Ao98 t179.length co98] 32 (0,0)) (by (with_reducible repeat (first|refine qad ?_ _|refine qag ?_|refine qab ?_ _));exact BK182.out) hb);have n4_:=qaj.mk (qam (by repeat (first|(with_reducible first|exact HB.out|apply qai|apply qaa|apply qah|refine qae ?_ GE175.out|refine qae ?_ GE182.out)|exact HB.out)) hb);have n5_:=qaj.mk (hbox);have n6_:=qaj.mk ((by rw [hg];exact (qak (by repeat (first|(with_reducible first|exact HB.out|apply qai|apply qaa|apply qah|refine qae ?_ GE175.out|refine qae ?_ GE182.out)|exact HB.out))):w.heap.size≤gb191));have n7_:=qaj.mk ((by rw [hg];exact (qak (by repeat (first|(with_reducible first|exact HB.out|apply qai|apply qaa|apply qah|refine qae ?_ GE175.out|refine qae ?_ GE182.out)|exact HB.out))):w.heap.size≤gb191));have n8_:=qaj.mk ((by rw [hg];exact Nat.ne_of_lt (qax (g:=gb175) (o:=.cells #[.int .i64 a0_0,.int .i64 a0_1,.slice A0_2 l0_2.length c0_2] 24 (0,0)) (by (with_reducible repeat (first|refine qad ?_ _|refine qag ?_|refine qab ?_ _));exact BK175.out)):gb175≠gb191));have n9_:=qaj.mk ((by rw [hg];exact Nat.ne_of_gt (qax (g:=gb175) (o:=.cells #[.int .i64 a0_0,.int .i64 a0_1,.slice A0_2 l0_2.length c0_2] 24 (0,0)) (by (with_reducible repeat (first|refine qad ?_ _|refine qag ?_|refine qab ?_ _));exact BK175.out)):gb191≠gb175));have n10_:=qaj.mk ((by rw [hg];exact Nat.ne_of_lt (qax (g:=gb182) (o:=.cells #[.int .i64 t177,.int .i64 t178,.slice Ao98 t179.length co98] 32 (0,0)) (by (with_reducible repeat (first|refine qad ?_ _|refine qag ?_|refine qab ?_ _));exact BK182.out)):gb182≠gb191));have n11_:=qaj.mk ((by rw [hg];exact Nat.ne_of_gt (qax (g:=gb182) (o:=.cells #[.int .i64 t177,.int .i64 t178,.slice Ao98 t179.length co98] 32 (0,0)) (by (with_reducible repeat (first|refine qad ?_ _|refine qag ?_|refine qab ?_ _));exact BK182.out)):gb191≠gb182));clear HO181;clear HO188;clear BK175;clear BK182;clear HB;have HO181:=n0_;have HO188:=n1_;have BK175:=n2_;have BK182:=n3_;have HB:=n4_;have BK191:=n5_;have GW191:=n6_;have GE191:=n7_;have NB175_191:=n8_;have NB191_175:=n9_;have NB182_191:=n10_;have NB191_182:=n11_;clear n0_ n1_ n2_ n3_ n4_ n5_ n6_ n7_ n8_ n9_ n10_ n11_;clear hb hbox hg;have hnb102:=NB191_175.out;have hnc102:=NB175_191.out;have hnb103:=NB191_182.out;have hnc103:=NB182_191.out;have hcz104_0:w101.cell? ⟨gb191,0,none⟩=some (.int .i64 0):=(qaf BK191.out 0).trans rfl;have hcz104_1:w101.cell? ⟨gb191,1,none⟩=some (.int .i64 0):=(qaf BK191.out 1).trans rfl;have hcz104_2:w101.cell? ⟨gb191,2,none⟩=some (.slice none 0 0):=(qaf BK191.out 2).trans rfl;have hfz104_0:=qac BK191.out 0;have hfz104_1:=qac BK191.out 1;have hfz104_2:=qac BK191.out 2;obtain⟨Ao105,co105,eo105⟩:=Kd.N_slice HO188.out;subst eo105))
       go_ret
       exact⟨by first|rfl|(simp [qao,qan]<;>rfl)|(simp [bneNil,bneNilU]<;>rfl)|(simp only [← hji16];first|rfl|(simp [qao,qan]<;>rfl))|(simp [*,qao,qan]<;>rfl),by repeat (first|(with_reducible first|exact HB.out|apply qai|apply qaa|apply qah|refine qae ?_ GE175.out|refine qae ?_ GE182.out|refine qae ?_ GE191.out)|exact HB.out)⟩
     ·replace c21:=Bool.eq_false_iff.mpr c21
      subst c21
      have H1:(some false)=some r:=by rw [if_neg (show ¬ (false=true) by decide)] at H;exact H
      clear H
      have H:=H1
      clear H1
      obtain rfl:=Option.some.inj H
      go_enter Tryd.func7,Tryd.ntmps7
      go_wp2_with (first|((with_reducible refine qaE (N:=2) rfl ?_);(try (refine qaD (by rfl) ?_;dsimp only));refine qaA ?hg (N:=2) ?hd (cs:=#[.int .i64 a0_0,.int .i64 a0_1,.slice A0_2 l0_2.length c0_2]) (t:=24) ?hr ?_;(case hd=>rfl);(case hg=>rfl);(case hr=>first|(go_simp;done)|(go_simp;rfl));intro gb175 hg w106 hbox hb;have n0_:=qaj.mk (qam (by repeat (first|(with_reducible first|exact HB.out|apply qai|apply qaa|apply qah)|exact HB.out)) hb);have n1_:=qaj.mk (hbox);have n2_:=qaj.mk ((by rw [hg];exact (qak (by repeat (first|(with_reducible first|exact HB.out|apply qai|apply qaa|apply qah)|exact HB.out))):w.heap.size≤gb175));have n3_:=qaj.mk ((by rw [hg];exact (qak (by repeat (first|(with_reducible first|exact HB.out|apply qai|apply qaa|apply qah)|exact HB.out))):w.heap.size≤gb175));clear HB;have HB:=n0_;have BK175:=n1_;have GW175:=n2_;have GE175:=n3_;clear n0_ n1_ n2_ n3_;clear hb hbox hg)|((with_reducible refine qau (f:=8) rfl ?_);refine qaJ (some 12) rfl rfl Tryd.func8 (by kernel_rfl) rfl #[] rfl (by (try simp only [List.map_toArray,List.map_cons,List.map_nil]);first|done|rfl|(simp only [List.length_drop,List.length_take];rfl)) ?_;(with_reducible refine (ostinatolaw07_awake.calls  false _ A3.out (Tabs.below HT.out (by repeat (first|(with_reducible first|exact HB.out|apply qai|apply qaa|apply qah|refine qae ?_ GE175.out)|exact HB.out)))).mono ?_);rintro e w107 ⟨rfl,hb⟩;refine⟨_,rfl,?_⟩;have n0_:=qaj.mk (qal (g:=gb175) (o:=.cells #[.int .i64 a0_0,.int .i64 a0_1,.slice A0_2 l0_2.length c0_2] 24 (0,0)) (by (with_reducible repeat (first|refine qad ?_ _|refine qag ?_|refine qab ?_ _));exact BK175.out) hb);have n1_:=qaj.mk (qam (by repeat (first|(with_reducible first|exact HB.out|apply qai|apply qaa|apply qah|refine qae ?_ GE175.out)|exact HB.out)) hb);clear BK175;clear HB;have BK175:=n0_;have HB:=n1_;clear n0_ n1_;(try clear hb);(try clear hb2);(try clear hk);(try clear hi);have hcz108_0:w107.cell? ⟨gb175,0,none⟩=some (.int .i64 a0_0):=(qaf BK175.out 0).trans rfl;have hcz108_1:w107.cell? ⟨gb175,1,none⟩=some (.int .i64 a0_1):=(qaf BK175.out 1).trans rfl;have hcz108_2:w107.cell? ⟨gb175,2,none⟩=some (.slice A0_2 l0_2.length c0_2):=(qaf BK175.out 2).trans rfl;have hfz108_0:=qac BK175.out 0;have hfz108_1:=qac BK175.out 1;have hfz108_2:=qac BK175.out 2)|((with_reducible refine qau (f:=11) rfl ?_);refine qaJ (some 14) rfl rfl Tryd.func11 (by kernel_rfl) rfl #[.agg #[.int .i64 a0_0,.int .i64 a0_1,.slice A0_2 l0_2.length c0_2]] rfl (by (try simp only [List.map_toArray,List.map_cons,List.map_nil]);first|done|rfl|(simp only [List.length_drop,List.length_take];rfl)) ?_;(with_reducible refine (ostinatolaw07_Sys_made.calls k a0_0 a0_1 (fun k_=>k_<w.heap.size) _ _ l0_2 t177 t178 t179 _ ?side1 A4.out).mono ?_);(case side1=>exact Kd.V_mk HC0_2.out (Kd.F_below (Kd.C_F k60_heap HR0_2.out) (by repeat (first|(with_reducible first|exact HB.out|apply qai|apply qaa|apply qah|refine qae ?_ GE175.out)|exact HB.out))));rintro e w109 ⟨v180,rfl,ho0,hb⟩;refine⟨_,rfl,?_⟩;have n0_:=qaj.mk (Kd.N_lower (Kd.N_mono (ok':=fun k_=>k_≠gb175) ho0 (fun k_ hk_=>Or.elim hk_ (fun hs_=>fun e_=>Nat.not_le.2 hs_ (by rw [e_];exact GW175.out)) (fun hn_=>(Kd.freshB (g:=gb175) (o:=.cells #[.int .i64 a0_0,.int .i64 a0_1,.slice A0_2 l0_2.length c0_2] 24 (0,0)) (by (with_reducible repeat (first|refine qad ?_ _|refine qag ?_|refine qab ?_ _));exact BK175.out) k_ hn_)))) (qak (by repeat (first|(with_reducible first|exact HB.out|apply qai|apply qaa|apply qah|refine qae ?_ GE175.out)|exact HB.out))));have n1_:=qaj.mk (qal (g:=gb175) (o:=.cells #[.int .i64 a0_0,.int .i64 a0_1,.slice A0_2 l0_2.length c0_2] 24 (0,0)) (by (with_reducible repeat (first|refine qad ?_ _|refine qag ?_|refine qab ?_ _));exact BK175.out) hb);have n2_:=qaj.mk (qam (by repeat (first|(with_reducible first|exact HB.out|apply qai|apply qaa|apply qah|refine qae ?_ GE175.out)|exact HB.out)) hb);clear BK175;clear HB;have HO181:=n0_;have BK175:=n1_;have HB:=n2_;clear n0_ n1_ n2_;(try clear hb);(try clear hb2);(try clear hk);(try clear hi);(try clear ho0))|((with_reducible refine qaE (N:=6) rfl ?_);(try (refine qaD (by rfl) ?_;dsimp only));refine qaA ?hg (N:=6) ?hd (cs:=#[.int .i64 0,.int .i64 0,.slice none 0 0]) (t:=32) ?hr ?_;(case hd=>rfl);(case hg=>rfl);(case hr=>first|(go_simp;done)|(go_simp;rfl));intro gb182 hg w110 hbox hb;have n0_:=qaj.mk (Kd.N_below (Kd.N_elderB (by (with_reducible repeat (first|apply Kd.N_alloc|apply Kd.N_drewN|apply Kd.N_drew));exact HO181.out) gb182 (Nat.le_of_eq hg.symm)) hb);have n1_:=qaj.mk (qal (g:=gb175) (o:=.cells #[.int .i64 a0_0,.int .i64 a0_1,.slice A0_2 l0_2.length c0_2] 24 (0,0)) (by (with_reducible repeat (first|refine qad ?_ _|refine qag ?_|refine qab ?_ _));exact BK175.out) hb);have n2_:=qaj.mk (qam (by repeat (first|(with_reducible first|exact HB.out|apply qai|apply qaa|apply qah|refine qae ?_ GE175.out)|exact HB.out)) hb);have n3_:=qaj.mk (hbox);have n4_:=qaj.mk ((by rw [hg];exact (qak (by repeat (first|(with_reducible first|exact HB.out|apply qai|apply qaa|apply qah|refine qae ?_ GE175.out)|exact HB.out))):w.heap.size≤gb182));have n5_:=qaj.mk ((by rw [hg];exact (qak (by repeat (first|(with_reducible first|exact HB.out|apply qai|apply qaa|apply qah|refine qae ?_ GE175.out)|exact HB.out))):w.heap.size≤gb182));have n6_:=qaj.mk ((by rw [hg];exact Nat.ne_of_lt (qax (g:=gb175) (o:=.cells #[.int .i64 a0_0,.int .i64 a0_1,.slice A0_2 l0_2.length c0_2] 24 (0,0)) (by (with_reducible repeat (first|refine qad ?_ _|refine qag ?_|refine qab ?_ _));exact BK175.out)):gb175≠gb182));have n7_:=qaj.mk ((by rw [hg];exact Nat.ne_of_gt (qax (g:=gb175) (o:=.cells #[.int .i64 a0_0,.int .i64 a0_1,.slice A0_2 l0_2.length c0_2] 24 (0,0)) (by (with_reducible repeat (first|refine qad ?_ _|refine qag ?_|refine qab ?_ _));exact BK175.out)):gb182≠gb175));clear HO181;clear BK175;clear HB;have HO181:=n0_;have BK175:=n1_;have HB:=n2_;have BK182:=n3_;have GW182:=n4_;have GE182:=n5_;have NB175_182:=n6_;have NB182_175:=n7_;clear n0_ n1_ n2_ n3_ n4_ n5_ n6_ n7_;clear hb hbox hg;have hnb111:=NB182_175.out;have hnc111:=NB175_182.out;have hcz112_0:w110.cell? ⟨gb182,0,none⟩=some (.int .i64 0):=(qaf BK182.out 0).trans rfl;have hcz112_1:w110.cell? ⟨gb182,1,none⟩=some (.int .i64 0):=(qaf BK182.out 1).trans rfl;have hcz112_2:w110.cell? ⟨gb182,2,none⟩=some (.slice none 0 0):=(qaf BK182.out 2).trans rfl;have hfz112_0:=qac BK182.out 0;have hfz112_1:=qac BK182.out 1;have hfz112_2:=qac BK182.out 2;obtain⟨Ao113,co113,eo113⟩:=Kd.N_slice HO181.out;subst eo113)|((with_reducible refine qau (f:=15) rfl ?_);refine qaJ (some 16) rfl rfl Tryd.func15 (by kernel_rfl) rfl #[.agg #[.int .i64 t177,.int .i64 t178,.slice Ao113 t179.length co113]] rfl (by (try simp only [List.map_toArray,List.map_cons,List.map_nil]);first|done|rfl|(simp only [List.length_drop,List.length_take];rfl)) ?_;(with_reducible refine (parse_Print.calls t177 t178 _ _ t179 t183 _ ?side1 ?side2 A5.out (Tabs.below HT.out (by repeat (first|(with_reducible first|exact HB.out|apply qai|apply qaa|apply qah|refine qae ?_ GE175.out|refine qae ?_ GE182.out)|exact HB.out)))).mono ?_);(case side1=>refine (Kd.N_reads' (e:=52) (base:=w.heap.size) (ok:=fun k_=>(k_≠gb175∧k_≠gb182)) (n:=t179.length) (c:=co113) ?_).2.2;exact (by (with_reducible repeat (first|apply Kd.N_alloc|apply Kd.N_drewN|apply Kd.N_drew));exact (Kd.N_mono (Kd.N_far (p:=⟨gb182,2,none⟩) (Kd.N_far (p:=⟨gb182,1,none⟩) (Kd.N_far (p:=⟨gb182,0,none⟩) (Kd.N_mono HO181.out (fun k_ hk=>(⟨hk,hk.2⟩:_∧k_≠gb182))) (fun _ hk=>hk.2) (.int .i64 t177)) (fun _ hk=>hk.2) (.int .i64 t178)) (fun _ hk=>hk.2) (.slice Ao113 t179.length co113)) (fun _ h_=>h_.1))));(case side2=>exact (Kd.N_reads' HO181.out).2.1);rintro e w114 ⟨rfl,hb⟩;refine⟨_,rfl,?_⟩;have n0_:=qaj.mk (Kd.N_below (by (with_reducible repeat (first|apply Kd.N_alloc|apply Kd.N_drewN|apply Kd.N_drew));exact (Kd.N_mono (Kd.N_far (p:=⟨gb182,2,none⟩) (Kd.N_far (p:=⟨gb182,1,none⟩) (Kd.N_far (p:=⟨gb182,0,none⟩) (Kd.N_mono HO181.out (fun k_ hk=>(⟨hk,hk.2⟩:_∧k_≠gb182))) (fun _ hk=>hk.2) (.int .i64 t177)) (fun _ hk=>hk.2) (.int .i64 t178)) (fun _ hk=>hk.2) (.slice Ao113 t179.length co113)) (fun _ h_=>h_.1))) hb);have n1_:=qaj.mk (qal (g:=gb175) (o:=.cells #[.int .i64 a0_0,.int .i64 a0_1,.slice A0_2 l0_2.length c0_2] 24 (0,0)) (by (with_reducible repeat (first|refine qad ?_ _|refine qag ?_|refine qab ?_ _));refine qaq ?_ NB175_182.out _;(with_reducible repeat (first|refine qad ?_ _|refine qag ?_|refine qab ?_ _));refine qaq ?_ NB175_182.out _;(with_reducible repeat (first|refine qad ?_ _|refine qag ?_|refine qab ?_ _));refine qaq ?_ NB175_182.out _;(with_reducible repeat (first|refine qad ?_ _|refine qag ?_|refine qab ?_ _));exact BK175.out) hb);have n2_:=qaj.mk (qal (g:=gb182) (o:=.cells #[.int .i64 t177,.int .i64 t178,.slice Ao113 t179.length co113] 32 (0,0)) (by (with_reducible repeat (first|refine qad ?_ _|refine qag ?_|refine qab ?_ _));refine qat (cs:=#[.int .i64 t177,.int .i64 t178,.slice none 0 0]) ?_ 2 _ rfl;(with_reducible repeat (first|refine qad ?_ _|refine qag ?_|refine qab ?_ _));refine qat (cs:=#[.int .i64 t177,.int .i64 0,.slice none 0 0]) ?_ 1 _ rfl;(with_reducible repeat (first|refine qad ?_ _|refine qag ?_|refine qab ?_ _));refine qat (cs:=#[.int .i64 0,.int .i64 0,.slice none 0 0]) ?_ 0 _ rfl;(with_reducible repeat (first|refine qad ?_ _|refine qag ?_|refine qab ?_ _));exact BK182.out) hb);have n3_:=qaj.mk (qam (by repeat (first|(with_reducible first|exact HB.out|apply qai|apply qaa|apply qah|refine qae ?_ GE175.out|refine qae ?_ GE182.out)|exact HB.out)) hb);clear HO181;clear BK175;clear BK182;clear HB;have HO181:=n0_;have BK175:=n1_;have BK182:=n2_;have HB:=n3_;clear n0_ n1_ n2_ n3_;(try clear hb);(try clear hb2);(try clear hk);(try clear hi))|((with_reducible refine qau (f:=12) rfl ?_);refine qaJ (some 34) rfl rfl Tryd.func12 (by kernel_rfl) rfl #[.string (t183.extract 0 ((ji16):Int).toNat)] rfl (by (try simp only [List.map_toArray,List.map_cons,List.map_nil]);first|done|(simp only [hji16];rfl)|rfl|(simp only [List.length_drop,List.length_take];rfl)) ?_;(with_reducible refine (parse_Parse.calls (t183.extract 0 ((ji16):Int).toNat) t184 t185 t186 t189 t190 _ A19.out (Tabs.below HT.out (by repeat (first|(with_reducible first|exact HB.out|apply qai|apply qaa|apply qah|refine qae ?_ GE175.out|refine qae ?_ GE182.out)|exact HB.out)))).mono ?_);rintro e w115 ⟨v187,rfl,ho0,hb⟩;refine⟨_,rfl,?_⟩;have n0_:=qaj.mk (Kd.N_elder' (by (with_reducible repeat (first|apply Kd.N_alloc|apply Kd.N_drewN|apply Kd.N_drew));exact HO181.out) (Kd.S_base ho0) hb);have n1_:=qaj.mk (Kd.N_lower (Kd.N_mono (ok':=fun k_=>some k_≠(.slice Ao113 t179.length co113:Value).ownBlock∧k_≠gb175∧k_≠gb182) (Kd.S_N (Kd.S_bound ho0)) (fun k_ hk_=>⟨(Kd.fresh' (Kd.N_lt (by (with_reducible repeat (first|apply Kd.N_alloc|apply Kd.N_drewN|apply Kd.N_drew));exact HO181.out)) k_ hk_.2.1),(Kd.freshB (g:=gb175) (o:=.cells #[.int .i64 a0_0,.int .i64 a0_1,.slice A0_2 l0_2.length c0_2] 24 (0,0)) (by (with_reducible repeat (first|refine qad ?_ _|refine qag ?_|refine qab ?_ _));exact BK175.out) k_ hk_.2.1),(Kd.freshB (g:=gb182) (o:=.cells #[.int .i64 t177,.int .i64 t178,.slice Ao113 t179.length co113] 32 (0,0)) (by (with_reducible repeat (first|refine qad ?_ _|refine qag ?_|refine qab ?_ _));exact BK182.out) k_ hk_.2.1)⟩)) (qak (by repeat (first|(with_reducible first|exact HB.out|apply qai|apply qaa|apply qah|refine qae ?_ GE175.out|refine qae ?_ GE182.out)|exact HB.out))));have n2_:=qaj.mk (qal (g:=gb175) (o:=.cells #[.int .i64 a0_0,.int .i64 a0_1,.slice A0_2 l0_2.length c0_2] 24 (0,0)) (by (with_reducible repeat (first|refine qad ?_ _|refine qag ?_|refine qab ?_ _));exact BK175.out) hb);have n3_:=qaj.mk (qal (g:=gb182) (o:=.cells #[.int .i64 t177,.int .i64 t178,.slice Ao113 t179.length co113] 32 (0,0)) (by (with_reducible repeat (first|refine qad ?_ _|refine qag ?_|refine qab ?_ _));exact BK182.out) hb);have n4_:=qaj.mk (qam (by repeat (first|(with_reducible first|exact HB.out|apply qai|apply qaa|apply qah|refine qae ?_ GE175.out|refine qae ?_ GE182.out)|exact HB.out)) hb);clear HO181;clear BK175;clear BK182;clear HB;have HO181:=n0_;have HO188:=n1_;have BK175:=n2_;have BK182:=n3_;have HB:=n4_;clear n0_ n1_ n2_ n3_ n4_;(try clear hb);(try clear hb2);(try clear hk);(try clear hi);(try clear ho0))|((with_reducible refine qaE (N:=9) rfl ?_);(try (refine qaD (by rfl) ?_;dsimp only));refine qaA ?hg (N:=9) ?hd (cs:=#[.int .i64 0,.int .i64 0,.slice none 0 0]) (t:=32) ?hr ?_;(case hd=>rfl);(case hg=>rfl);(case hr=>first|(go_simp;done)|(go_simp;rfl));intro gb191 hg w116 hbox hb;have n0_:=qaj.mk (Kd.N_below (Kd.N_elderB (by (with_reducible repeat (first|apply Kd.N_alloc|apply Kd.N_drewN|apply Kd.N_drew));exact HO181.out) gb191 (Nat.le_of_eq hg.symm)) hb);have n1_:=qaj.mk (Kd.N_below (Kd.N_elderB (by (with_reducible repeat (first|apply Kd.N_alloc|apply Kd.N_drewN|apply Kd.N_drew));exact HO188.out) gb191 (Nat.le_of_eq hg.symm)) hb);have n2_:=qaj.mk (qal (g:=gb175) (o:=.cells #[.int .i64 a0_0,.int .i64 a0_1,.slice A0_2 l0_2.length c0_2] 24 (0,0)) (by (with_reducible repeat (first|refine qad ?_ _|refine qag ?_|refine qab ?_ _));exact BK175.out) hb);have n3_:=qaj.mk (qal (g:=gb182) (o:=.cells #[.int .i64 t177,.int .i64 t178,.slice Ao113 t179.length co113] 32 (0,0)) (by (with_reducible repeat (first|refine qad ?_ _|refine qag ?_|refine qab ?_ _));exact BK182.out) hb);have n4_:=qaj.mk (qam (by repeat (first|(with_reducible first|exact HB.out|apply qai|apply qaa|apply qah|refine qae ?_ GE175.out|refine qae ?_ GE182.out)|exact HB.out)) hb);have n5_:=qaj.mk (hbox);have n6_:=qaj.mk ((by rw [hg];exact (qak (by repeat (first|(with_reducible first|exact HB.out|apply qai|apply qaa|apply qah|refine qae ?_ GE175.out|refine qae ?_ GE182.out)|exact HB.out))):w.heap.size≤gb191));have n7_:=qaj.mk ((by rw [hg];exact (qak (by repeat (first|(with_reducible first|exact HB.out|apply qai|apply qaa|apply qah|refine qae ?_ GE175.out|refine qae ?_ GE182.out)|exact HB.out))):w.heap.size≤gb191));have n8_:=qaj.mk ((by rw [hg];exact Nat.ne_of_lt (qax (g:=gb175) (o:=.cells #[.int .i64 a0_0,.int .i64 a0_1,.slice A0_2 l0_2.length c0_2] 24 (0,0)) (by (with_reducible repeat (first|refine qad ?_ _|refine qag ?_|refine qab ?_ _));exact BK175.out)):gb175≠gb191));have n9_:=qaj.mk ((by rw [hg];exact Nat.ne_of_gt (qax (g:=gb175) (o:=.cells #[.int .i64 a0_0,.int .i64 a0_1,.slice A0_2 l0_2.length c0_2] 24 (0,0)) (by (with_reducible repeat (first|refine qad ?_ _|refine qag ?_|refine qab ?_ _));exact BK175.out)):gb191≠gb175));have n10_:=qaj.mk ((by rw [hg];exact Nat.ne_of_lt (qax (g:=gb182) (o:=.cells #[.int .i64 t177,.int .i64 t178,.slice Ao113 t179.length co113] 32 (0,0)) (by (with_reducible repeat (first|refine qad ?_ _|refine qag ?_|refine qab ?_ _));exact BK182.out)):gb182≠gb191));have n11_:=qaj.mk ((by rw [hg];exact Nat.ne_of_gt (qax (g:=gb182) (o:=.cells #[.int .i64 t177,.int .i64 t178,.slice Ao113 t179.length co113] 32 (0,0)) (by (with_reducible repeat (first|refine qad ?_ _|refine qag ?_|refine qab ?_ _));exact BK182.out)):gb191≠gb182));clear HO181;clear HO188;clear BK175;clear BK182;clear HB;have HO181:=n0_;have HO188:=n1_;have BK175:=n2_;have BK182:=n3_;have HB:=n4_;have BK191:=n5_;have GW191:=n6_;have GE191:=n7_;have NB175_191:=n8_;have NB191_175:=n9_;have NB182_191:=n10_;have NB191_182:=n11_;clear n0_ n1_ n2_ n3_ n4_ n5_ n6_ n7_ n8_ n9_ n10_ n11_;clear hb hbox hg;have hnb117:=NB191_175.out;have hnc117:=NB175_191.out;have hnb118:=NB191_182.out;have hnc118:=NB182_191.out;have hcz119_0:w116.cell? ⟨gb191,0,none⟩=some (.int .i64 0):=(qaf BK191.out 0).trans rfl;have hcz119_1:w116.cell? ⟨gb191,1,none⟩=some (.int .i64 0):=(qaf BK191.out 1).trans rfl;have hcz119_2:w116.cell? ⟨gb191,2,none⟩=some (.slice none 0 0):=(qaf BK191.out 2).trans rfl;have hfz119_0:=qac BK191.out 0;have hfz119_1:=qac BK191.out 1;have hfz119_2:=qac BK191.out 2;obtain⟨Ao120,co120,eo120⟩:=Kd.N_slice HO188.out;subst eo120))
      go_ret
      exact⟨by first|rfl|(simp [qao,qan]<;>rfl)|(simp [bneNil,bneNilU]<;>rfl)|(simp only [← hji16];first|rfl|(simp [qao,qan]<;>rfl))|(simp [*,qao,qan]<;>rfl),by repeat (first|(with_reducible first|exact HB.out|apply qai|apply qaa|apply qah|refine qae ?_ GE175.out|refine qae ?_ GE182.out|refine qae ?_ GE191.out)|exact HB.out)⟩
    ·rw [if_neg c20] at H
     have c20b0:(t190 == 0)=false:=beq_eq_false_iff_ne.mpr c20
     have c20b1:(t190 != 0)=true:=bne_iff_ne.mpr c20
     by_cases c121:t176=true
     ·subst c121
      have H1:(if t189 ≥ 0 then (some (decide (t189≤(ji16)))) else (some false))=some r:=by rw [if_pos rfl] at H;exact H
      clear H
      have H:=H1
      clear H1
      by_cases c122:t189 ≥ 0
      ·rw [if_pos c122] at H
       have c122b0:decide (0≤t189)=true:=decide_eq_true c122
       clear c122
       obtain rfl:=Option.some.inj H
       go_enter Tryd.func7,Tryd.ntmps7
       go_wp2_with (first|((with_reducible refine qaE (N:=2) rfl ?_);(try (refine qaD (by rfl) ?_;dsimp only));refine qaA ?hg (N:=2) ?hd (cs:=#[.int .i64 a0_0,.int .i64 a0_1,.slice A0_2 l0_2.length c0_2]) (t:=24) ?hr ?_;(case hd=>rfl);(case hg=>rfl);(case hr=>first|(go_simp;done)|(go_simp;rfl));intro gb175 hg w123 hbox hb;have n0_:=qaj.mk (qam (by repeat (first|(with_reducible first|exact HB.out|apply qai|apply qaa|apply qah)|exact HB.out)) hb);have n1_:=qaj.mk (hbox);have n2_:=qaj.mk ((by rw [hg];exact (qak (by repeat (first|(with_reducible first|exact HB.out|apply qai|apply qaa|apply qah)|exact HB.out))):w.heap.size≤gb175));have n3_:=qaj.mk ((by rw [hg];exact (qak (by repeat (first|(with_reducible first|exact HB.out|apply qai|apply qaa|apply qah)|exact HB.out))):w.heap.size≤gb175));clear HB;have HB:=n0_;have BK175:=n1_;have GW175:=n2_;have GE175:=n3_;clear n0_ n1_ n2_ n3_;clear hb hbox hg)|((with_reducible refine qau (f:=8) rfl ?_);refine qaJ (some 12) rfl rfl Tryd.func8 (by kernel_rfl) rfl #[] rfl (by (try simp only [List.map_toArray,List.map_cons,List.map_nil]);first|done|rfl|(simp only [List.length_drop,List.length_take];rfl)) ?_;(with_reducible refine (ostinatolaw07_awake.calls  true _ A3.out (Tabs.below HT.out (by repeat (first|(with_reducible first|exact HB.out|apply qai|apply qaa|apply qah|refine qae ?_ GE175.out)|exact HB.out)))).mono ?_);rintro e w124 ⟨rfl,hb⟩;refine⟨_,rfl,?_⟩;have n0_:=qaj.mk (qal (g:=gb175) (o:=.cells #[.int .i64 a0_0,.int .i64 a0_1,.slice A0_2 l0_2.length c0_2] 24 (0,0)) (by (with_reducible repeat (first|refine qad ?_ _|refine qag ?_|refine qab ?_ _));exact BK175.out) hb);have n1_:=qaj.mk (qam (by repeat (first|(with_reducible first|exact HB.out|apply qai|apply qaa|apply qah|refine qae ?_ GE175.out)|exact HB.out)) hb);clear BK175;clear HB;have BK175:=n0_;have HB:=n1_;clear n0_ n1_;(try clear hb);(try clear hb2);(try clear hk);(try clear hi);have hcz125_0:w124.cell? ⟨gb175,0,none⟩=some (.int .i64 a0_0):=(qaf BK175.out 0).trans rfl;have hcz125_1:w124.cell? ⟨gb175,1,none⟩=some (.int .i64 a0_1):=(qaf BK175.out 1).trans rfl;have hcz125_2:w124.cell? ⟨gb175,2,none⟩=some (.slice A0_2 l0_2.length c0_2):=(qaf BK175.out 2).trans rfl;have hfz125_0:=qac BK175.out 0;have hfz125_1:=qac BK175.out 1;have hfz125_2:=qac BK175.out 2)|((with_reducible refine qau (f:=11) rfl ?_);refine qaJ (some 14) rfl rfl Tryd.func11 (by kernel_rfl) rfl #[.agg #[.int .i64 a0_0,.int .i64 a0_1,.slice A0_2 l0_2.length c0_2]] rfl (by (try simp only [List.map_toArray,List.map_cons,List.map_nil]);first|done|rfl|(simp only [List.length_drop,List.length_take];rfl)) ?_;(with_reducible refine (ostinatolaw07_Sys_made.calls k a0_0 a0_1 (fun k_=>k_<w.heap.size) _ _ l0_2 t177 t178 t179 _ ?side1 A4.out).mono ?_);(case side1=>exact Kd.V_mk HC0_2.out (Kd.F_below (Kd.C_F k60_heap HR0_2.out) (by repeat (first|(with_reducible first|exact HB.out|apply qai|apply qaa|apply qah|refine qae ?_ GE175.out)|exact HB.out))));rintro e w126 ⟨v180,rfl,ho0,hb⟩;refine⟨_,rfl,?_⟩;have n0_:=qaj.mk (Kd.N_lower (Kd.N_mono (ok':=fun k_=>k_≠gb175) ho0 (fun k_ hk_=>Or.elim hk_ (fun hs_=>fun e_=>Nat.not_le.2 hs_ (by rw [e_];exact GW175.out)) (fun hn_=>(Kd.freshB (g:=gb175) (o:=.cells #[.int .i64 a0_0,.int .i64 a0_1,.slice A0_2 l0_2.length c0_2] 24 (0,0)) (by (with_reducible repeat (first|refine qad ?_ _|refine qag ?_|refine qab ?_ _));exact BK175.out) k_ hn_)))) (qak (by repeat (first|(with_reducible first|exact HB.out|apply qai|apply qaa|apply qah|refine qae ?_ GE175.out)|exact HB.out))));have n1_:=qaj.mk (qal (g:=gb175) (o:=.cells #[.int .i64 a0_0,.int .i64 a0_1,.slice A0_2 l0_2.length c0_2] 24 (0,0)) (by (with_reducible repeat (first|refine qad ?_ _|refine qag ?_|refine qab ?_ _));exact BK175.out) hb);have n2_:=qaj.mk (qam (by repeat (first|(with_reducible first|exact HB.out|apply qai|apply qaa|apply qah|refine qae ?_ GE175.out)|exact HB.out)) hb);clear BK175;clear HB;have HO181:=n0_;have BK175:=n1_;have HB:=n2_;clear n0_ n1_ n2_;(try clear hb);(try clear hb2);(try clear hk);(try clear hi);(try clear ho0))|((with_reducible refine qaE (N:=6) rfl ?_);(try (refine qaD (by rfl) ?_;dsimp only));refine qaA ?hg (N:=6) ?hd (cs:=#[.int .i64 0,.int .i64 0,.slice none 0 0]) (t:=32) ?hr ?_;(case hd=>rfl);(case hg=>rfl);(case hr=>first|(go_simp;done)|(go_simp;rfl));intro gb182 hg w127 hbox hb;have n0_:=qaj.mk (Kd.N_below (Kd.N_elderB (by (with_reducible repeat (first|apply Kd.N_alloc|apply Kd.N_drewN|apply Kd.N_drew));exact HO181.out) gb182 (Nat.le_of_eq hg.symm)) hb);have n1_:=qaj.mk (qal (g:=gb175) (o:=.cells #[.int .i64 a0_0,.int .i64 a0_1,.slice A0_2 l0_2.length c0_2] 24 (0,0)) (by (with_reducible repeat (first|refine qad ?_ _|refine qag ?_|refine qab ?_ _));exact BK175.out) hb);have n2_:=qaj.mk (qam (by repeat (first|(with_reducible first|exact HB.out|apply qai|apply qaa|apply qah|refine qae ?_ GE175.out)|exact HB.out)) hb);have n3_:=qaj.mk (hbox);have n4_:=qaj.mk ((by rw [hg];exact (qak (by repeat (first|(with_reducible first|exact HB.out|apply qai|apply qaa|apply qah|refine qae ?_ GE175.out)|exact HB.out))):w.heap.size≤gb182));have n5_:=qaj.mk ((by rw [hg];exact (qak (by repeat (first|(with_reducible first|exact HB.out|apply qai|apply qaa|apply qah|refine qae ?_ GE175.out)|exact HB.out))):w.heap.size≤gb182));have n6_:=qaj.mk ((by rw [hg];exact Nat.ne_of_lt (qax (g:=gb175) (o:=.cells #[.int .i64 a0_0,.int .i64 a0_1,.slice A0_2 l0_2.length c0_2] 24 (0,0)) (by (with_reducible repeat (first|refine qad ?_ _|refine qag ?_|refine qab ?_ _));exact BK175.out)):gb175≠gb182));have n7_:=qaj.mk ((by rw [hg];exact Nat.ne_of_gt (qax (g:=gb175) (o:=.cells #[.int .i64 a0_0,.int .i64 a0_1,.slice A0_2 l0_2.length c0_2] 24 (0,0)) (by (with_reducible repeat (first|refine qad ?_ _|refine qag ?_|refine qab ?_ _));exact BK175.out)):gb182≠gb175));clear HO181;clear BK175;clear HB;have HO181:=n0_;have BK175:=n1_;have HB:=n2_;have BK182:=n3_;have GW182:=n4_;have GE182:=n5_;have NB175_182:=n6_;have NB182_175:=n7_;clear n0_ n1_ n2_ n3_ n4_ n5_ n6_ n7_;clear hb hbox hg;have hnb128:=NB182_175.out;have hnc128:=NB175_182.out;have hcz129_0:w127.cell? ⟨gb182,0,none⟩=some (.int .i64 0):=(qaf BK182.out 0).trans rfl;have hcz129_1:w127.cell? ⟨gb182,1,none⟩=some (.int .i64 0):=(qaf BK182.out 1).trans rfl;have hcz129_2:w127.cell? ⟨gb182,2,none⟩=some (.slice none 0 0):=(qaf BK182.out 2).trans rfl;have hfz129_0:=qac BK182.out 0;have hfz129_1:=qac BK182.out 1;have hfz129_2:=qac BK182.out 2;obtain⟨Ao130,co130,eo130⟩:=Kd.N_slice HO181.out;subst eo130)|((with_reducible refine qau (f:=15) rfl ?_);refine qaJ (some 16) rfl rfl Tryd.func15 (by kernel_rfl) rfl #[.agg #[.int .i64 t177,.int .i64 t178,.slice Ao130 t179.length co130]] rfl (by (try simp only [List.map_toArray,List.map_cons,List.map_nil]);first|done|rfl|(simp only [List.length_drop,List.length_take];rfl)) ?_;(with_reducible refine (parse_Print.calls t177 t178 _ _ t179 t183 _ ?side1 ?side2 A5.out (Tabs.below HT.out (by repeat (first|(with_reducible first|exact HB.out|apply qai|apply qaa|apply qah|refine qae ?_ GE175.out|refine qae ?_ GE182.out)|exact HB.out)))).mono ?_);(case side1=>refine (Kd.N_reads' (e:=52) (base:=w.heap.size) (ok:=fun k_=>(k_≠gb175∧k_≠gb182)) (n:=t179.length) (c:=co130) ?_).2.2;exact (by (with_reducible repeat (first|apply Kd.N_alloc|apply Kd.N_drewN|apply Kd.N_drew));exact (Kd.N_mono (Kd.N_far (p:=⟨gb182,2,none⟩) (Kd.N_far (p:=⟨gb182,1,none⟩) (Kd.N_far (p:=⟨gb182,0,none⟩) (Kd.N_mono HO181.out (fun k_ hk=>(⟨hk,hk.2⟩:_∧k_≠gb182))) (fun _ hk=>hk.2) (.int .i64 t177)) (fun _ hk=>hk.2) (.int .i64 t178)) (fun _ hk=>hk.2) (.slice Ao130 t179.length co130)) (fun _ h_=>h_.1))));(case side2=>exact (Kd.N_reads' HO181.out).2.1);rintro e w131 ⟨rfl,hb⟩;refine⟨_,rfl,?_⟩;have n0_:=qaj.mk (Kd.N_below (by (with_reducible repeat (first|apply Kd.N_alloc|apply Kd.N_drewN|apply Kd.N_drew));exact (Kd.N_mono (Kd.N_far (p:=⟨gb182,2,none⟩) (Kd.N_far (p:=⟨gb182,1,none⟩) (Kd.N_far (p:=⟨gb182,0,none⟩) (Kd.N_mono HO181.out (fun k_ hk=>(⟨hk,hk.2⟩:_∧k_≠gb182))) (fun _ hk=>hk.2) (.int .i64 t177)) (fun _ hk=>hk.2) (.int .i64 t178)) (fun _ hk=>hk.2) (.slice Ao130 t179.length co130)) (fun _ h_=>h_.1))) hb);have n1_:=qaj.mk (qal (g:=gb175) (o:=.cells #[.int .i64 a0_0,.int .i64 a0_1,.slice A0_2 l0_2.length c0_2] 24 (0,0)) (by (with_reducible repeat (first|refine qad ?_ _|refine qag ?_|refine qab ?_ _));refine qaq ?_ NB175_182.out _;(with_reducible repeat (first|refine qad ?_ _|refine qag ?_|refine qab ?_ _));refine qaq ?_ NB175_182.out _;(with_reducible repeat (first|refine qad ?_ _|refine qag ?_|refine qab ?_ _));refine qaq ?_ NB175_182.out _;(with_reducible repeat (first|refine qad ?_ _|refine qag ?_|refine qab ?_ _));exact BK175.out) hb);have n2_:=qaj.mk (qal (g:=gb182) (o:=.cells #[.int .i64 t177,.int .i64 t178,.slice Ao130 t179.length co130] 32 (0,0)) (by (with_reducible repeat (first|refine qad ?_ _|refine qag ?_|refine qab ?_ _));refine qat (cs:=#[.int .i64 t177,.int .i64 t178,.slice none 0 0]) ?_ 2 _ rfl;(with_reducible repeat (first|refine qad ?_ _|refine qag ?_|refine qab ?_ _));refine qat (cs:=#[.int .i64 t177,.int .i64 0,.slice none 0 0]) ?_ 1 _ rfl;(with_reducible repeat (first|refine qad ?_ _|refine qag ?_|refine qab ?_ _));refine qat (cs:=#[.int .i64 0,.int .i64 0,.slice none 0 0]) ?_ 0 _ rfl;(with_reducible repeat (first|refine qad ?_ _|refine qag ?_|refine qab ?_ _));exact BK182.out) hb);have n3_:=qaj.mk (qam (by repeat (first|(with_reducible first|exact HB.out|apply qai|apply qaa|apply qah|refine qae ?_ GE175.out|refine qae ?_ GE182.out)|exact HB.out)) hb);clear HO181;clear BK175;clear BK182;clear HB;have HO181:=n0_;have BK175:=n1_;have BK182:=n2_;have HB:=n3_;clear n0_ n1_ n2_ n3_;(try clear hb);(try clear hb2);(try clear hk);(try clear hi))|((with_reducible refine qau (f:=12) rfl ?_);refine qaJ (some 34) rfl rfl Tryd.func12 (by kernel_rfl) rfl #[.string (t183.extract 0 ((ji16):Int).toNat)] rfl (by (try simp only [List.map_toArray,List.map_cons,List.map_nil]);first|done|(simp only [hji16];rfl)|rfl|(simp only [List.length_drop,List.length_take];rfl)) ?_;(with_reducible refine (parse_Parse.calls (t183.extract 0 ((ji16):Int).toNat) t184 t185 t186 t189 t190 _ A19.out (Tabs.below HT.out (by repeat (first|(with_reducible first|exact HB.out|apply qai|apply qaa|apply qah|refine qae ?_ GE175.out|refine qae ?_ GE182.out)|exact HB.out)))).mono ?_);rintro e w132 ⟨v187,rfl,ho0,hb⟩;refine⟨_,rfl,?_⟩;have n0_:=qaj.mk (Kd.N_elder' (by (with_reducible repeat (first|apply Kd.N_alloc|apply Kd.N_drewN|apply Kd.N_drew));exact HO181.out) (Kd.S_base ho0) hb);have n1_:=qaj.mk (Kd.N_lower (Kd.N_mono (ok':=fun k_=>some k_≠(.slice Ao130 t179.length co130:Value).ownBlock∧k_≠gb175∧k_≠gb182) (Kd.S_N (Kd.S_bound ho0)) (fun k_ hk_=>⟨(Kd.fresh' (Kd.N_lt (by (with_reducible repeat (first|apply Kd.N_alloc|apply Kd.N_drewN|apply Kd.N_drew));exact HO181.out)) k_ hk_.2.1),(Kd.freshB (g:=gb175) (o:=.cells #[.int .i64 a0_0,.int .i64 a0_1,.slice A0_2 l0_2.length c0_2] 24 (0,0)) (by (with_reducible repeat (first|refine qad ?_ _|refine qag ?_|refine qab ?_ _));exact BK175.out) k_ hk_.2.1),(Kd.freshB (g:=gb182) (o:=.cells #[.int .i64 t177,.int .i64 t178,.slice Ao130 t179.length co130] 32 (0,0)) (by (with_reducible repeat (first|refine qad ?_ _|refine qag ?_|refine qab ?_ _));exact BK182.out) k_ hk_.2.1)⟩)) (qak (by repeat (first|(with_reducible first|exact HB.out|apply qai|apply qaa|apply qah|refine qae ?_ GE175.out|refine qae ?_ GE182.out)|exact HB.out))));have n2_:=qaj.mk (qal (g:=gb175) (o:=.cells #[.int .i64 a0_0,.int .i64 a0_1,.slice A0_2 l0_2.length c0_2] 24 (0,0)) (by (with_reducible repeat (first|refine qad ?_ _|refine qag ?_|refine qab ?_ _));exact BK175.out) hb);have n3_:=qaj.mk (qal (g:=gb182) (o:=.cells #[.int .i64 t177,.int .i64 t178,.slice Ao130 t179.length co130] 32 (0,0)) (by (with_reducible repeat (first|refine qad ?_ _|refine qag ?_|refine qab ?_ _));exact BK182.out) hb);have n4_:=qaj.mk (qam (by repeat (first|(with_reducible first|exact HB.out|apply qai|apply qaa|apply qah|refine qae ?_ GE175.out|refine qae ?_ GE182.out)|exact HB.out)) hb);clear HO181;clear BK175;clear BK182;clear HB;have HO181:=n0_;have HO188:=n1_;have BK175:=n2_;have BK182:=n3_;have HB:=n4_;clear n0_ n1_ n2_ n3_ n4_;(try clear hb);(try clear hb2);(try clear hk);(try clear hi);(try clear ho0))|((with_reducible refine qaE (N:=9) rfl ?_);(try (refine qaD (by rfl) ?_;dsimp only));refine qaA ?hg (N:=9) ?hd (cs:=#[.int .i64 0,.int .i64 0,.slice none 0 0]) (t:=32) ?hr ?_;(case hd=>rfl);(case hg=>rfl);(case hr=>first|(go_simp;done)|(go_simp;rfl));intro gb191 hg w133 hbox hb;have n0_:=qaj.mk (Kd.N_below (Kd.N_elderB (by (with_reducible repeat (first|apply Kd.N_alloc|apply Kd.N_drewN|apply Kd.N_drew));exact HO181.out) gb191 (Nat.le_of_eq hg.symm)) hb);have n1_:=qaj.mk (Kd.N_below (Kd.N_elderB (by (with_reducible repeat (first|apply Kd.N_alloc|apply Kd.N_drewN|apply Kd.N_drew));exact HO188.out) gb191 (Nat.le_of_eq hg.symm)) hb);have n2_:=qaj.mk (qal (g:=gb175) (o:=.cells #[.int .i64 a0_0,.int .i64 a0_1,.slice A0_2 l0_2.length c0_2] 24 (0,0)) (by (with_reducible repeat (first|refine qad ?_ _|refine qag ?_|refine qab ?_ _));exact BK175.out) hb);have n3_:=qaj.mk (qal (g:=gb182) (o:=.cells #[.int .i64 t177,.int .i64 t178,.slice Ao130 t179.length co130] 32 (0,0)) (by (with_reducible repeat (first|refine qad ?_ _|refine qag ?_|refine qab ?_ _));exact BK182.out) hb);have n4_:=qaj.mk (qam (by repeat (first|(with_reducible first|exact HB.out|apply qai|apply qaa|apply qah|refine qae ?_ GE175.out|refine qae ?_ GE182.out)|exact HB.out)) hb);have n5_:=qaj.mk (hbox);have n6_:=qaj.mk ((by rw [hg];exact (qak (by repeat (first|(with_reducible first|exact HB.out|apply qai|apply qaa|apply qah|refine qae ?_ GE175.out|refine qae ?_ GE182.out)|exact HB.out))):w.heap.size≤gb191));have n7_:=qaj.mk ((by rw [hg];exact (qak (by repeat (first|(with_reducible first|exact HB.out|apply qai|apply qaa|apply qah|refine qae ?_ GE175.out|refine qae ?_ GE182.out)|exact HB.out))):w.heap.size≤gb191));have n8_:=qaj.mk ((by rw [hg];exact Nat.ne_of_lt (qax (g:=gb175) (o:=.cells #[.int .i64 a0_0,.int .i64 a0_1,.slice A0_2 l0_2.length c0_2] 24 (0,0)) (by (with_reducible repeat (first|refine qad ?_ _|refine qag ?_|refine qab ?_ _));exact BK175.out)):gb175≠gb191));have n9_:=qaj.mk ((by rw [hg];exact Nat.ne_of_gt (qax (g:=gb175) (o:=.cells #[.int .i64 a0_0,.int .i64 a0_1,.slice A0_2 l0_2.length c0_2] 24 (0,0)) (by (with_reducible repeat (first|refine qad ?_ _|refine qag ?_|refine qab ?_ _));exact BK175.out)):gb191≠gb175));have n10_:=qaj.mk ((by rw [hg];exact Nat.ne_of_lt (qax (g:=gb182) (o:=.cells #[.int .i64 t177,.int .i64 t178,.slice Ao130 t179.length co130] 32 (0,0)) (by (with_reducible repeat (first|refine qad ?_ _|refine qag ?_|refine qab ?_ _));exact BK182.out)):gb182≠gb191));have n11_:=qaj.mk ((by rw [hg];exact Nat.ne_of_gt (qax (g:=gb182) (o:=.cells #[.int .i64 t177,.int .i64 t178,.slice Ao130 t179.length co130] 32 (0,0)) (by (with_reducible repeat (first|refine qad ?_ _|refine qag ?_|refine qab ?_ _));exact BK182.out)):gb191≠gb182));clear HO181;clear HO188;clear BK175;clear BK182;clear HB;have HO181:=n0_;have HO188:=n1_;have BK175:=n2_;have BK182:=n3_;have HB:=n4_;have BK191:=n5_;have GW191:=n6_;have GE191:=n7_;have NB175_191:=n8_;have NB191_175:=n9_;have NB182_191:=n10_;have NB191_182:=n11_;clear n0_ n1_ n2_ n3_ n4_ n5_ n6_ n7_ n8_ n9_ n10_ n11_;clear hb hbox hg;have hnb134:=NB191_175.out;have hnc134:=NB175_191.out;have hnb135:=NB191_182.out;have hnc135:=NB182_191.out;have hcz136_0:w133.cell? ⟨gb191,0,none⟩=some (.int .i64 0):=(qaf BK191.out 0).trans rfl;have hcz136_1:w133.cell? ⟨gb191,1,none⟩=some (.int .i64 0):=(qaf BK191.out 1).trans rfl;have hcz136_2:w133.cell? ⟨gb191,2,none⟩=some (.slice none 0 0):=(qaf BK191.out 2).trans rfl;have hfz136_0:=qac BK191.out 0;have hfz136_1:=qac BK191.out 1;have hfz136_2:=qac BK191.out 2;obtain⟨Ao137,co137,eo137⟩:=Kd.N_slice HO188.out;subst eo137))
       go_ret
       exact⟨by first|rfl|(simp [qao,qan]<;>rfl)|(simp [bneNil,bneNilU]<;>rfl)|(simp only [← hji16];first|rfl|(simp [qao,qan]<;>rfl))|(simp [*,qao,qan]<;>rfl),by repeat (first|(with_reducible first|exact HB.out|apply qai|apply qaa|apply qah|refine qae ?_ GE175.out|refine qae ?_ GE182.out|refine qae ?_ GE191.out)|exact HB.out)⟩
      ·rw [if_neg c122] at H
       have c122b0:decide (0≤t189)=false:=decide_eq_false c122
       clear c122
       obtain rfl:=Option.some.inj H
       go_enter Tryd.func7,Tryd.ntmps7
       go_wp2_with (first|((with_reducible refine qaE (N:=2) rfl ?_);(try (refine qaD (by rfl) ?_;dsimp only));refine qaA ?hg (N:=2) ?hd (cs:=#[.int .i64 a0_0,.int .i64 a0_1,.slice A0_2 l0_2.length c0_2]) (t:=24) ?hr ?_;(case hd=>rfl);(case hg=>rfl);(case hr=>first|(go_simp;done)|(go_simp;rfl));intro gb175 hg w138 hbox hb;have n0_:=qaj.mk (qam (by repeat (first|(with_reducible first|exact HB.out|apply qai|apply qaa|apply qah)|exact HB.out)) hb);have n1_:=qaj.mk (hbox);have n2_:=qaj.mk ((by rw [hg];exact (qak (by repeat (first|(with_reducible first|exact HB.out|apply qai|apply qaa|apply qah)|exact HB.out))):w.heap.size≤gb175));have n3_:=qaj.mk ((by rw [hg];exact (qak (by repeat (first|(with_reducible first|exact HB.out|apply qai|apply qaa|apply qah)|exact HB.out))):w.heap.size≤gb175));clear HB;have HB:=n0_;have BK175:=n1_;have GW175:=n2_;have GE175:=n3_;clear n0_ n1_ n2_ n3_;clear hb hbox hg)|((with_reducible refine qau (f:=8) rfl ?_);refine qaJ (some 12) rfl rfl Tryd.func8 (by kernel_rfl) rfl #[] rfl (by (try simp only [List.map_toArray,List.map_cons,List.map_nil]);first|done|rfl|(simp only [List.length_drop,List.length_take];rfl)) ?_;(with_reducible refine (ostinatolaw07_awake.calls  true _ A3.out (Tabs.below HT.out (by repeat (first|(with_reducible first|exact HB.out|apply qai|apply qaa|apply qah|refine qae ?_ GE175.out)|exact HB.out)))).mono ?_);rintro e w139 ⟨rfl,hb⟩;refine⟨_,rfl,?_⟩;have n0_:=qaj.mk (qal (g:=gb175) (o:=.cells #[.int .i64 a0_0,.int .i64 a0_1,.slice A0_2 l0_2.length c0_2] 24 (0,0)) (by (with_reducible repeat (first|refine qad ?_ _|refine qag ?_|refine qab ?_ _));exact BK175.out) hb);have n1_:=qaj.mk (qam (by repeat (first|(with_reducible first|exact HB.out|apply qai|apply qaa|apply qah|refine qae ?_ GE175.out)|exact HB.out)) hb);clear BK175;clear HB;have BK175:=n0_;have HB:=n1_;clear n0_ n1_;(try clear hb);(try clear hb2);(try clear hk);(try clear hi);have hcz140_0:w139.cell? ⟨gb175,0,none⟩=some (.int .i64 a0_0):=(qaf BK175.out 0).trans rfl;have hcz140_1:w139.cell? ⟨gb175,1,none⟩=some (.int .i64 a0_1):=(qaf BK175.out 1).trans rfl;have hcz140_2:w139.cell? ⟨gb175,2,none⟩=some (.slice A0_2 l0_2.length c0_2):=(qaf BK175.out 2).trans rfl;have hfz140_0:=qac BK175.out 0;have hfz140_1:=qac BK175.out 1;have hfz140_2:=qac BK175.out 2)|((with_reducible refine qau (f:=11) rfl ?_);refine qaJ (some 14) rfl rfl Tryd.func11 (by kernel_rfl) rfl #[.agg #[.int .i64 a0_0,.int .i64 a0_1,.slice A0_2 l0_2.length c0_2]] rfl (by (try simp only [List.map_toArray,List.map_cons,List.map_nil]);first|done|rfl|(simp only [List.length_drop,List.length_take];rfl)) ?_;(with_reducible refine (ostinatolaw07_Sys_made.calls k a0_0 a0_1 (fun k_=>k_<w.heap.size) _ _ l0_2 t177 t178 t179 _ ?side1 A4.out).mono ?_);(case side1=>exact Kd.V_mk HC0_2.out (Kd.F_below (Kd.C_F k60_heap HR0_2.out) (by repeat (first|(with_reducible first|exact HB.out|apply qai|apply qaa|apply qah|refine qae ?_ GE175.out)|exact HB.out))));rintro e w141 ⟨v180,rfl,ho0,hb⟩;refine⟨_,rfl,?_⟩;have n0_:=qaj.mk (Kd.N_lower (Kd.N_mono (ok':=fun k_=>k_≠gb175) ho0 (fun k_ hk_=>Or.elim hk_ (fun hs_=>fun e_=>Nat.not_le.2 hs_ (by rw [e_];exact GW175.out)) (fun hn_=>(Kd.freshB (g:=gb175) (o:=.cells #[.int .i64 a0_0,.int .i64 a0_1,.slice A0_2 l0_2.length c0_2] 24 (0,0)) (by (with_reducible repeat (first|refine qad ?_ _|refine qag ?_|refine qab ?_ _));exact BK175.out) k_ hn_)))) (qak (by repeat (first|(with_reducible first|exact HB.out|apply qai|apply qaa|apply qah|refine qae ?_ GE175.out)|exact HB.out))));have n1_:=qaj.mk (qal (g:=gb175) (o:=.cells #[.int .i64 a0_0,.int .i64 a0_1,.slice A0_2 l0_2.length c0_2] 24 (0,0)) (by (with_reducible repeat (first|refine qad ?_ _|refine qag ?_|refine qab ?_ _));exact BK175.out) hb);have n2_:=qaj.mk (qam (by repeat (first|(with_reducible first|exact HB.out|apply qai|apply qaa|apply qah|refine qae ?_ GE175.out)|exact HB.out)) hb);clear BK175;clear HB;have HO181:=n0_;have BK175:=n1_;have HB:=n2_;clear n0_ n1_ n2_;(try clear hb);(try clear hb2);(try clear hk);(try clear hi);(try clear ho0))|((with_reducible refine qaE (N:=6) rfl ?_);(try (refine qaD (by rfl) ?_;dsimp only));refine qaA ?hg (N:=6) ?hd (cs:=#[.int .i64 0,.int .i64 0,.slice none 0 0]) (t:=32) ?hr ?_;(case hd=>rfl);(case hg=>rfl);(case hr=>first|(go_simp;done)|(go_simp;rfl));intro gb182 hg w142 hbox hb;have n0_:=qaj.mk (Kd.N_below (Kd.N_elderB (by (with_reducible repeat (first|apply Kd.N_alloc|apply Kd.N_drewN|apply Kd.N_drew));exact HO181.out) gb182 (Nat.le_of_eq hg.symm)) hb);have n1_:=qaj.mk (qal (g:=gb175) (o:=.cells #[.int .i64 a0_0,.int .i64 a0_1,.slice A0_2 l0_2.length c0_2] 24 (0,0)) (by (with_reducible repeat (first|refine qad ?_ _|refine qag ?_|refine qab ?_ _));exact BK175.out) hb);have n2_:=qaj.mk (qam (by repeat (first|(with_reducible first|exact HB.out|apply qai|apply qaa|apply qah|refine qae ?_ GE175.out)|exact HB.out)) hb);have n3_:=qaj.mk (hbox);have n4_:=qaj.mk ((by rw [hg];exact (qak (by repeat (first|(with_reducible first|exact HB.out|apply qai|apply qaa|apply qah|refine qae ?_ GE175.out)|exact HB.out))):w.heap.size≤gb182));have n5_:=qaj.mk ((by rw [hg];exact (qak (by repeat (first|(with_reducible first|exact HB.out|apply qai|apply qaa|apply qah|refine qae ?_ GE175.out)|exact HB.out))):w.heap.size≤gb182));have n6_:=qaj.mk ((by rw [hg];exact Nat.ne_of_lt (qax (g:=gb175) (o:=.cells #[.int .i64 a0_0,.int .i64 a0_1,.slice A0_2 l0_2.length c0_2] 24 (0,0)) (by (with_reducible repeat (first|refine qad ?_ _|refine qag ?_|refine qab ?_ _));exact BK175.out)):gb175≠gb182));have n7_:=qaj.mk ((by rw [hg];exact Nat.ne_of_gt (qax (g:=gb175) (o:=.cells #[.int .i64 a0_0,.int .i64 a0_1,.slice A0_2 l0_2.length c0_2] 24 (0,0)) (by (with_reducible repeat (first|refine qad ?_ _|refine qag ?_|refine qab ?_ _));exact BK175.out)):gb182≠gb175));clear HO181;clear BK175;clear HB;have HO181:=n0_;have BK175:=n1_;have HB:=n2_;have BK182:=n3_;have GW182:=n4_;have GE182:=n5_;have NB175_182:=n6_;have NB182_175:=n7_;clear n0_ n1_ n2_ n3_ n4_ n5_ n6_ n7_;clear hb hbox hg;have hnb143:=NB182_175.out;have hnc143:=NB175_182.out;have hcz144_0:w142.cell? ⟨gb182,0,none⟩=some (.int .i64 0):=(qaf BK182.out 0).trans rfl;have hcz144_1:w142.cell? ⟨gb182,1,none⟩=some (.int .i64 0):=(qaf BK182.out 1).trans rfl;have hcz144_2:w142.cell? ⟨gb182,2,none⟩=some (.slice none 0 0):=(qaf BK182.out 2).trans rfl;have hfz144_0:=qac BK182.out 0;have hfz144_1:=qac BK182.out 1;have hfz144_2:=qac BK182.out 2;obtain⟨Ao145,co145,eo145⟩:=Kd.N_slice HO181.out;subst eo145)|((with_reducible refine qau (f:=15) rfl ?_);refine qaJ (some 16) rfl rfl Tryd.func15 (by kernel_rfl) rfl #[.agg #[.int .i64 t177,.int .i64 t178,.slice Ao145 t179.length co145]] rfl (by (try simp only [List.map_toArray,List.map_cons,List.map_nil]);first|done|rfl|(simp only [List.length_drop,List.length_take];rfl)) ?_;(with_reducible refine (parse_Print.calls t177 t178 _ _ t179 t183 _ ?side1 ?side2 A5.out (Tabs.below HT.out (by repeat (first|(with_reducible first|exact HB.out|apply qai|apply qaa|apply qah|refine qae ?_ GE175.out|refine qae ?_ GE182.out)|exact HB.out)))).mono ?_);(case side1=>refine (Kd.N_reads' (e:=52) (base:=w.heap.size) (ok:=fun k_=>(k_≠gb175∧k_≠gb182)) (n:=t179.length) (c:=co145) ?_).2.2;exact (by (with_reducible repeat (first|apply Kd.N_alloc|apply Kd.N_drewN|apply Kd.N_drew));exact (Kd.N_mono (Kd.N_far (p:=⟨gb182,2,none⟩) (Kd.N_far (p:=⟨gb182,1,none⟩) (Kd.N_far (p:=⟨gb182,0,none⟩) (Kd.N_mono HO181.out (fun k_ hk=>(⟨hk,hk.2⟩:_∧k_≠gb182))) (fun _ hk=>hk.2) (.int .i64 t177)) (fun _ hk=>hk.2) (.int .i64 t178)) (fun _ hk=>hk.2) (.slice Ao145 t179.length co145)) (fun _ h_=>h_.1))));(case side2=>exact (Kd.N_reads' HO181.out).2.1);rintro e w146 ⟨rfl,hb⟩;refine⟨_,rfl,?_⟩;have n0_:=qaj.mk (Kd.N_below (by (with_reducible repeat (first|apply Kd.N_alloc|apply Kd.N_drewN|apply Kd.N_drew));exact (Kd.N_mono (Kd.N_far (p:=⟨gb182,2,none⟩) (Kd.N_far (p:=⟨gb182,1,none⟩) (Kd.N_far (p:=⟨gb182,0,none⟩) (Kd.N_mono HO181.out (fun k_ hk=>(⟨hk,hk.2⟩:_∧k_≠gb182))) (fun _ hk=>hk.2) (.int .i64 t177)) (fun _ hk=>hk.2) (.int .i64 t178)) (fun _ hk=>hk.2) (.slice Ao145 t179.length co145)) (fun _ h_=>h_.1))) hb);have n1_:=qaj.mk (qal (g:=gb175) (o:=.cells #[.int .i64 a0_0,.int .i64 a0_1,.slice A0_2 l0_2.length c0_2] 24 (0,0)) (by (with_reducible repeat (first|refine qad ?_ _|refine qag ?_|refine qab ?_ _));refine qaq ?_ NB175_182.out _;(with_reducible repeat (first|refine qad ?_ _|refine qag ?_|refine qab ?_ _));refine qaq ?_ NB175_182.out _;(with_reducible repeat (first|refine qad ?_ _|refine qag ?_|refine qab ?_ _));refine qaq ?_ NB175_182.out _;(with_reducible repeat (first|refine qad ?_ _|refine qag ?_|refine qab ?_ _));exact BK175.out) hb);have n2_:=qaj.mk (qal (g:=gb182) (o:=.cells #[.int .i64 t177,.int .i64 t178,.slice Ao145 t179.length co145] 32 (0,0)) (by (with_reducible repeat (first|refine qad ?_ _|refine qag ?_|refine qab ?_ _));refine qat (cs:=#[.int .i64 t177,.int .i64 t178,.slice none 0 0]) ?_ 2 _ rfl;(with_reducible repeat (first|refine qad ?_ _|refine qag ?_|refine qab ?_ _));refine qat (cs:=#[.int .i64 t177,.int .i64 0,.slice none 0 0]) ?_ 1 _ rfl;(with_reducible repeat (first|refine qad ?_ _|refine qag ?_|refine qab ?_ _));refine qat (cs:=#[.int .i64 0,.int .i64 0,.slice none 0 0]) ?_ 0 _ rfl;(with_reducible repeat (first|refine qad ?_ _|refine qag ?_|refine qab ?_ _));exact BK182.out) hb);have n3_:=qaj.mk (qam (by repeat (first|(with_reducible first|exact HB.out|apply qai|apply qaa|apply qah|refine qae ?_ GE175.out|refine qae ?_ GE182.out)|exact HB.out)) hb);clear HO181;clear BK175;clear BK182;clear HB;have HO181:=n0_;have BK175:=n1_;have BK182:=n2_;have HB:=n3_;clear n0_ n1_ n2_ n3_;(try clear hb);(try clear hb2);(try clear hk);(try clear hi))|((with_reducible refine qau (f:=12) rfl ?_);refine qaJ (some 34) rfl rfl Tryd.func12 (by kernel_rfl) rfl #[.string (t183.extract 0 ((ji16):Int).toNat)] rfl (by (try simp only [List.map_toArray,List.map_cons,List.map_nil]);first|done|(simp only [hji16];rfl)|rfl|(simp only [List.length_drop,List.length_take];rfl)) ?_;(with_reducible refine (parse_Parse.calls (t183.extract 0 ((ji16):Int).toNat) t184 t185 t186 t189 t190 _ A19.out (Tabs.below HT.out (by repeat (first|(with_reducible first|exact HB.out|apply qai|apply qaa|apply qah|refine qae ?_ GE175.out|refine qae ?_ GE182.out)|exact HB.out)))).mono ?_);rintro e w147 ⟨v187,rfl,ho0,hb⟩;refine⟨_,rfl,?_⟩;have n0_:=qaj.mk (Kd.N_elder' (by (with_reducible repeat (first|apply Kd.N_alloc|apply Kd.N_drewN|apply Kd.N_drew));exact HO181.out) (Kd.S_base ho0) hb);have n1_:=qaj.mk (Kd.N_lower (Kd.N_mono (ok':=fun k_=>some k_≠(.slice Ao145 t179.length co145:Value).ownBlock∧k_≠gb175∧k_≠gb182) (Kd.S_N (Kd.S_bound ho0)) (fun k_ hk_=>⟨(Kd.fresh' (Kd.N_lt (by (with_reducible repeat (first|apply Kd.N_alloc|apply Kd.N_drewN|apply Kd.N_drew));exact HO181.out)) k_ hk_.2.1),(Kd.freshB (g:=gb175) (o:=.cells #[.int .i64 a0_0,.int .i64 a0_1,.slice A0_2 l0_2.length c0_2] 24 (0,0)) (by (with_reducible repeat (first|refine qad ?_ _|refine qag ?_|refine qab ?_ _));exact BK175.out) k_ hk_.2.1),(Kd.freshB (g:=gb182) (o:=.cells #[.int .i64 t177,.int .i64 t178,.slice Ao145 t179.length co145] 32 (0,0)) (by (with_reducible repeat (first|refine qad ?_ _|refine qag ?_|refine qab ?_ _));exact BK182.out) k_ hk_.2.1)⟩)) (qak (by repeat (first|(with_reducible first|exact HB.out|apply qai|apply qaa|apply qah|refine qae ?_ GE175.out|refine qae ?_ GE182.out)|exact HB.out))));have n2_:=qaj.mk (qal (g:=gb175) (o:=.cells #[.int .i64 a0_0,.int .i64 a0_1,.slice A0_2 l0_2.length c0_2] 24 (0,0)) (by (with_reducible repeat (first|refine qad ?_ _|refine qag ?_|refine qab ?_ _));exact BK175.out) hb);have n3_:=qaj.mk (qal (g:=gb182) (o:=.cells #[.int .i64 t177,.int .i64 t178,.slice Ao145 t179.length co145] 32 (0,0)) (by (with_reducible repeat (first|refine qad ?_ _|refine qag ?_|refine qab ?_ _));exact BK182.out) hb);have n4_:=qaj.mk (qam (by repeat (first|(with_reducible first|exact HB.out|apply qai|apply qaa|apply qah|refine qae ?_ GE175.out|refine qae ?_ GE182.out)|exact HB.out)) hb);clear HO181;clear BK175;clear BK182;clear HB;have HO181:=n0_;have HO188:=n1_;have BK175:=n2_;have BK182:=n3_;have HB:=n4_;clear n0_ n1_ n2_ n3_ n4_;(try clear hb);(try clear hb2);(try clear hk);(try clear hi);(try clear ho0))|((with_reducible refine qaE (N:=9) rfl ?_);(try (refine qaD (by rfl) ?_;dsimp only));refine qaA ?hg (N:=9) ?hd (cs:=#[.int .i64 0,.int .i64 0,.slice none 0 0]) (t:=32) ?hr ?_;(case hd=>rfl);(case hg=>rfl);(case hr=>first|(go_simp;done)|(go_simp;rfl));intro gb191 hg w148 hbox hb;have n0_:=qaj.mk (Kd.N_below (Kd.N_elderB (by (with_reducible repeat (first|apply Kd.N_alloc|apply Kd.N_drewN|apply Kd.N_drew));exact HO181.out) gb191 (Nat.le_of_eq hg.symm)) hb);have n1_:=qaj.mk (Kd.N_below (Kd.N_elderB (by (with_reducible repeat (first|apply Kd.N_alloc|apply Kd.N_drewN|apply Kd.N_drew));exact HO188.out) gb191 (Nat.le_of_eq hg.symm)) hb);have n2_:=qaj.mk (qal (g:=gb175) (o:=.cells #[.int .i64 a0_0,.int .i64 a0_1,.slice A0_2 l0_2.length c0_2] 24 (0,0)) (by (with_reducible repeat (first|refine qad ?_ _|refine qag ?_|refine qab ?_ _));exact BK175.out) hb);have n3_:=qaj.mk (qal (g:=gb182) (o:=.cells #[.int .i64 t177,.int .i64 t178,.slice Ao145 t179.length co145] 32 (0,0)) (by (with_reducible repeat (first|refine qad ?_ _|refine qag ?_|refine qab ?_ _));exact BK182.out) hb);have n4_:=qaj.mk (qam (by repeat (first|(with_reducible first|exact HB.out|apply qai|apply qaa|apply qah|refine qae ?_ GE175.out|refine qae ?_ GE182.out)|exact HB.out)) hb);have n5_:=qaj.mk (hbox);have n6_:=qaj.mk ((by rw [hg];exact (qak (by repeat (first|(with_reducible first|exact HB.out|apply qai|apply qaa|apply qah|refine qae ?_ GE175.out|refine qae ?_ GE182.out)|exact HB.out))):w.heap.size≤gb191));have n7_:=qaj.mk ((by rw [hg];exact (qak (by repeat (first|(with_reducible first|exact HB.out|apply qai|apply qaa|apply qah|refine qae ?_ GE175.out|refine qae ?_ GE182.out)|exact HB.out))):w.heap.size≤gb191));have n8_:=qaj.mk ((by rw [hg];exact Nat.ne_of_lt (qax (g:=gb175) (o:=.cells #[.int .i64 a0_0,.int .i64 a0_1,.slice A0_2 l0_2.length c0_2] 24 (0,0)) (by (with_reducible repeat (first|refine qad ?_ _|refine qag ?_|refine qab ?_ _));exact BK175.out)):gb175≠gb191));have n9_:=qaj.mk ((by rw [hg];exact Nat.ne_of_gt (qax (g:=gb175) (o:=.cells #[.int .i64 a0_0,.int .i64 a0_1,.slice A0_2 l0_2.length c0_2] 24 (0,0)) (by (with_reducible repeat (first|refine qad ?_ _|refine qag ?_|refine qab ?_ _));exact BK175.out)):gb191≠gb175));have n10_:=qaj.mk ((by rw [hg];exact Nat.ne_of_lt (qax (g:=gb182) (o:=.cells #[.int .i64 t177,.int .i64 t178,.slice Ao145 t179.length co145] 32 (0,0)) (by (with_reducible repeat (first|refine qad ?_ _|refine qag ?_|refine qab ?_ _));exact BK182.out)):gb182≠gb191));have n11_:=qaj.mk ((by rw [hg];exact Nat.ne_of_gt (qax (g:=gb182) (o:=.cells #[.int .i64 t177,.int .i64 t178,.slice Ao145 t179.length co145] 32 (0,0)) (by (with_reducible repeat (first|refine qad ?_ _|refine qag ?_|refine qab ?_ _));exact BK182.out)):gb191≠gb182));clear HO181;clear HO188;clear BK175;clear BK182;clear HB;have HO181:=n0_;have HO188:=n1_;have BK175:=n2_;have BK182:=n3_;have HB:=n4_;have BK191:=n5_;have GW191:=n6_;have GE191:=n7_;have NB175_191:=n8_;have NB191_175:=n9_;have NB182_191:=n10_;have NB191_182:=n11_;clear n0_ n1_ n2_ n3_ n4_ n5_ n6_ n7_ n8_ n9_ n10_ n11_;clear hb hbox hg;have hnb149:=NB191_175.out;have hnc149:=NB175_191.out;have hnb150:=NB191_182.out;have hnc150:=NB182_191.out;have hcz151_0:w148.cell? ⟨gb191,0,none⟩=some (.int .i64 0):=(qaf BK191.out 0).trans rfl;have hcz151_1:w148.cell? ⟨gb191,1,none⟩=some (.int .i64 0):=(qaf BK191.out 1).trans rfl;have hcz151_2:w148.cell? ⟨gb191,2,none⟩=some (.slice none 0 0):=(qaf BK191.out 2).trans rfl;have hfz151_0:=qac BK191.out 0;have hfz151_1:=qac BK191.out 1;have hfz151_2:=qac BK191.out 2;obtain⟨Ao152,co152,eo152⟩:=Kd.N_slice HO188.out;subst eo152))
       go_ret
       exact⟨by first|rfl|(simp [qao,qan]<;>rfl)|(simp [bneNil,bneNilU]<;>rfl)|(simp only [← hji16];first|rfl|(simp [qao,qan]<;>rfl))|(simp [*,qao,qan]<;>rfl),by repeat (first|(with_reducible first|exact HB.out|apply qai|apply qaa|apply qah|refine qae ?_ GE175.out|refine qae ?_ GE182.out|refine qae ?_ GE191.out)|exact HB.out)⟩
     ·replace c121:=Bool.eq_false_iff.mpr c121
      subst c121
      have H1:(some false)=some r:=by rw [if_neg (show ¬ (false=true) by decide)] at H;exact H
      clear H
      have H:=H1
      clear H1
      obtain rfl:=Option.some.inj H
      go_enter Tryd.func7,Tryd.ntmps7
      go_wp2_with (first|((with_reducible refine qaE (N:=2) rfl ?_);(try (refine qaD (by rfl) ?_;dsimp only));refine qaA ?hg (N:=2) ?hd (cs:=#[.int .i64 a0_0,.int .i64 a0_1,.slice A0_2 l0_2.length c0_2]) (t:=24) ?hr ?_;(case hd=>rfl);(case hg=>rfl);(case hr=>first|(go_simp;done)|(go_simp;rfl));intro gb175 hg w153 hbox hb;have n0_:=qaj.mk (qam (by repeat (first|(with_reducible first|exact HB.out|apply qai|apply qaa|apply qah)|exact HB.out)) hb);have n1_:=qaj.mk (hbox);have n2_:=qaj.mk ((by rw [hg];exact (qak (by repeat (first|(with_reducible first|exact HB.out|apply qai|apply qaa|apply qah)|exact HB.out))):w.heap.size≤gb175));have n3_:=qaj.mk ((by rw [hg];exact (qak (by repeat (first|(with_reducible first|exact HB.out|apply qai|apply qaa|apply qah)|exact HB.out))):w.heap.size≤gb175));clear HB;have HB:=n0_;have BK175:=n1_;have GW175:=n2_;have GE175:=n3_;clear n0_ n1_ n2_ n3_;clear hb hbox hg)|((with_reducible refine qau (f:=8) rfl ?_);refine qaJ (some 12) rfl rfl Tryd.func8 (by kernel_rfl) rfl #[] rfl (by (try simp only [List.map_toArray,List.map_cons,List.map_nil]);first|done|rfl|(simp only [List.length_drop,List.length_take];rfl)) ?_;(with_reducible refine (ostinatolaw07_awake.calls  false _ A3.out (Tabs.below HT.out (by repeat (first|(with_reducible first|exact HB.out|apply qai|apply qaa|apply qah|refine qae ?_ GE175.out)|exact HB.out)))).mono ?_);rintro e w154 ⟨rfl,hb⟩;refine⟨_,rfl,?_⟩;have n0_:=qaj.mk (qal (g:=gb175) (o:=.cells #[.int .i64 a0_0,.int .i64 a0_1,.slice A0_2 l0_2.length c0_2] 24 (0,0)) (by (with_reducible repeat (first|refine qad ?_ _|refine qag ?_|refine qab ?_ _));exact BK175.out) hb);have n1_:=qaj.mk (qam (by repeat (first|(with_reducible first|exact HB.out|apply qai|apply qaa|apply qah|refine qae ?_ GE175.out)|exact HB.out)) hb);clear BK175;clear HB;have BK175:=n0_;have HB:=n1_;clear n0_ n1_;(try clear hb);(try clear hb2);(try clear hk);(try clear hi);have hcz155_0:w154.cell? ⟨gb175,0,none⟩=some (.int .i64 a0_0):=(qaf BK175.out 0).trans rfl;have hcz155_1:w154.cell? ⟨gb175,1,none⟩=some (.int .i64 a0_1):=(qaf BK175.out 1).trans rfl;have hcz155_2:w154.cell? ⟨gb175,2,none⟩=some (.slice A0_2 l0_2.length c0_2):=(qaf BK175.out 2).trans rfl;have hfz155_0:=qac BK175.out 0;have hfz155_1:=qac BK175.out 1;have hfz155_2:=qac BK175.out 2)|((with_reducible refine qau (f:=11) rfl ?_);refine qaJ (some 14) rfl rfl Tryd.func11 (by kernel_rfl) rfl #[.agg #[.int .i64 a0_0,.int .i64 a0_1,.slice A0_2 l0_2.length c0_2]] rfl (by (try simp only [List.map_toArray,List.map_cons,List.map_nil]);first|done|rfl|(simp only [List.length_drop,List.length_take];rfl)) ?_;(with_reducible refine (ostinatolaw07_Sys_made.calls k a0_0 a0_1 (fun k_=>k_<w.heap.size) _ _ l0_2 t177 t178 t179 _ ?side1 A4.out).mono ?_);(case side1=>exact Kd.V_mk HC0_2.out (Kd.F_below (Kd.C_F k60_heap HR0_2.out) (by repeat (first|(with_reducible first|exact HB.out|apply qai|apply qaa|apply qah|refine qae ?_ GE175.out)|exact HB.out))));rintro e w156 ⟨v180,rfl,ho0,hb⟩;refine⟨_,rfl,?_⟩;have n0_:=qaj.mk (Kd.N_lower (Kd.N_mono (ok':=fun k_=>k_≠gb175) ho0 (fun k_ hk_=>Or.elim hk_ (fun hs_=>fun e_=>Nat.not_le.2 hs_ (by rw [e_];exact GW175.out)) (fun hn_=>(Kd.freshB (g:=gb175) (o:=.cells #[.int .i64 a0_0,.int .i64 a0_1,.slice A0_2 l0_2.length c0_2] 24 (0,0)) (by (with_reducible repeat (first|refine qad ?_ _|refine qag ?_|refine qab ?_ _));exact BK175.out) k_ hn_)))) (qak (by repeat (first|(with_reducible first|exact HB.out|apply qai|apply qaa|apply qah|refine qae ?_ GE175.out)|exact HB.out))));have n1_:=qaj.mk (qal (g:=gb175) (o:=.cells #[.int .i64 a0_0,.int .i64 a0_1,.slice A0_2 l0_2.length c0_2] 24 (0,0)) (by (with_reducible repeat (first|refine qad ?_ _|refine qag ?_|refine qab ?_ _));exact BK175.out) hb);have n2_:=qaj.mk (qam (by repeat (first|(with_reducible first|exact HB.out|apply qai|apply qaa|apply qah|refine qae ?_ GE175.out)|exact HB.out)) hb);clear BK175;clear HB;have HO181:=n0_;have BK175:=n1_;have HB:=n2_;clear n0_ n1_ n2_;(try clear hb);(try clear hb2);(try clear hk);(try clear hi);(try clear ho0))|((with_reducible refine qaE (N:=6) rfl ?_);(try (refine qaD (by rfl) ?_;dsimp only));refine qaA ?hg (N:=6) ?hd (cs:=#[.int .i64 0,.int .i64 0,.slice none 0 0]) (t:=32) ?hr ?_;(case hd=>rfl);(case hg=>rfl);(case hr=>first|(go_simp;done)|(go_simp;rfl));intro gb182 hg w157 hbox hb;have n0_:=qaj.mk (Kd.N_below (Kd.N_elderB (by (with_reducible repeat (first|apply Kd.N_alloc|apply Kd.N_drewN|apply Kd.N_drew));exact HO181.out) gb182 (Nat.le_of_eq hg.symm)) hb);have n1_:=qaj.mk (qal (g:=gb175) (o:=.cells #[.int .i64 a0_0,.int .i64 a0_1,.slice A0_2 l0_2.length c0_2] 24 (0,0)) (by (with_reducible repeat (first|refine qad ?_ _|refine qag ?_|refine qab ?_ _));exact BK175.out) hb);have n2_:=qaj.mk (qam (by repeat (first|(with_reducible first|exact HB.out|apply qai|apply qaa|apply qah|refine qae ?_ GE175.out)|exact HB.out)) hb);have n3_:=qaj.mk (hbox);have n4_:=qaj.mk ((by rw [hg];exact (qak (by repeat (first|(with_reducible first|exact HB.out|apply qai|apply qaa|apply qah|refine qae ?_ GE175.out)|exact HB.out))):w.heap.size≤gb182));have n5_:=qaj.mk ((by rw [hg];exact (qak (by repeat (first|(with_reducible first|exact HB.out|apply qai|apply qaa|apply qah|refine qae ?_ GE175.out)|exact HB.out))):w.heap.size≤gb182));have n6_:=qaj.mk ((by rw [hg];exact Nat.ne_of_lt (qax (g:=gb175) (o:=.cells #[.int .i64 a0_0,.int .i64 a0_1,.slice A0_2 l0_2.length c0_2] 24 (0,0)) (by (with_reducible repeat (first|refine qad ?_ _|refine qag ?_|refine qab ?_ _));exact BK175.out)):gb175≠gb182));have n7_:=qaj.mk ((by rw [hg];exact Nat.ne_of_gt (qax (g:=gb175) (o:=.cells #[.int .i64 a0_0,.int .i64 a0_1,.slice A0_2 l0_2.length c0_2] 24 (0,0)) (by (with_reducible repeat (first|refine qad ?_ _|refine qag ?_|refine qab ?_ _));exact BK175.out)):gb182≠gb175));clear HO181;clear BK175;clear HB;have HO181:=n0_;have BK175:=n1_;have HB:=n2_;have BK182:=n3_;have GW182:=n4_;have GE182:=n5_;have NB175_182:=n6_;have NB182_175:=n7_;clear n0_ n1_ n2_ n3_ n4_ n5_ n6_ n7_;clear hb hbox hg;have hnb158:=NB182_175.out;have hnc158:=NB175_182.out;have hcz159_0:w157.cell? ⟨gb182,0,none⟩=some (.int .i64 0):=(qaf BK182.out 0).trans rfl;have hcz159_1:w157.cell? ⟨gb182,1,none⟩=some (.int .i64 0):=(qaf BK182.out 1).trans rfl;have hcz159_2:w157.cell? ⟨gb182,2,none⟩=some (.slice none 0 0):=(qaf BK182.out 2).trans rfl;have hfz159_0:=qac BK182.out 0;have hfz159_1:=qac BK182.out 1;have hfz159_2:=qac BK182.out 2;obtain⟨Ao160,co160,eo160⟩:=Kd.N_slice HO181.out;subst eo160)|((with_reducible refine qau (f:=15) rfl ?_);refine qaJ (some 16) rfl rfl Tryd.func15 (by kernel_rfl) rfl #[.agg #[.int .i64 t177,.int .i64 t178,.slice Ao160 t179.length co160]] rfl (by (try simp only [List.map_toArray,List.map_cons,List.map_nil]);first|done|rfl|(simp only [List.length_drop,List.length_take];rfl)) ?_;(with_reducible refine (parse_Print.calls t177 t178 _ _ t179 t183 _ ?side1 ?side2 A5.out (Tabs.below HT.out (by repeat (first|(with_reducible first|exact HB.out|apply qai|apply qaa|apply qah|refine qae ?_ GE175.out|refine qae ?_ GE182.out)|exact HB.out)))).mono ?_);(case side1=>refine (Kd.N_reads' (e:=52) (base:=w.heap.size) (ok:=fun k_=>(k_≠gb175∧k_≠gb182)) (n:=t179.length) (c:=co160) ?_).2.2;exact (by (with_reducible repeat (first|apply Kd.N_alloc|apply Kd.N_drewN|apply Kd.N_drew));exact (Kd.N_mono (Kd.N_far (p:=⟨gb182,2,none⟩) (Kd.N_far (p:=⟨gb182,1,none⟩) (Kd.N_far (p:=⟨gb182,0,none⟩) (Kd.N_mono HO181.out (fun k_ hk=>(⟨hk,hk.2⟩:_∧k_≠gb182))) (fun _ hk=>hk.2) (.int .i64 t177)) (fun _ hk=>hk.2) (.int .i64 t178)) (fun _ hk=>hk.2) (.slice Ao160 t179.length co160)) (fun _ h_=>h_.1))));(case side2=>exact (Kd.N_reads' HO181.out).2.1);rintro e w161 ⟨rfl,hb⟩;refine⟨_,rfl,?_⟩;have n0_:=qaj.mk (Kd.N_below (by (with_reducible repeat (first|apply Kd.N_alloc|apply Kd.N_drewN|apply Kd.N_drew));exact (Kd.N_mono (Kd.N_far (p:=⟨gb182,2,none⟩) (Kd.N_far (p:=⟨gb182,1,none⟩) (Kd.N_far (p:=⟨gb182,0,none⟩) (Kd.N_mono HO181.out (fun k_ hk=>(⟨hk,hk.2⟩:_∧k_≠gb182))) (fun _ hk=>hk.2) (.int .i64 t177)) (fun _ hk=>hk.2) (.int .i64 t178)) (fun _ hk=>hk.2) (.slice Ao160 t179.length co160)) (fun _ h_=>h_.1))) hb);have n1_:=qaj.mk (qal (g:=gb175) (o:=.cells #[.int .i64 a0_0,.int .i64 a0_1,.slice A0_2 l0_2.length c0_2] 24 (0,0)) (by (with_reducible repeat (first|refine qad ?_ _|refine qag ?_|refine qab ?_ _));refine qaq ?_ NB175_182.out _;(with_reducible repeat (first|refine qad ?_ _|refine qag ?_|refine qab ?_ _));refine qaq ?_ NB175_182.out _;(with_reducible repeat (first|refine qad ?_ _|refine qag ?_|refine qab ?_ _));refine qaq ?_ NB175_182.out _;(with_reducible repeat (first|refine qad ?_ _|refine qag ?_|refine qab ?_ _));exact BK175.out) hb);have n2_:=qaj.mk (qal (g:=gb182) (o:=.cells #[.int .i64 t177,.int .i64 t178,.slice Ao160 t179.length co160] 32 (0,0)) (by (with_reducible repeat (first|refine qad ?_ _|refine qag ?_|refine qab ?_ _));refine qat (cs:=#[.int .i64 t177,.int .i64 t178,.slice none 0 0]) ?_ 2 _ rfl;(with_reducible repeat (first|refine qad ?_ _|refine qag ?_|refine qab ?_ _));refine qat (cs:=#[.int .i64 t177,.int .i64 0,.slice none 0 0]) ?_ 1 _ rfl;(with_reducible repeat (first|refine qad ?_ _|refine qag ?_|refine qab ?_ _));refine qat (cs:=#[.int .i64 0,.int .i64 0,.slice none 0 0]) ?_ 0 _ rfl;(with_reducible repeat (first|refine qad ?_ _|refine qag ?_|refine qab ?_ _));exact BK182.out) hb);have n3_:=qaj.mk (qam (by repeat (first|(with_reducible first|exact HB.out|apply qai|apply qaa|apply qah|refine qae ?_ GE175.out|refine qae ?_ GE182.out)|exact HB.out)) hb);clear HO181;clear BK175;clear BK182;clear HB;have HO181:=n0_;have BK175:=n1_;have BK182:=n2_;have HB:=n3_;clear n0_ n1_ n2_ n3_;(try clear hb);(try clear hb2);(try clear hk);(try clear hi))|((with_reducible refine qau (f:=12) rfl ?_);refine qaJ (some 34) rfl rfl Tryd.func12 (by kernel_rfl) rfl #[.string (t183.extract 0 ((ji16):Int).toNat)] rfl (by (try simp only [List.map_toArray,List.map_cons,List.map_nil]);first|done|(simp only [hji16];rfl)|rfl|(simp only [List.length_drop,List.length_take];rfl)) ?_;(with_reducible refine (parse_Parse.calls (t183.extract 0 ((ji16):Int).toNat) t184 t185 t186 t189 t190 _ A19.out (Tabs.below HT.out (by repeat (first|(with_reducible first|exact HB.out|apply qai|apply qaa|apply qah|refine qae ?_ GE175.out|refine qae ?_ GE182.out)|exact HB.out)))).mono ?_);rintro e w162 ⟨v187,rfl,ho0,hb⟩;refine⟨_,rfl,?_⟩;have n0_:=qaj.mk (Kd.N_elder' (by (with_reducible repeat (first|apply Kd.N_alloc|apply Kd.N_drewN|apply Kd.N_drew));exact HO181.out) (Kd.S_base ho0) hb);have n1_:=qaj.mk (Kd.N_lower (Kd.N_mono (ok':=fun k_=>some k_≠(.slice Ao160 t179.length co160:Value).ownBlock∧k_≠gb175∧k_≠gb182) (Kd.S_N (Kd.S_bound ho0)) (fun k_ hk_=>⟨(Kd.fresh' (Kd.N_lt (by (with_reducible repeat (first|apply Kd.N_alloc|apply Kd.N_drewN|apply Kd.N_drew));exact HO181.out)) k_ hk_.2.1),(Kd.freshB (g:=gb175) (o:=.cells #[.int .i64 a0_0,.int .i64 a0_1,.slice A0_2 l0_2.length c0_2] 24 (0,0)) (by (with_reducible repeat (first|refine qad ?_ _|refine qag ?_|refine qab ?_ _));exact BK175.out) k_ hk_.2.1),(Kd.freshB (g:=gb182) (o:=.cells #[.int .i64 t177,.int .i64 t178,.slice Ao160 t179.length co160] 32 (0,0)) (by (with_reducible repeat (first|refine qad ?_ _|refine qag ?_|refine qab ?_ _));exact BK182.out) k_ hk_.2.1)⟩)) (qak (by repeat (first|(with_reducible first|exact HB.out|apply qai|apply qaa|apply qah|refine qae ?_ GE175.out|refine qae ?_ GE182.out)|exact HB.out))));have n2_:=qaj.mk (qal (g:=gb175) (o:=.cells #[.int .i64 a0_0,.int .i64 a0_1,.slice A0_2 l0_2.length c0_2] 24 (0,0)) (by (with_reducible repeat (first|refine qad ?_ _|refine qag ?_|refine qab ?_ _));exact BK175.out) hb);have n3_:=qaj.mk (qal (g:=gb182) (o:=.cells #[.int .i64 t177,.int .i64 t178,.slice Ao160 t179.length co160] 32 (0,0)) (by (with_reducible repeat (first|refine qad ?_ _|refine qag ?_|refine qab ?_ _));exact BK182.out) hb);have n4_:=qaj.mk (qam (by repeat (first|(with_reducible first|exact HB.out|apply qai|apply qaa|apply qah|refine qae ?_ GE175.out|refine qae ?_ GE182.out)|exact HB.out)) hb);clear HO181;clear BK175;clear BK182;clear HB;have HO181:=n0_;have HO188:=n1_;have BK175:=n2_;have BK182:=n3_;have HB:=n4_;clear n0_ n1_ n2_ n3_ n4_;(try clear hb);(try clear hb2);(try clear hk);(try clear hi);(try clear ho0))|((with_reducible refine qaE (N:=9) rfl ?_);(try (refine qaD (by rfl) ?_;dsimp only));refine qaA ?hg (N:=9) ?hd (cs:=#[.int .i64 0,.int .i64 0,.slice none 0 0]) (t:=32) ?hr ?_;(case hd=>rfl);(case hg=>rfl);(case hr=>first|(go_simp;done)|(go_simp;rfl));intro gb191 hg w163 hbox hb;have n0_:=qaj.mk (Kd.N_below (Kd.N_elderB (by (with_reducible repeat (first|apply Kd.N_alloc|apply Kd.N_drewN|apply Kd.N_drew));exact HO181.out) gb191 (Nat.le_of_eq hg.symm)) hb);have n1_:=qaj.mk (Kd.N_below (Kd.N_elderB (by (with_reducible repeat (first|apply Kd.N_alloc|apply Kd.N_drewN|apply Kd.N_drew));exact HO188.out) gb191 (Nat.le_of_eq hg.symm)) hb);have n2_:=qaj.mk (qal (g:=gb175) (o:=.cells #[.int .i64 a0_0,.int .i64 a0_1,.slice A0_2 l0_2.length c0_2] 24 (0,0)) (by (with_reducible repeat (first|refine qad ?_ _|refine qag ?_|refine qab ?_ _));exact BK175.out) hb);have n3_:=qaj.mk (qal (g:=gb182) (o:=.cells #[.int .i64 t177,.int .i64 t178,.slice Ao160 t179.length co160] 32 (0,0)) (by (with_reducible repeat (first|refine qad ?_ _|refine qag ?_|refine qab ?_ _));exact BK182.out) hb);have n4_:=qaj.mk (qam (by repeat (first|(with_reducible first|exact HB.out|apply qai|apply qaa|apply qah|refine qae ?_ GE175.out|refine qae ?_ GE182.out)|exact HB.out)) hb);have n5_:=qaj.mk (hbox);have n6_:=qaj.mk ((by rw [hg];exact (qak (by repeat (first|(with_reducible first|exact HB.out|apply qai|apply qaa|apply qah|refine qae ?_ GE175.out|refine qae ?_ GE182.out)|exact HB.out))):w.heap.size≤gb191));have n7_:=qaj.mk ((by rw [hg];exact (qak (by repeat (first|(with_reducible first|exact HB.out|apply qai|apply qaa|apply qah|refine qae ?_ GE175.out|refine qae ?_ GE182.out)|exact HB.out))):w.heap.size≤gb191));have n8_:=qaj.mk ((by rw [hg];exact Nat.ne_of_lt (qax (g:=gb175) (o:=.cells #[.int .i64 a0_0,.int .i64 a0_1,.slice A0_2 l0_2.length c0_2] 24 (0,0)) (by (with_reducible repeat (first|refine qad ?_ _|refine qag ?_|refine qab ?_ _));exact BK175.out)):gb175≠gb191));have n9_:=qaj.mk ((by rw [hg];exact Nat.ne_of_gt (qax (g:=gb175) (o:=.cells #[.int .i64 a0_0,.int .i64 a0_1,.slice A0_2 l0_2.length c0_2] 24 (0,0)) (by (with_reducible repeat (first|refine qad ?_ _|refine qag ?_|refine qab ?_ _));exact BK175.out)):gb191≠gb175));have n10_:=qaj.mk ((by rw [hg];exact Nat.ne_of_lt (qax (g:=gb182) (o:=.cells #[.int .i64 t177,.int .i64 t178,.slice Ao160 t179.length co160] 32 (0,0)) (by (with_reducible repeat (first|refine qad ?_ _|refine qag ?_|refine qab ?_ _));exact BK182.out)):gb182≠gb191));have n11_:=qaj.mk ((by rw [hg];exact Nat.ne_of_gt (qax (g:=gb182) (o:=.cells #[.int .i64 t177,.int .i64 t178,.slice Ao160 t179.length co160] 32 (0,0)) (by (with_reducible repeat (first|refine qad ?_ _|refine qag ?_|refine qab ?_ _));exact BK182.out)):gb191≠gb182));clear HO181;clear HO188;clear BK175;clear BK182;clear HB;have HO181:=n0_;have HO188:=n1_;have BK175:=n2_;have BK182:=n3_;have HB:=n4_;have BK191:=n5_;have GW191:=n6_;have GE191:=n7_;have NB175_191:=n8_;have NB191_175:=n9_;have NB182_191:=n10_;have NB191_182:=n11_;clear n0_ n1_ n2_ n3_ n4_ n5_ n6_ n7_ n8_ n9_ n10_ n11_;clear hb hbox hg;have hnb164:=NB191_175.out;have hnc164:=NB175_191.out;have hnb165:=NB191_182.out;have hnc165:=NB182_191.out;have hcz166_0:w163.cell? ⟨gb191,0,none⟩=some (.int .i64 0):=(qaf BK191.out 0).trans rfl;have hcz166_1:w163.cell? ⟨gb191,1,none⟩=some (.int .i64 0):=(qaf BK191.out 1).trans rfl;have hcz166_2:w163.cell? ⟨gb191,2,none⟩=some (.slice none 0 0):=(qaf BK191.out 2).trans rfl;have hfz166_0:=qac BK191.out 0;have hfz166_1:=qac BK191.out 1;have hfz166_2:=qac BK191.out 2;obtain⟨Ao167,co167,eo167⟩:=Kd.N_slice HO188.out;subst eo167))
      go_ret
      exact⟨by first|rfl|(simp [qao,qan]<;>rfl)|(simp [bneNil,bneNilU]<;>rfl)|(simp only [← hji16];first|rfl|(simp [qao,qan]<;>rfl))|(simp [*,qao,qan]<;>rfl),by repeat (first|(with_reducible first|exact HB.out|apply qai|apply qaa|apply qah|refine qae ?_ GE175.out|refine qae ?_ GE182.out|refine qae ?_ GE191.out)|exact HB.out)⟩
   ·rw [if_neg c18] at H
    exact absurd H (by simp)
  ·rw [if_neg c17] at H
   exact absurd H (by simp)
end
end Go.Proofs.YtcfknijdhmildaaDoor.PParseCuts
end
section
namespace Go.Proofs.YtcfknijdhmildaaDoor.PParseCuts
open Go.RowKit Go.Proofs.YtcfknijdhmildaaDoorW.PrintWords Go.Proofs.YtcfknijdhmildaaDoorW.PrintLast Go.Proofs.YtcfknijdhmildaaDoorW.PrintMore
attribute [local go_sem] max2_int min2_int max_two min_two max_three min_three max_four min_four
set_option linter.unusedVariables false
set_option linter.unusedSimpArgs false
noncomputable section
end
end Go.Proofs.YtcfknijdhmildaaDoor.PParseCuts
end
section
namespace Go.Proofs.YtcfknijdhmildaaDoor.PParseCuts
open Go.RowKit Go.Lib Go.Proofs.YtcfknijdhmildaaDoorW.PrintWords
theorem awake_f:ostinatolaw07_awake.f=some true:=rfl
theorem parse_f {s:ByteArray} (hs:s.size≤65536) {S R at_ e:Int} {L:List Tk} (h:parseP s=(S,R,L,at_,e)):parse_Parse.f s=some (S,R,L.map tkTo,at_,e):=by
 unfold parse_Parse.f
 rw [if_pos hs,h]
theorem tkOf_tkTo (L:List Tk):(L.map tkTo).map tkOf=L:=by
 rw [List.map_map]
 exact List.map_id' L
theorem print_f {sets rel:Int} {L:List Tk} (h:checkE sets rel L=0) (hs:∀ x ∈ L,x.ch.length≤1000000∧x.us.length≤1000000∧x.c≤9223372036854775807):parse_Print.f sets rel (L.map tkTo)=some (printT sets rel L):=by
 have hl:=(checkE_small h).2.2.2
 unfold parse_Print.f
 rw [if_pos,tkOf_tkTo,if_pos h]
 unfold prnOk
 rw [List.length_map]
 simp only [Bool.and_eq_true,decide_eq_true_eq]
 refine⟨by omega,List.all_eq_true.2 (fun y hy=>?_)⟩
 obtain⟨x,hx,rfl⟩:=List.mem_map.1 hy
 obtain⟨a,b,c⟩:=hs x hx
 simp only [Bool.and_eq_true,decide_eq_true_eq]
 exact⟨⟨a,b⟩,c⟩
theorem rd_nat {L:List Int} {i:Nat} (h:i<L.length):rd L (i:Int)=L[i]:=by
 simp [rd,List.getD_eq_getElem?_getD,List.getElem?_eq_getElem h]
def usE (sets:Int) (us l:List Int):Int:=if us.length≤64∧l.any (farB sets)=false then 0 else 12
theorem rdT_nat {L:List Tk} {i:Nat} (h:i<L.length):qar (L.map tkTo) (i:Int)=tkTo L[i]:=by
 simp [qar,List.getD_eq_getElem?_getD,List.getElem?_eq_getElem h]
def lastI (L:List Tk) (i:Nat):Int:=if h:i - 1<L.length then (if i=0 then 0 else L[i - 1].id) else 0
theorem right_l1 (sets id c d t p:Int) (ch us:List Int) (hl:us.length≤1000000):∀ (n i:Nat),i+n=us.length→Ev (fun k=>ostinatoref05_Right.l1 k sets (i:Int) id c d t p ch us) (usE sets us (us.drop i)):=by
 intro n
 induction n with
 |zero=>
  intro i hi
  obtain rfl:i=us.length:=by omega
  refine Ev.step (fun k=>by rw [ostinatoref05_Right.l1]) (Ev.ifn (by omega) ?_)
  unfold usE
  rw [List.drop_eq_nil_of_le (Nat.le_refl _)]
  by_cases h:us.length≤64
  ·have e:(us.length≤64∧([]:List Int).any (farB sets)=false):=⟨h,rfl⟩
   rw [if_pos e];exact Ev.ifn (by omega) (Ev.now _)
  ·have e:¬ (us.length≤64∧([]:List Int).any (farB sets)=false):=fun e=>h e.1
   rw [if_neg e];exact Ev.ifp (by omega) (Ev.now _)
 |succ n ih=>
  intro i hi
  have hil:i<us.length:=by omega
  have hd:us.drop i=us[i]::us.drop (i+1):=List.drop_eq_getElem_cons hil
  have hr:=rd_nat hil
  have hstep:∀ b:Bool,usE sets us (us.drop i)=if farB sets us[i]=true then 12 else usE sets us (us.drop (i+1)):=by
   intro _
   unfold usE
   rw [hd,List.any_cons]
   cases farB sets us[i] with
   |true=>simp
   |false=>simp
  rw [hstep true]
  refine Ev.step (fun k=>by rw [ostinatoref05_Right.l1,hr]) (Ev.ifp (by omega) (Ev.ifp (by omega) ?_))
  by_cases h1:us[i]<0
  ·rw [if_pos (by unfold farB;exact decide_eq_true (.inl h1))]
   exact Ev.ifp h1 (Ev.now _)
  ·refine Ev.ifn h1 ?_
   by_cases h2:us[i] ≥ sets
   ·rw [if_pos (by unfold farB;exact decide_eq_true (.inr h2))]
    exact Ev.ifp h2 (Ev.now _)
   ·rw [if_neg (by unfold farB;simp;omega)]
    refine Ev.ifn h2 ?_
    rw [qaU i (by omega)]
    exact ih (i+1) (by omega)
def chE (left sets:Int) (ch us l:List Int):Int:=if chunkFin ch (chunkL left l)=true then usE sets us us else 13
theorem right_l0 (sets id c d t p:Int) (ch us:List Int) (hc:ch.length≤1000000) (hl:us.length≤1000000):∀ (n i:Nat) (left:Int),i+n=ch.length→left≤9223372036854775807→-9223372036854775808≤left→Ev (fun k=>ostinatoref05_Right.l0 k sets left (i:Int) id c d t p ch us) (chE left sets ch us (ch.drop i)):=by
 have hj:∀ b:Bool,Ev (fun k=>ostinatoref05_Right.j3 k sets b id c d t p ch us) (if b=true then 13 else usE sets us us):=by
  intro b
  refine Ev.step (fun k=>by rw [ostinatoref05_Right.j3]) ?_
  cases b with
  |true=>exact Ev.ifp rfl (Ev.now _)
  |false=>exact Ev.ifn (by decide) (by simpa using right_l1 sets id c d t p ch us hl us.length 0 (by omega))
 intro n
 induction n with
 |zero=>
  intro i left hi h1 h2
  obtain rfl:i=ch.length:=by omega
  refine Ev.step (fun k=>by rw [ostinatoref05_Right.l0]) (Ev.ifn (by omega) ?_)
  unfold chE
  rw [List.drop_eq_nil_of_le (Nat.le_refl _)]
  show Ev _ (if (decide (ch.length=0) || (decide (ch.length≤64) && decide (left=0)))=true then usE sets us us else 13)
  by_cases h64:(ch.length:Int) > 64
  ·have e:(decide (ch.length=0) || (decide (ch.length≤64) && decide (left=0)))=false:=by
    rw [decide_eq_false (show ¬ ch.length=0 by omega),decide_eq_false (show ¬ ch.length≤64 by omega)];rfl
   rw [e,if_neg (by decide)]
   exact Ev.ifp h64 (by simpa using hj true)
  ·refine Ev.ifn h64 ?_
   by_cases h0:(ch.length:Int) > 0
   ·refine Ev.ifp h0 ?_
    have h:=hj (left != 0)
    have e:(decide (ch.length=0) || (decide (ch.length≤64) && decide (left=0))) = !(left != 0):=by
     have a1:decide (ch.length=0)=false:=decide_eq_false (by omega)
     have a2:decide (ch.length≤64)=true:=decide_eq_true (by omega)
     rw [a1,a2]
     by_cases hz:left=0<;>simp [hz]
    rw [e]
    cases hb:(left != 0) with
    |true=>rw [hb] at h;simpa using h
    |false=>rw [hb] at h;simpa using h
   ·have e:(decide (ch.length=0) || (decide (ch.length≤64) && decide (left=0)))=true:=by
     rw [decide_eq_true (show ch.length=0 by omega)];rfl
    rw [e,if_pos rfl]
    exact Ev.ifn h0 (by simpa using hj false)
 |succ n ih=>
  intro i left hi h1 h2
  have hil:i<ch.length:=by omega
  have hd:ch.drop i=ch[i]::ch.drop (i+1):=List.drop_eq_getElem_cons hil
  have hr:=rd_nat hil
  refine Ev.step (fun k=>by rw [ostinatoref05_Right.l0,hr]) (Ev.ifp (by omega) (Ev.ifp (by omega) ?_))
  have hstep:chE left sets ch us (ch.drop i)=if 1≤ch[i]∧ch[i]≤left then chE (left - ch[i]) sets ch us (ch.drop (i+1)) else 13:=by
   unfold chE
   rw [hd,chunkL]
   by_cases h:1≤ch[i]∧ch[i]≤left
   ·rw [if_pos h,if_pos h]
   ·rw [if_neg h,if_neg h];rfl
  rw [hstep]
  by_cases ha:ch[i]<1
  ·rw [if_neg (by omega)];exact Ev.ifp ha (Ev.now _)
  ·refine Ev.ifn ha ?_
   by_cases hb:ch[i] > left
   ·rw [if_neg (by omega)];exact Ev.ifp hb (Ev.now _)
   ·rw [if_pos (by omega)]
    refine Ev.ifn hb ?_
    rw [qaU i (by omega),qaN (by omega) (by omega)]
    exact ih (i+1) (left - ch[i]) (by omega) (by omega) (by omega)
theorem right_f (id c d t p:Int) (ch us:List Int) (sets:Int) (hc:ch.length≤1000000) (hl:us.length≤1000000) (hcc:c≤9223372036854775807):Ev (fun k=>ostinatoref05_Right.f k id c d t p ch us sets) (rightE id c d t p ch us sets):=by
 have hj1:∀ b:Bool,1≤c→Ev (fun k=>ostinatoref05_Right.j1 k sets b id c d t p ch us) (if b=true then 10 else chE c sets ch us ch):=by
  intro b h1
  refine Ev.step (fun k=>by rw [ostinatoref05_Right.j1]) ?_
  cases b with
  |true=>exact Ev.ifp rfl (Ev.now _)
  |false=>exact Ev.ifn (by decide) (by simpa using right_l0 sets id c d t p ch us hc hl ch.length 0 c (by omega) hcc (by omega))
 have hj1':Ev (fun k=>ostinatoref05_Right.j1 k sets true id c d t p ch us) 10:=Ev.step (fun k=>by rw [ostinatoref05_Right.j1]) (Ev.ifp rfl (Ev.now _))
 have hj0t:Ev (fun k=>ostinatoref05_Right.j0 k sets true id c d t p ch us) 1:=Ev.step (fun k=>by rw [ostinatoref05_Right.j0]) (Ev.ifp rfl (Ev.now _))
 have hE:chE c sets ch us ch=if chunksB c ch=true then (if us.length≤64∧us.any (farB sets)=false then 0 else 12) else 13:=rfl
 have hj0f:Ev (fun k=>ostinatoref05_Right.j0 k sets false id c d t p ch us) (if inB c 1 d=true∧inB d 1 t=true∧t≤1073741824 then chE c sets ch us ch else 10):=by
  refine Ev.step (fun k=>by rw [ostinatoref05_Right.j0]) (Ev.ifn (by decide) ?_)
  unfold inB
  simp only [decide_eq_true_eq]
  by_cases h1:c<1
  ·rw [if_neg (by omega)];exact Ev.ifp h1 hj1'
  ·refine Ev.ifn h1 ?_
   by_cases h2:c > d
   ·rw [if_neg (by omega)];exact Ev.ifp h2 hj1'
   ·refine Ev.ifn h2 ?_
    by_cases h3:d > t
    ·rw [if_neg (by omega)];exact Ev.ifp h3 hj1'
    ·refine Ev.ifn h3 ?_
     have h:=hj1 (decide (t > 1073741824)) (by omega)
     by_cases h4:t > 1073741824
     ·rw [if_neg (by omega)];rw [decide_eq_true h4] at h ⊢;simpa using h
     ·rw [if_pos (by omega)];rw [decide_eq_false h4] at h ⊢;simpa using h
 unfold ostinatoref05_Right.f rightE
 rw [← hE]
 have hin:(inB id 1 99=true∧inB p 1 99=true)↔(1≤id∧id≤99)∧(1≤p∧p≤99):=by unfold inB;simp only [decide_eq_true_eq]
 by_cases h1:id<1
 ·rw [if_neg (by rw [hin];omega)];exact Ev.ifp h1 hj0t
 ·refine Ev.ifn h1 ?_
  by_cases h2:id > 99
  ·rw [if_neg (by rw [hin];omega)];exact Ev.ifp h2 hj0t
  ·refine Ev.ifn h2 ?_
   by_cases h3:p<1
   ·rw [if_neg (by rw [hin];omega)];exact Ev.ifp h3 hj0t
   ·refine Ev.ifn h3 ?_
    by_cases h4:p > 99
    ·rw [if_neg (by rw [hin];omega),decide_eq_true h4];exact hj0t
    ·rw [if_pos (by rw [hin];omega),decide_eq_false h4];exact hj0f
theorem rightE_id {x:Tk} {sets:Int} (h:rightE x.id x.c x.d x.t x.p x.ch x.us sets=0):1≤x.id:=by
 unfold rightE at h
 split at h
 ·rename_i h1
  have:=h1.1
  unfold inB at this
  simp at this
  exact this.1
 ·omega
theorem check_l1 (sets rel:Int) (L:List Tk) (hL:L.length≤70000) (V:Int) (i:Nat) (hi:i<L.length) (hV:Ev (fun k=>ostinatoref05_Check.l0 k ((i+1:Nat):Int) sets rel (L.map tkTo)) V):∀ (n j:Nat),j+n=i →
  Ev (fun k=>ostinatoref05_Check.l1 k (i:Int) (j:Int) sets rel (L.map tkTo)) (if L[i].p ∈ ((L.take i).drop j).map (·.p) then 14 else V):=by
 intro n
 induction n with
 |zero=>
  intro j hj
  obtain rfl:j=i:=by omega
  rw [List.drop_eq_nil_of_le (by simp;omega)]
  refine Ev.step (fun k=>by rw [ostinatoref05_Check.l1]) (Ev.ifn (by omega) ?_)
  rw [qaU j (by omega),if_neg (by simp)]
  exact hV
 |succ n ih=>
  intro j hj
  have hjl:j<L.length:=by omega
  have hjt:j<(L.take i).length:=by simp;omega
  have hd:(L.take i).drop j=L[j]::(L.take i).drop (j+1):=by
   rw [List.drop_eq_getElem_cons hjt];simp
  refine Ev.step (fun k=>by rw [ostinatoref05_Check.l1,rdT_nat hjl,rdT_nat hi]) ?_
  refine Ev.ifp (by omega) (Ev.ifp (by omega) (Ev.ifp (by simp;omega) (Ev.ifp (by omega) (Ev.ifp (by simp;omega) ?_))))
  rw [hd,List.map_cons]
  by_cases he:L[j].p=L[i].p
  ·rw [if_pos (by simp [he])]
   exact Ev.ifp he (Ev.now _)
  ·refine Ev.ifn he ?_
   rw [qaU j (by omega)]
   have h:=ih (j+1) (by omega)
   have e:(L[i].p ∈ L[j].p::((L.take i).drop (j+1)).map (·.p))↔(L[i].p ∈ ((L.take i).drop (j+1)).map (·.p)):=by
    rw [List.mem_cons]
    exact⟨fun h=>h.elim (fun e=>absurd e.symm he) id,.inr⟩
   by_cases hm:L[i].p ∈ ((L.take i).drop (j+1)).map (·.p)
   ·rw [if_pos (e.2 hm)];rw [if_pos hm] at h;exact h
   ·rw [if_neg (fun x=>hm (e.1 x))];rw [if_neg hm] at h;exact h
theorem check_l0 (sets rel:Int) (L:List Tk) (hL:L.length≤70000) (hb:∀ x ∈ L,x.ch.length≤1000000∧x.us.length≤1000000∧x.c≤9223372036854775807):∀ (n i:Nat),i+n=L.length →
  Ev (fun k=>ostinatoref05_Check.l0 k (i:Int) sets rel (L.map tkTo)) (checkGo sets (lastI L i) ((L.take i).map (·.p)) (L.drop i)):=by
 intro n
 induction n with
 |zero=>
  intro i hi
  obtain rfl:i=L.length:=by omega
  rw [List.drop_eq_nil_of_le (Nat.le_refl _)]
  refine Ev.step (fun k=>by rw [ostinatoref05_Check.l0]) ?_
  exact Ev.ifn (by simp) (Ev.now _)
 |succ n ih=>
  intro i hi
  have hil:i<L.length:=by omega
  have hx:=hb L[i] (List.getElem_mem hil)
  rw [checkGo_step hil]
  have hR:=right_f L[i].id L[i].c L[i].d L[i].t L[i].p L[i].ch L[i].us sets hx.1 hx.2.1 hx.2.2
  have hnext:=ih (i+1) (by omega)
  have hlast:lastI L (i+1)=L[i].id:=by unfold lastI;simp [hil]
  have htk:(L.take (i+1)).map (·.p)=(L.take i).map (·.p)++[L[i].p]:=by rw [List.take_add_one,List.getElem?_eq_getElem hil,List.map_append];rfl
  rw [hlast,htk] at hnext
  have h1:=check_l1 sets rel L hL _ i hil hnext i 0 (by omega)
  rw [List.drop_zero] at h1
  refine Ev.step (fun k=>by rw [ostinatoref05_Check.l0,rdT_nat hil]) ?_
  refine Ev.ifp (by simp;omega) (Ev.ifp (by omega) ?_)
  refine Ev.bind hR ?_
  by_cases hr0:rightE L[i].id L[i].c L[i].d L[i].t L[i].p L[i].ch L[i].us sets=0
  rotate_left
  ·rw [if_neg hr0];exact Ev.ifn hr0 (Ev.now _)
  rw [if_pos hr0]
  refine Ev.ifp hr0 ?_
  have hid:=rightE_id hr0
  have hj2:∀ b:Bool,Ev (fun k=>ostinatoref05_Check.j2 k (i:Int) b sets rel (L.map tkTo)) (if b=true then 10 else if L[i].p ∈ (L.take i).map (·.p) then 14 else checkGo sets L[i].id ((L.take i).map (·.p)++[L[i].p]) (L.drop (i+1))):=by
   intro b
   refine Ev.step (fun k=>by rw [ostinatoref05_Check.j2]) ?_
   cases b with
   |true=>exact Ev.ifp rfl (Ev.now _)
   |false=>exact Ev.ifn (by decide) (by simpa using h1)
  by_cases hi0:i=0
  ·subst hi0
   have hla:lastI L 0=0:=by unfold lastI;split<;>simp
   rw [hla,if_neg (by omega)]
   exact Ev.ifn (by decide) (by simpa using hj2 false)
  ·have hla:lastI L i=(L[i - 1]'(by omega)).id:=by unfold lastI;rw [dif_pos (by omega),if_neg hi0]
   have hw:wrap64 ((i:Int) - 1)=((i - 1:Nat):Int):=by rw [qaN (by omega) (by omega)];omega
   rw [hla]
   refine Ev.ifp (by omega) (Ev.congr (fun k=>by rw [hw,rdT_nat (show i - 1<L.length by omega)]) (Ev.ifp (by omega) (Ev.ifp (by simp;omega) ?_)))
   have h:=hj2 (decide (L[i].id≤(L[i - 1]'(by omega)).id))
   by_cases hle:L[i].id≤(L[i - 1]'(by omega)).id
   ·rw [if_pos hle];rw [decide_eq_true hle] at h;rw [if_pos rfl] at h
    show Ev (fun n=>ostinatoref05_Check.j2 n (i:Int) (decide ((tkTo L[i]).f0≤(tkTo (L[i - 1]'(by omega))).f0)) sets rel (L.map tkTo)) 10
    rw [show decide ((tkTo L[i]).f0≤(tkTo (L[i - 1]'(by omega))).f0)=true from decide_eq_true hle]
    exact h
   ·rw [if_neg hle];rw [decide_eq_false hle] at h;rw [if_neg (by decide)] at h
    show Ev (fun n=>ostinatoref05_Check.j2 n (i:Int) (decide ((tkTo L[i]).f0≤(tkTo (L[i - 1]'(by omega))).f0)) sets rel (L.map tkTo)) _
    rw [show decide ((tkTo L[i]).f0≤(tkTo (L[i - 1]'(by omega))).f0)=false from decide_eq_false hle]
    exact h
theorem check_f (sets rel:Int) (L:List Tk) (hL:L.length≤70000) (hb:∀ x ∈ L,x.ch.length≤1000000∧x.us.length≤1000000∧x.c≤9223372036854775807):Ev (fun k=>ostinatoref05_Check.f k sets rel (L.map tkTo)) (checkE sets rel L):=by
 have ht:Ev (fun k=>ostinatoref05_Check.j0 k true sets rel (L.map tkTo)) 1:=Ev.step (fun k=>by rw [ostinatoref05_Check.j0]) (Ev.ifp rfl (Ev.now _))
 have h0:=check_l0 sets rel L hL hb L.length 0 (by omega)
 have hla:lastI L 0=0:=by unfold lastI;split<;>simp
 rw [hla,List.take_zero,List.drop_zero] at h0
 have hf:Ev (fun k=>ostinatoref05_Check.j0 k false sets rel (L.map tkTo)) (if L.length≤64 then checkGo sets 0 [] L else 15):=by
  refine Ev.step (fun k=>by rw [ostinatoref05_Check.j0]) (Ev.ifn (by decide) ?_)
  by_cases h:L.length≤64
  ·rw [if_pos h];exact Ev.ifn (by simp;omega) (by simpa using h0)
  ·rw [if_neg h];exact Ev.ifp (by simp;omega) (Ev.now _)
 unfold ostinatoref05_Check.f checkE
 have hin:(inB sets 0 256=true∧inB rel 0 1000=true∧L.length≠0)↔(0≤sets∧sets≤256)∧(0≤rel∧rel≤1000)∧L.length≠0:=by unfold inB;simp only [decide_eq_true_eq]
 by_cases h1:sets<0
 ·rw [if_neg (by rw [hin];omega)];exact Ev.ifp h1 ht
 ·refine Ev.ifn h1 ?_
  by_cases h2:sets > 256
  ·rw [if_neg (by rw [hin];omega)];exact Ev.ifp h2 ht
  ·refine Ev.ifn h2 ?_
   by_cases h3:rel<0
   ·rw [if_neg (by rw [hin];omega)];exact Ev.ifp h3 ht
   ·refine Ev.ifn h3 ?_
    by_cases h4:rel > 1000
    ·rw [if_neg (by rw [hin];omega)];exact Ev.ifp h4 ht
    ·refine Ev.ifn h4 ?_
     by_cases h5:L.length=0
     ·rw [if_neg (by rw [hin];omega)]
      have e:(((L.map tkTo).length:Int) == 0)=true:=by simp [h5]
      rw [e];exact ht
     ·rw [if_pos (by rw [hin];omega)]
      have e:(((L.map tkTo).length:Int) == 0)=false:=by simpa using h5
      rw [e];exact hf
end Go.Proofs.YtcfknijdhmildaaDoor.PParseCuts
end
section
namespace Go.Proofs.YtcfknijdhmildaaDoor.PParseCuts
open Go.RowKit Go.Proofs.YtcfknijdhmildaaDoorW.PrintWords
theorem rest_f (n b:Int) (h0:0<b) (h1:b≤1000000):ostinatoref05_rest.f n b=some (n % b):=by
 unfold ostinatoref05_rest.f
 rw [if_neg (by omega),rest_wrapP n b h0 h1]
structure GoodTask (i:Nat) (sets:Int) (t:S52):Prop where
 id:t.f0=(i:Int)+1
 c1:1≤t.f1
 cd:t.f1≤t.f2
 dt:t.f2≤t.f3
 t4:4≤t.f3
 t24:t.f3≤24
 p1:10≤t.f4
 p99:t.f4≤90+i
 pi:t.f4 % 10=i
 chl:t.f5.length≤25
 ch1:∀ y ∈ t.f5,1≤y
 chs:t.f5=[]∨t.f5.sum=t.f1
 usl:t.f6.length≤5
 us:∀ u ∈ t.f6,0≤u∧u<sets
structure GoodSys (sets reload:Int) (l:List S52):Prop where
 s1:1≤sets
 s8:sets≤8
 r0:0≤reload
 r3:reload≤3
 l1:1≤l.length
 l6:l.length≤6
 task:∀ (i:Nat) (h:i<l.length),GoodTask i sets l[i]
theorem task_l1 (s:Int) (hs:1≤s∧s≤8) (c0 c1 c2 c3 c4:Int) (U:List Int) (t0 t1 t2 t3 t4:Int) (t5:List Int):∀ (d g:Nat) (us:List Int),g+d=5→us.length=g→(∀ u ∈ us,0≤u∧u<s) →
  ∃ us',Ev (fun k=>ostinatoref05_Num_task.l1 k s (g:Int) c0 c1 c2 c3 c4 U t0 t1 t2 t3 t4 t5 us) (t0,t1,t2,t3,t4,t5,us')∧us'.length≤5∧∀ u ∈ us',0≤u∧u<s:=by
 intro d
 induction d with
 |zero=>
  intro g us hg hl hu
  obtain rfl:g=5:=by omega
  refine⟨us,Ev.step (fun k=>by rw [ostinatoref05_Num_task.l1]) ?_,by omega,hu⟩
  exact Ev.ite_ (fun _=>Ev.ifn (by decide) (Ev.now _)) (fun _=>Ev.now _)
 |succ d ih=>
  intro g us hg hl hu
  by_cases hU:(g:Int)<(U.length:Int)
  ·have hr:=rest_f (rd U g) s (by omega) (by omega)
   obtain⟨us',h1,h2,h3⟩:=ih (g+1) (us++[rd U g % s]) (by omega) (by simp [hl]) (fun u hu'=>by
    rcases List.mem_append.1 hu' with h|h
    ·exact hu u h
    ·simp at h;subst h;exact⟨Int.emod_nonneg _ (by omega),Int.emod_lt_of_pos _ (by omega)⟩)
   refine⟨us',Ev.step (fun k=>by rw [ostinatoref05_Num_task.l1]) ?_,h2,h3⟩
   refine Ev.ifp hU (Ev.ifp (by omega) (Ev.ifp (by omega) (Ev.bindS hr (Ev.ifp (by omega) ?_))))
   rw [qaU g (by omega)]
   exact h1
  ·exact⟨us,Ev.step (fun k=>by rw [ostinatoref05_Num_task.l1]) (Ev.ifn hU (Ev.now _)),by omega,hu⟩
theorem task_l0 (s:Int) (hs:1≤s∧s≤8) (c:Nat) (hc:1≤c∧c≤24) (c0 c1 c2 c3 c4:Int) (U:List Int) (t0 t1 t2 t3 t4:Int):∀ (d i f:Nat) (ch:List Int),i+d=c→f<i→ch.length<i→(∀ y ∈ ch,1≤y)→ch.sum=(f:Int)→(f=0→ch=[]) →
  ∃ ch' us',Ev (fun k=>ostinatoref05_Num_task.l0 k s (c:Int) (f:Int) (i:Int) c0 c1 c2 c3 c4 U t0 t1 t2 t3 t4 ch) (t0,t1,t2,t3,t4,ch',us')∧ch'.length≤25∧(∀ y ∈ ch',1≤y)∧(ch' = []∨ch'.sum=(c:Int))∧us'.length≤5∧∀ u ∈ us',0≤u∧u<s:=by
 intro d
 induction d with
 |zero=>
  intro i f ch hi hf hl hy hsum h0
  obtain rfl:i=c:=by omega
  have ej:∀ t5 us',Ev (fun k=>ostinatoref05_Num_task.l1 k s ((0:Nat):Int) c0 c1 c2 c3 c4 U t0 t1 t2 t3 t4 t5 []) (t0,t1,t2,t3,t4,t5,us')→Ev (fun k=>ostinatoref05_Num_task.j1 k s c0 c1 c2 c3 c4 U t0 t1 t2 t3 t4 t5) (t0,t1,t2,t3,t4,t5,us'):=fun t5 us' h=>Ev.step (fun k=>by rw [ostinatoref05_Num_task.j1];rfl) h
  by_cases hf0:(f:Int) > 0
  ·obtain⟨us',h1,h2,h3⟩:=task_l1 s hs c0 c1 c2 c3 c4 U t0 t1 t2 t3 t4 (ch++[wrap64 ((i:Int) - f)]) 5 0 [] rfl rfl (fun u hu=>by cases hu)
   refine⟨_,us',Ev.step (fun k=>by rw [ostinatoref05_Num_task.l0]) (Ev.ifn (by omega) (Ev.ifp hf0 (Ev.ifp (by omega) (ej _ _ h1)))),by simp;omega,?_,.inr ?_,h2,h3⟩
   ·intro y hm
    rcases List.mem_append.1 hm with h|h
    ·exact hy y h
    ·simp at h;subst h;rw [qaN (by omega) (by omega)];omega
   ·rw [List.sum_append,hsum,qaN (by omega) (by omega)];simp;omega
  ·obtain⟨us',h1,h2,h3⟩:=task_l1 s hs c0 c1 c2 c3 c4 U t0 t1 t2 t3 t4 ch 5 0 [] rfl rfl (fun u hu=>by cases hu)
   exact⟨_,us',Ev.step (fun k=>by rw [ostinatoref05_Num_task.l0]) (Ev.ifn (by omega) (Ev.ifn hf0 (ej _ _ h1))),by omega,hy,.inl (h0 (by omega)),h2,h3⟩
 |succ d ih=>
  intro i f ch hi hf hl hy hsum h0
  by_cases hb:bits .and .i64 (shr .i64 c4 (IntKind.u64.wrap (i:Int))) 1=1
  ·obtain⟨ch',us',h1,h2⟩:=ih (i+1) i (ch++[wrap64 ((i:Int) - f)]) (by omega) (by omega) (by simp;omega) (fun y hm=>by
    rcases List.mem_append.1 hm with h|h
    ·exact hy y h
    ·simp at h;subst h;rw [qaN (by omega) (by omega)];omega) (by rw [List.sum_append,hsum,qaN (by omega) (by omega)];simp;omega) (fun h=>by omega)
   refine⟨ch',us',Ev.step (fun k=>by rw [ostinatoref05_Num_task.l0]) (Ev.ifp (by omega) (Ev.ifp (u64_nonneg _) (Ev.ifp hb (Ev.ifp (by omega) ?_)))),h2⟩
   rw [qaU i (by omega)]
   exact h1
  ·obtain⟨ch',us',h1,h2⟩:=ih (i+1) f ch (by omega) (by omega) (by omega) hy hsum h0
   refine⟨ch',us',Ev.step (fun k=>by rw [ostinatoref05_Num_task.l0]) (Ev.ifp (by omega) (Ev.ifp (u64_nonneg _) (Ev.ifn hb ?_))),h2⟩
   rw [qaU i (by omega)]
   exact h1
theorem per_rng (j:Int) (h0:0≤j) (h8:j<8):4≤rd [4,5,6,8,10,12,20,24] j∧rd [4,5,6,8,10,12,20,24] j≤24:=by
 obtain⟨n,rfl⟩:∃ n:Nat,j=n:=⟨j.toNat,by omega⟩
 have h:n=0∨n=1∨n=2∨n=3∨n=4∨n=5∨n=6∨n=7:=by omega
 rcases h with rfl|rfl|rfl|rfl|rfl|rfl|rfl|rfl<;>decide
theorem task_f (nC nD nT nP nK:Int) (U:List Int) (i:Nat) (hi:i≤5) (s:Int) (hs:1≤s∧s≤8) :
  ∃ x:S52,Ev (fun k=>ostinatoref05_Num_task.f k nC nD nT nP nK U (i:Int) s) (x.f0,x.f1,x.f2,x.f3,x.f4,x.f5,x.f6)∧GoodTask i s x:=by
 obtain⟨j0,j8⟩:=and7_rng nT
 obtain⟨p4,p24⟩:=per_rng _ j0 j8
 obtain⟨T,hT⟩:∃ T,rd [4,5,6,8,10,12,20,24] (bits .and .i64 nT 7)=T:=⟨_,rfl⟩
 have hD:=rest_f nD T (by omega) (by omega)
 have d0:=Int.emod_nonneg nD (show T≠0 by omega)
 have d1:=Int.emod_lt_of_pos nD (show 0<T by omega)
 obtain⟨D,hDv⟩:∃ D,nD % T=D:=⟨_,rfl⟩
 rw [hDv] at hD d0 d1
 have hC:=rest_f nC (1+D) (by omega) (by omega)
 have e0:=Int.emod_nonneg nC (show 1+D≠0 by omega)
 have e1:=Int.emod_lt_of_pos nC (show 0<1+D by omega)
 obtain⟨C,hCv⟩:∃ C,nC % (1+D)=C:=⟨_,rfl⟩
 rw [hCv] at hC e0 e1
 have hP:=rest_f nP 9 (by omega) (by omega)
 have q0:=Int.emod_nonneg nP (show (9:Int)≠0 by omega)
 have q1:=Int.emod_lt_of_pos nP (show (0:Int)<9 by omega)
 obtain⟨p,hpv⟩:∃ p,nP % 9=p:=⟨_,rfl⟩
 rw [hpv] at hP q0 q1
 obtain⟨cn,hcn⟩:∃ c:Nat,1+C=c:=⟨(1+C).toNat,by omega⟩
 obtain⟨ch',us',h1,h2,h3,h4,h5,h6⟩:=task_l0 s hs cn (by omega) nC nD nT nP nK U ((i:Int)+1) (cn:Int) (1+D) T (10 * (1+p)+i) (cn - 1) 1 0 [] (by omega) (by decide) (by decide) (fun y hy=>by cases hy) rfl (fun _=>rfl)
 refine⟨⟨(i:Int)+1,cn,1+D,T,10 * (1+p)+i,ch',us'⟩,?_,⟨rfl,by show (1:Int)≤cn;omega,by show (cn:Int)≤1+D;omega,by show 1+D≤T;omega,by show 4≤T;omega,by show T≤24;omega,by show 10≤10 * (1+p)+(i:Int);omega,by show 10 * (1+p)+(i:Int)≤90+i;omega,by show (10 * (1+p)+(i:Int)) % 10=i;omega,h2,h3,h4,h5,h6⟩⟩
 show Ev _ ((i:Int)+1,(cn:Int),1+D,T,10 * (1+p)+(i:Int),ch',us')
 unfold ostinatoref05_Num_task.f
 rw [hT]
 refine Ev.ifp j0 (Ev.ifp j8 (Ev.bindS hD ?_))
 rw [qaN (show -9223372036854775808≤1+D by omega) (by omega)]
 refine Ev.bindS hC (Ev.bindS hP ?_)
 rw [hcn,qaN (show -9223372036854775808≤(cn:Int) by omega) (by omega),qaN (show -9223372036854775808≤(i:Int)+1 by omega) (by omega),qaN (show -9223372036854775808≤1+p by omega) (by omega),qaN (show -9223372036854775808≤10 * (1+p) by omega) (by omega),qaN (show -9223372036854775808≤10 * (1+p)+(i:Int) by omega) (by omega)]
 exact h1
theorem good_default (s:Int):GoodTask 0 s (⟨1,1,4,4,10,[],[]⟩:S52):=
 ⟨rfl,Int.le_refl _,(by decide:(1:Int)≤4),Int.le_refl _,Int.le_refl _,(by decide:(4:Int)≤24),Int.le_refl _,(by decide:(10:Int)≤90+((0:Nat):Int)),rfl,Nat.zero_le _,fun y hy=>(by cases hy),.inl rfl,Nat.zero_le _,fun y hy=>(by cases hy)⟩
theorem made_l0 (a b:Int) (M:List S59) (s:Int) (hs:1≤s∧s≤8) (rl:Int) (hrl:0≤rl∧rl≤3):∀ (d i:Nat) (acc:List S52),i+d=6→acc.length=i→(∀ (j:Nat) (h:j<acc.length),GoodTask j s acc[j]) →
  ∃ L,Ev (fun k=>ostinatoref05_System_Made.l0 k (i:Int) a b M s rl acc) (s,rl,L)∧GoodSys s rl L:=by
 have hend:∀ (i:Nat) (acc:List S52),i≤6→acc.length=i→(∀ (j:Nat) (h:j<acc.length),GoodTask j s acc[j])→∃ L,Ev (fun _=>if (acc.length:Int)=0 then (some (s,rl,(([(⟨1,1,4,4,10,([]:List Int),([]:List Int)⟩:S52)]:List (S52))))) else (some (s,rl,acc))) (s,rl,L)∧GoodSys s rl L:=by
  intro i acc hi hl hg
  by_cases h0:(acc.length:Int)=0
  ·refine⟨_,Ev.ifp h0 (Ev.now _),⟨hs.1,hs.2,hrl.1,hrl.2,by decide,by decide,fun j hj=>?_⟩⟩
   obtain rfl:j=0:=by simpa using hj
   exact good_default s
  ·exact⟨_,Ev.ifn h0 (Ev.now _),⟨hs.1,hs.2,hrl.1,hrl.2,by omega,by omega,hg⟩⟩
 intro d
 induction d with
 |zero=>
  intro i acc hi hl hg
  obtain⟨L,h1,h2⟩:=hend i acc (by omega) hl hg
  refine⟨L,Ev.step (fun k=>by rw [ostinatoref05_System_Made.l0]) (Ev.ite_ (fun _=>Ev.ifn (by omega) h1) (fun _=>h1)),h2⟩
 |succ d ih=>
  intro i acc hi hl hg
  by_cases hM:(i:Int)<(M.length:Int)
  ·obtain⟨x,hx,hgx⟩:=task_f ((qaL M i).f0) ((qaL M i).f1) ((qaL M i).f2) ((qaL M i).f3) ((qaL M i).f4) ((qaL M i).f5) i (by omega) s hs
   obtain⟨L,h1,h2⟩:=ih (i+1) (acc++[x]) (by omega) (by simp [hl]) (fun j hj=>by
    by_cases hji:j<acc.length
    ·rw [List.getElem_append_left hji];exact hg j hji
    ·have:j=acc.length:=by simp at hj;omega
     subst this
     rw [List.getElem_append_right (Nat.le_refl _)]
     simp [hl]
     exact hgx)
   refine⟨L,Ev.step (fun k=>by rw [ostinatoref05_System_Made.l0]) (Ev.ifp hM (Ev.ifp (by omega) (Ev.ifp (by omega) (Ev.bind hx ?_)))),h2⟩
   refine Ev.ifp (by omega) ?_
   rw [qaU i (by omega)]
   exact h1
  ·obtain⟨L,h1,h2⟩:=hend i acc (by omega) hl hg
   exact⟨L,Ev.step (fun k=>by rw [ostinatoref05_System_Made.l0]) (Ev.ifn hM h1),h2⟩
theorem Made_f (a b:Int) (M:List S59):∃ s rl L,Ev (fun k=>ostinatoref05_System_Made.f k a b M) (s,rl,L)∧GoodSys s rl L:=by
 have hr:=rest_f a 8 (by decide) (by decide)
 have h0:=Int.emod_nonneg a (show (8:Int)≠0 by decide)
 have h1:=Int.emod_lt_of_pos a (show (0:Int)<8 by decide)
 obtain⟨v,hv⟩:∃ v,a % 8=v:=⟨_,rfl⟩
 rw [hv] at hr h0 h1
 obtain⟨r0,r3⟩:=and3_rng b
 obtain⟨L,h2,h3⟩:=made_l0 a b M (1+v) (by omega) (bits .and .i64 b 3) (by omega) 6 0 [] rfl rfl (fun j hj=>by simp at hj)
 refine⟨1+v,_,L,?_,h3⟩
 unfold ostinatoref05_System_Made.f
 refine Ev.bindS hr ?_
 rw [qaN (by omega) (by omega)]
 exact h2
theorem lawmade_l0 (a b:Int) (l:List S60) (a2 b2:Int):∀ (d i:Nat) (acc:List S59),i+d=6→acc.length=i→∃ s rl L,Ev (fun k=>ostinatolaw07_Sys_made.l0 k (i:Int) a b l a2 b2 acc) (s,rl,L)∧GoodSys s rl L:=by
 intro d
 induction d with
 |zero=>
  intro i acc hi hl
  obtain⟨s,rl,L,h1,h2⟩:=Made_f a2 b2 acc
  refine⟨s,rl,L,Ev.step (fun k=>by rw [ostinatolaw07_Sys_made.l0]) (Ev.ite_ (fun _=>Ev.ifn (by omega) (Ev.bind h1 (Ev.now _))) (fun _=>Ev.bind h1 (Ev.now _))),h2⟩
 |succ d ih=>
  intro i acc hi hl
  by_cases hM:(i:Int)<(l.length:Int)
  ·obtain⟨s,rl,L,h1,h2⟩:=ih (i+1) (acc++[(⟨(qaH l i).f0,(qaH l i).f1,(qaH l i).f2,(qaH l i).f3,(qaH l i).f4,(qaH l i).f5⟩:S59)]) (by omega) (by simp [hl])
   refine⟨s,rl,L,Ev.step (fun k=>by rw [ostinatolaw07_Sys_made.l0]) (Ev.ifp hM (Ev.ifp (by omega) (Ev.ifp (by omega) (Ev.ifp (by omega) ?_)))),h2⟩
   rw [qaU i (by omega)]
   exact h1
  ·obtain⟨s,rl,L,h1,h2⟩:=Made_f a2 b2 acc
   exact⟨s,rl,L,Ev.step (fun k=>by rw [ostinatolaw07_Sys_made.l0]) (Ev.ifn hM (Ev.bind h1 (Ev.now _))),h2⟩
theorem lawmade_f (a b:Int) (l:List S60):∃ s rl L,Ev (fun k=>ostinatolaw07_Sys_made.f k a b l) (s,rl,L)∧GoodSys s rl L:=by
 unfold ostinatolaw07_Sys_made.f
 exact lawmade_l0 a b l a b 6 0 [] rfl rfl
end Go.Proofs.YtcfknijdhmildaaDoor.PParseCuts
end
section
namespace Go.Proofs.YtcfknijdhmildaaDoor
open Go.RowKit Go.Shelf Go.Lib Go.Proofs.YtcfknijdhmildaaDoorW.PrintWords
theorem lnStep_app (A B:List (List Wd)) (x:Wd) (h:B≠[]):lnStep (A++B) x=A++lnStep B x:=by
 obtain⟨B',g,rfl⟩:∃ B' g,B=B'++[g]:=⟨B.dropLast,B.getLast h,(List.dropLast_concat_getLast h).symm⟩
 unfold lnStep
 rw [← List.append_assoc]
 simp only [List.getLast?_concat,List.dropLast_concat]
 split<;>simp
theorem lns_app (X:List Wd):∀ (n:Nat) (Y:List Wd),Y.length=n→(∀ x ∈ X,∀ y ∈ Y,x.q≠y.q)→lns (X++Y)=lns X++lns Y:=by
 intro n
 induction n with
 |zero=>intro Y h _;rw [List.eq_nil_of_length_eq_zero h];simp [lns]
 |succ n ih=>
  intro Y0 hn h
  rcases List.eq_nil_or_concat Y0 with rfl|⟨Y,y,rfl⟩
  ·simp [lns]
  ·rw [List.concat_eq_append] at hn h ⊢
   have hn':Y.length=n:=by simpa using hn
   have h1:=ih Y hn' (fun x hx z hz=>h x hx z (List.mem_append_left _ hz))
   by_cases hY:Y=[]
   ·subst hY
    have h2:=lns_other (l:=X) (x:=y) (fun x hx=>h x hx y (by simp))
    rw [List.nil_append,h2]
    rfl
   ·obtain⟨G,g,z,h2,_⟩:=lns_last Y hY
    rw [← List.append_assoc,lns_snoc,h1,lns_snoc]
    exact lnStep_app _ _ _ (by rw [h2];simp)
theorem lns_single (q:Int):∀ (n:Nat) (X:List Wd),X.length=n+1→(∀ x ∈ X,x.q=q)→lns X=[X]:=by
 intro n
 induction n with
 |zero=>
  intro X h _
  match X,h with
  |[x],_=>rfl
 |succ n ih=>
  intro X0 hn h
  rcases List.eq_nil_or_concat X0 with rfl|⟨X,y,rfl⟩
  ·simp at hn
  ·rw [List.concat_eq_append] at hn h ⊢
   have hn':X.length=n+1:=by simpa using hn
   have h1:=ih X hn' (fun x hx=>h x (List.mem_append_left _ hx))
   have hne:X≠[]:=by intro e;subst e;simp at hn'
   obtain⟨G,g,z,h2,h3⟩:=lns_last X hne
   have h4:=lns_same h2 (x:=y) (by rw [h z (List.mem_append_left _ (List.mem_of_getLast? h3)),h y (by simp)])
   rw [h1] at h2
   have h5:G=[]∧X=g++[z]:=by
    cases G with
    |nil=>exact⟨rfl,by simpa using h2⟩
    |cons a G=>simp at h2
   rw [h4,h5.1,← h5.2]
   rfl
def lnsB (q i:Nat) (s:List UInt8):List (List Wd):=lns (scan q false none i s)
def tx (l:List Wd):List ByteArray:=l.map (·.t)
def wds (b:List UInt8):List ByteArray:=tx (scan 0 false none 0 b)
theorem tx_scan (q i:Nat) (b:List UInt8):tx (scan q false none i b)=wds b:=by
 have h:=scan_shift i q b 0 false none 0
 simp only [moved,Nat.zero_add] at h
 unfold wds tx
 rw [h,List.map_map]
 rfl
theorem scan_nil_iff (q i:Nat) (b:List UInt8):scan q false none i b=[]↔wds b=[]:=by
 rw [← tx_scan q i b]
 unfold tx
 rw [List.map_eq_nil_iff]
theorem lnsB_last (q i:Nat) (b:List UInt8) (h:(10:UInt8) ∉ b):lnsB q i b=if wds b=[] then [] else [scan q false none i b]:=by
 by_cases hb:wds b=[]
 ·rw [if_pos hb]
  unfold lnsB
  rw [(scan_nil_iff q i b).2 hb]
  rfl
 ·rw [if_neg hb]
  refine lns_single q ((scan q false none i b).length - 1) _ ?_ (scan_line b q false none i h)
  have:scan q false none i b≠[]:=fun e=>hb ((scan_nil_iff q i b).1 e)
  have:=List.length_pos_iff.2 this
  omega
theorem lnsB_line (q i:Nat) (b r:List UInt8) (h:(10:UInt8) ∉ b) :
  lnsB q i (b++10::r)=(if wds b=[] then [] else [scan q false none i b])++lnsB (q+1) (i+b.length+1) r:=by
 rw [← lnsB_last q i b h]
 unfold lnsB
 rw [scan_app,List.count_eq_zero.2 h]
 refine lns_app _ _ _ rfl (fun x hx y hy=>?_)
 have h1:=scan_line b q false none i h x hx
 have h2:=(scan_bd r (q+1+0) false none (i+b.length+1) (fun _ _ e=>by cases e) y hy).2.1
 omega
def linesB (Bs:List (List UInt8)):List UInt8:=Bs.flatMap (·++[10])
theorem linesB_cons (b:List UInt8) (Bs:List (List UInt8)) (r:List UInt8):linesB (b::Bs)++r=b++10::(linesB Bs++r):=by simp [linesB]
theorem linesB_len (b:List UInt8) (Bs:List (List UInt8)):(linesB (b::Bs)).length=b.length+1+(linesB Bs).length:=by simp [linesB];omega
theorem lnsB_lines:∀ (Bs:List (List UInt8)),(∀ b ∈ Bs,(10:UInt8) ∉ b)→∀ (q i:Nat) (r:List UInt8),
  ∃ G,lnsB q i (linesB Bs++r)=G++lnsB (q+Bs.length) (i+(linesB Bs).length) r∧G.map tx=(Bs.map wds).filter (fun w=>!w.isEmpty):=by
 intro Bs
 induction Bs with
 |nil=>intro _ q i r;exact⟨[],rfl,rfl⟩
 |cons b Bs ih=>
  intro h q i r
  obtain⟨G,h1,h2⟩:=ih (fun c hc=>h c (List.mem_cons_of_mem _ hc)) (q+1) (i+b.length+1) r
  have e1:q+1+Bs.length=q+(b::Bs).length:=by simp;omega
  have e2:i+b.length+1+(linesB Bs).length=i+(linesB (b::Bs)).length:=by rw [linesB_len];omega
  rw [e1,e2] at h1
  rw [linesB_cons,lnsB_line q i b _ (h b List.mem_cons_self),h1]
  by_cases hb:wds b=[]
  ·refine⟨G,by rw [if_pos hb];rfl,?_⟩
   rw [h2,List.map_cons,List.filter_cons_of_neg (by simp [hb])]
  ·refine⟨scan q false none i b::G,by rw [if_neg hb];simp,?_⟩
   rw [List.map_cons,List.map_cons,tx_scan,List.filter_cons_of_pos (by simpa using hb),h2]
theorem lns_text (s:ByteArray):lns (textW s)=lnsB 1 0 s.data.toList:=by rw [textW_scan];rfl
def Pw (w:List UInt8):Prop:=∀ c ∈ w,c≠10∧c≠35∧ws c=false
theorem scan_in (q:Nat) (r:List UInt8):∀ (w:List UInt8),Pw w→∀ (p:Nat) (t:List UInt8) (i:Nat),scan q false (some (p,t)) i (w++r)=scan q false (some (p,t++w)) (i+w.length) r:=by
 intro w
 induction w with
 |nil=>intro _ p t i;simp
 |cons c w ih=>
  intro h p t i
  obtain⟨h1,h2,h3⟩:=h c List.mem_cons_self
  have e:=ih (fun d hd=>h d (List.mem_cons_of_mem _ hd)) p (t++[c]) (i+1)
  simp only [List.cons_append,scan]
  rw [if_neg h1,if_neg (by simp [h2]),if_neg (by simp [h3])]
  simp only [grow]
  rw [e,List.append_assoc]
  simp only [List.singleton_append,List.length_cons]
  rw [show i+1+w.length=i+(w.length+1) by omega]
theorem scan_word (q i:Nat) (w r:List UInt8) (hw:Pw w) (hn:w≠[]):scan q false none i (w++r)=scan q false (some (i,w)) (i+w.length) r:=by
 cases w with
 |nil=>exact absurd rfl hn
 |cons c w=>
  obtain⟨h1,h2,h3⟩:=hw c List.mem_cons_self
  simp only [List.cons_append,scan]
  rw [if_neg h1,if_neg (by simp [h2]),if_neg (by simp [h3])]
  simp only [grow]
  rw [scan_in q r w (fun d hd=>hw d (List.mem_cons_of_mem _ hd)),List.singleton_append]
  simp only [List.length_cons]
  rw [show i+1+w.length=i+(w.length+1) by omega]
theorem scan_blanks (q:Nat) (r:List UInt8):∀ (s:List UInt8),(∀ c ∈ s,ws c=true)→∀ (i:Nat),scan q false none i (s++r)=scan q false none (i+s.length) r:=by
 intro s
 induction s with
 |nil=>intro _ i;rfl
 |cons c s ih=>
  intro h i
  have h1:=h c List.mem_cons_self
  have c10:c≠10:=by rintro rfl;revert h1;decide
  have c35:c≠35:=by rintro rfl;revert h1;decide
  simp only [List.cons_append,scan]
  rw [if_neg c10,if_neg (by simp [c35]),if_pos h1,ih (fun d hd=>h d (List.mem_cons_of_mem _ hd))]
  simp only [emit,List.nil_append,List.length_cons]
  rw [show i+1+s.length=i+(s.length+1) by omega]
theorem scan_sep (q p i:Nat) (t s r:List UInt8) (hs:∀ c ∈ s,ws c=true) (hn:s≠[]):scan q false (some (p,t)) i (s++r)=⟨p,q,⟨t.toArray⟩⟩::scan q false none (i+s.length) r:=by
 cases s with
 |nil=>exact absurd rfl hn
 |cons c s=>
  have h1:=hs c List.mem_cons_self
  have c10:c≠10:=by rintro rfl;revert h1;decide
  have c35:c≠35:=by rintro rfl;revert h1;decide
  simp only [List.cons_append,scan]
  rw [if_neg c10,if_neg (by simp [c35]),if_pos h1,scan_blanks q r s (fun d hd=>hs d (List.mem_cons_of_mem _ hd))]
  simp only [emit,List.cons_append,List.nil_append,List.length_cons]
  rw [show i+1+s.length=i+(s.length+1) by omega]
def Tail (r:List UInt8):Prop:=∀ q p t i,scan q false (some (p,t)) i r=[⟨p,q,⟨t.toArray⟩⟩]
theorem tail_nil:Tail []:=fun _ _ _ _=>rfl
theorem tx_words (s:List UInt8) (hs:∀ c ∈ s,ws c=true) (hn:s≠[]) (r:List UInt8) (hr:Tail r):∀ (W:List (List UInt8)),W≠[]→(∀ w ∈ W,w≠[]∧Pw w)→∀ q i,tx (scan q false none i (Lib.join W s++r))=W.map (fun w=>⟨w.toArray⟩):=by
 intro W
 induction W with
 |nil=>intro h;exact absurd rfl h
 |cons w W ih=>
  intro _ h q i
  obtain⟨h1,h2⟩:=h w List.mem_cons_self
  cases W with
  |nil=>
   rw [Lib.join_one,scan_word q i w r h2 h1,hr]
   rfl
  |cons v W=>
   have e:Lib.join (w::v::W) s++r=w++(s++(Lib.join (v::W) s++r)):=by simp [Lib.join,List.intercalate,List.append_assoc]
   rw [e,scan_word q i w _ h2 h1,scan_sep q i _ w s _ hs hn]
   have:=ih (by simp) (fun x hx=>h x (List.mem_cons_of_mem _ hx)) q (i+w.length+s.length)
   unfold tx at this ⊢
   rw [List.map_cons,this]
   rfl
theorem wds_join (s:List UInt8) (hs:∀ c ∈ s,ws c=true) (hn:s≠[]) (r:List UInt8) (hr:Tail r) (W:List ByteArray) (hW:W≠[]) (h:∀ w ∈ W,w.data.toList≠[]∧Pw w.data.toList):wds (Lib.join (W.map (·.data.toList)) s++r)=W:=by
 have h1:=tx_words s hs hn r hr (W.map (·.data.toList)) (by simpa using hW) (fun w hw=>by
  obtain⟨v,hv,rfl⟩:=List.mem_map.1 hw
  exact h v hv) 0 0
 unfold wds
 rw [h1,List.map_map]
 conv=>rhs;rw [← List.map_id W]
 refine List.map_congr_left (fun w _=>?_)
 rfl
theorem itoa_pw (n:Int) (h:0≤n):itoa n≠[]∧∀ c ∈ itoa n,isD c:=by
 have e:itoa n=decDigits n.toNat:=by unfold itoa;rw [if_neg (by omega)]
 rw [e]
 exact⟨(dec_num _).2.2.1,(dec_num _).2.1⟩
theorem isD_pw {c:UInt8} (h:isD c):c≠10∧c≠35∧ws c=false:=by
 unfold isD at h
 refine⟨?_,?_,?_⟩
 ·rintro rfl;revert h;decide
 ·rintro rfl;revert h;decide
 ·by_cases h2:ws c=true
  ·unfold ws at h2
   simp at h2
   rcases h2 with rfl|rfl
   ·revert h;decide
   ·revert h;decide
  ·simpa using h2
theorem digB_pw {n:Int} (h:0≤n):(digB n).data.toList≠[]∧Pw (digB n).data.toList:=by
 rw [digB_data]
 exact⟨(itoa_pw n h).1,fun c hc=>isD_pw ((itoa_pw n h).2 c hc)⟩
theorem nameW_pw {name v:ByteArray} (hn:Pw name.data.toList) (hv:Pw v.data.toList):(nameW name v).data.toList≠[]∧Pw (nameW name v).data.toList:=by
 rw [nameW_data]
 refine⟨by simp,fun c hc=>?_⟩
 rcases List.mem_append.1 hc with hc|hc
 ·exact hn c hc
 ·rcases List.mem_cons.1 hc with rfl|hc
  ·decide
  ·exact hv c hc
theorem joinP_pw {l:List Int} (h:∀ y ∈ l,0≤y):Pw (joinP l).data.toList:=by
 have key:∀ (L:List (List UInt8)),(∀ x ∈ L,Pw x)→Pw (Lib.join L [44]):=by
  intro L
  induction L with
  |nil=>intro _ c hc;simp [Lib.join] at hc
  |cons x L ih=>
   intro hL c hc
   cases L with
   |nil=>rw [Lib.join_one] at hc;exact hL x List.mem_cons_self c hc
   |cons y L=>
    have e:Lib.join (x::y::L) [44]=x++44::Lib.join (y::L) [44]:=by simp [Lib.join,List.intercalate]
    rw [e] at hc
    rcases List.mem_append.1 hc with hc|hc
    ·exact hL x List.mem_cons_self c hc
    ·rcases List.mem_cons.1 hc with rfl|hc
     ·decide
     ·exact ih (fun z hz=>hL z (List.mem_cons_of_mem _ hz)) c hc
 have e:(joinP l).data.toList=Lib.join (l.map itoa) [44]:=by simp [joinP]
 rw [e]
 refine key _ (fun x hx=>?_)
 obtain⟨n,hn,rfl⟩:=List.mem_map.1 hx
 exact fun c hc=>isD_pw ((itoa_pw n (h n hn)).2 c hc)
def Sml (x:Tk):Prop:=(1≤x.id∧x.id≤99)∧(1≤x.p∧x.p≤99)∧(1≤x.c∧x.c≤x.d∧x.d≤x.t∧x.t≤1073741824)∧(∀ y ∈ x.ch,1≤y∧y≤1073741824)∧(∀ y ∈ x.us,0≤y∧y<256)
theorem Sml.of {x:Tk} {sets:Int} (hs:sets≤256) (h:rightE x.id x.c x.d x.t x.p x.ch x.us sets=0):Sml x:=by
 obtain⟨h1,h2,h3,_,h5,_,h7⟩:=rightE_small hs h
 exact⟨h1,h2,h3,h5,h7⟩
theorem taskW_pw {x:Tk} (h:Sml x):∀ w ∈ taskW x,w.data.toList≠[]∧Pw w.data.toList:=by
 obtain⟨h1,h2,h3,h4,h5⟩:=h
 have n0:Pw (⟨#[116,97,115,107]⟩:ByteArray).data.toList:=by unfold Pw;decide
 have n1:Pw (⟨#[99]⟩:ByteArray).data.toList:=by unfold Pw;decide
 have n2:Pw (⟨#[100]⟩:ByteArray).data.toList:=by unfold Pw;decide
 have n3:Pw (⟨#[116]⟩:ByteArray).data.toList:=by unfold Pw;decide
 have n4:Pw (⟨#[112]⟩:ByteArray).data.toList:=by unfold Pw;decide
 have n5:Pw (⟨#[99,104,117,110,107,115]⟩:ByteArray).data.toList:=by unfold Pw;decide
 have n6:Pw (⟨#[117,115,101]⟩:ByteArray).data.toList:=by unfold Pw;decide
 have d0:=digB_pw (n:=x.id) (by omega)
 have d1:=digB_pw (n:=x.c) (by omega)
 have d2:=digB_pw (n:=x.d) (by omega)
 have d3:=digB_pw (n:=x.t) (by omega)
 have d4:=digB_pw (n:=x.p) (by omega)
 have j5:=joinP_pw (l:=x.ch) (fun y hy=>by have:=h4 y hy;omega)
 have j6:=joinP_pw (l:=x.us) (fun y hy=>by have:=h5 y hy;omega)
 intro w hw
 unfold taskW at hw
 rcases List.mem_append.1 hw with hw|hw
 ·simp only [List.mem_cons,List.not_mem_nil,or_false] at hw
  rcases hw with rfl|rfl|rfl|rfl|rfl|rfl
  ·exact⟨by decide,n0⟩
  ·exact d0
  ·exact nameW_pw n1 d1.2
  ·exact nameW_pw n2 d2.2
  ·exact nameW_pw n3 d3.2
  ·exact nameW_pw n4 d4.2
 ·rcases List.mem_append.1 hw with hw|hw
  ·split at hw
   ·simp only [List.mem_cons,List.not_mem_nil,or_false] at hw
    rw [hw]
    exact nameW_pw n5 j5
   ·cases hw
  ·split at hw
   ·simp only [List.mem_cons,List.not_mem_nil,or_false] at hw
    rw [hw]
    exact nameW_pw n6 j6
   ·cases hw
theorem taskW_ne (x:Tk):taskW x≠[]:=by unfold taskW;simp
theorem lineP_join (x:Tk):(lineP x).data.toList=Lib.join ((taskW x).map (·.data.toList)) [32]:=by
 unfold lineP lineC lineN taskW
 by_cases h1:0<x.ch.length
 ·by_cases h2:0<x.us.length
  ·simp [h1,h2,nameW,Lib.join,List.intercalate,ByteArray.data_append]
  ·simp [h1,h2,nameW,Lib.join,List.intercalate,ByteArray.data_append]
 ·by_cases h2:0<x.us.length
  ·simp [h1,h2,nameW,Lib.join,List.intercalate,ByteArray.data_append]
  ·simp [h1,h2,nameW,Lib.join,List.intercalate,ByteArray.data_append]
def headW (sets rel:Int):List ByteArray:=[⟨#[99,97,99,104,101]⟩,digB sets,digB rel]
def headL (sets rel:Int):List UInt8:=Lib.join ((headW sets rel).map (·.data.toList)) [32]
theorem headT_lines (sets rel:Int):(headT sets rel).data.toList=headL sets rel++[10]:=by
 simp [headT,headL,headW,Lib.join,List.intercalate,ByteArray.data_append]
theorem headW_pw {sets rel:Int} (h1:0≤sets) (h2:0≤rel):∀ w ∈ headW sets rel,w.data.toList≠[]∧Pw w.data.toList:=by
 intro w hw
 unfold headW at hw
 simp only [List.mem_cons,List.not_mem_nil,or_false] at hw
 rcases hw with rfl|rfl|rfl
 ·exact⟨by decide,by unfold Pw;decide⟩
 ·exact digB_pw h1
 ·exact digB_pw h2
theorem join_no10 (s:List UInt8) (hs:(10:UInt8) ∉ s):∀ (W:List (List UInt8)),(∀ w ∈ W,Pw w)→(10:UInt8) ∉ Lib.join W s:=by
 intro W
 induction W with
 |nil=>intro _ hc;simp [Lib.join] at hc
 |cons x L ih=>
  intro hL hc
  cases L with
  |nil=>rw [Lib.join_one] at hc;exact (hL x List.mem_cons_self 10 hc).1 rfl
  |cons y L=>
   have e:Lib.join (x::y::L) s=x++(s++Lib.join (y::L) s):=by simp [Lib.join,List.intercalate]
   rw [e] at hc
   rcases List.mem_append.1 hc with hc|hc
   ·exact (hL x List.mem_cons_self 10 hc).1 rfl
   ·rcases List.mem_append.1 hc with hc|hc
    ·exact hs hc
    ·exact ih (fun z hz=>hL z (List.mem_cons_of_mem _ hz)) hc
def prnL (sets rel:Int) (L:List Tk):List (List UInt8):=headL sets rel::L.map (fun x=>(lineP x).data.toList)
theorem goT_lines:∀ (L:List Tk),(∀ x ∈ L,lineT x=lineP x)→∀ h,(goT h L).data.toList=h.data.toList++linesB (L.map (fun x=>(lineP x).data.toList)):=by
 intro L
 induction L with
 |nil=>intro _ h;simp [goT,linesB]
 |cons x L ih=>
  intro hL h
  rw [goT,ih (fun y hy=>hL y (List.mem_cons_of_mem _ hy)),hL x List.mem_cons_self]
  simp [linesB,ByteArray.data_append]
theorem rightE_more {x:Tk} {sets:Int} (hs:sets≤256) (h:rightE x.id x.c x.d x.t x.p x.ch x.us sets=0):lineT x=lineP x:=by
 unfold lineT
 rw [if_pos]
 unfold rightE at h ⊢
 split at h
 ·rename_i h1
  split at h
  ·rename_i h2
   split at h
   ·rename_i h3
    split at h
    ·rename_i h4
     have h5:x.us.any (farB 256)=false:=by
      refine List.any_eq_false.2 (fun y hy=>?_)
      have:=List.any_eq_false.1 h4.2 y hy
      unfold farB at this ⊢
      simp at this ⊢
      omega
     rw [if_pos h1,if_pos h2,if_pos h3,if_pos ⟨h4.1,h5⟩]
    ·cases h
   ·cases h
  ·cases h
 ·cases h
theorem checkGo_all {sets:Int}:∀ (L:List Tk) (last:Int) (met:List Int),checkGo sets last met L=0→∀ x ∈ L,rightE x.id x.c x.d x.t x.p x.ch x.us sets=0:=by
 intro L
 induction L with
 |nil=>intro _ _ _ x hx;cases hx
 |cons y L ih=>
  intro last met h x hx
  rw [checkGo] at h
  split at h
  ·rename_i h1
   split at h
   ·cases h
   ·split at h
    ·cases h
    ·rcases List.mem_cons.1 hx with rfl|hx
     ·exact h1
     ·exact ih _ _ h x hx
  ·rename_i h1;exact absurd h h1
theorem checkGo_take {sets:Int}:∀ (L M:List Tk) (last:Int) (met:List Int),checkGo sets last met (L++M)=0→checkGo sets last met L=0:=by
 intro L
 induction L with
 |nil=>intro _ _ _ _;rfl
 |cons y L ih=>
  intro M last met h
  rw [List.cons_append,checkGo] at h
  rw [checkGo]
  split at h
  ·rename_i h1
   split at h
   ·cases h
   ·rename_i h2
    split at h
    ·cases h
    ·rename_i h3
     rw [if_pos h1,if_neg h2,if_neg h3]
     exact ih M _ _ h
  ·rename_i h1;exact absurd h h1
theorem checkE_says {sets rel:Int} {L:List Tk} (h:checkE sets rel L=0):(0≤sets∧sets≤256)∧(0≤rel∧rel≤1000)∧L≠[]∧(∀ x ∈ L,Sml x∧lineT x=lineP x)∧∀ M N,L=M++N→M≠[]→checkE sets rel M=0:=by
 have hs:=checkE_small h
 obtain⟨s1,s2,s3,s4⟩:=hs
 unfold checkE at h
 split at h
 ·rename_i h1
  refine⟨s1,s2,by intro e;rw [e] at s3;exact absurd s3 (by decide),fun x hx=>?_,fun M N e hM=>?_⟩
  ·have hx:=checkGo_all L _ _ h x hx
   exact⟨Sml.of s1.2 hx,rightE_more s1.2 hx⟩
  ·subst e
   unfold checkE
   rw [List.length_append] at s4
   have hl:=List.length_pos_iff.2 hM
   rw [if_pos ⟨h1.1,h1.2.1,by omega⟩,if_pos (by omega)]
   exact checkGo_take M N _ _ h
 ·cases h
theorem printT_lines {sets rel:Int} {L:List Tk} (h:checkE sets rel L=0):(printT sets rel L).data.toList=linesB (prnL sets rel L):=by
 obtain⟨_,_,_,h4,_⟩:=checkE_says h
 unfold printT
 rw [goT_lines L (fun x hx=>(h4 x hx).2),headT_lines]
 simp [prnL,linesB]
def prnW (sets rel:Int) (L:List Tk):List (List ByteArray):=headW sets rel::L.map taskW
theorem prnL_wds {sets rel:Int} {L:List Tk} (h:checkE sets rel L=0):(∀ b ∈ prnL sets rel L,(10:UInt8) ∉ b)∧(prnL sets rel L).map wds=prnW sets rel L∧((prnL sets rel L).map wds).filter (fun w=>!w.isEmpty)=prnW sets rel L:=by
 obtain⟨h1,h2,h3,h4,h5⟩:=checkE_says h
 have e32:∀ c ∈ ([32]:List UInt8),ws c=true:=by decide
 have hh:=headW_pw h1.1 h2.1
 have kh:wds (headL sets rel)=headW sets rel:=by
  have:=wds_join [32] e32 (by simp) [] tail_nil (headW sets rel) (by simp [headW]) hh
  rwa [List.append_nil] at this
 have kt:∀ x ∈ L,wds (lineP x).data.toList=taskW x:=fun x hx=>by
  have:=wds_join [32] e32 (by simp) [] tail_nil (taskW x) (taskW_ne x) (taskW_pw (h4 x hx).1)
  rwa [List.append_nil,← lineP_join] at this
 have km:(prnL sets rel L).map wds=prnW sets rel L:=by
  unfold prnL prnW
  rw [List.map_cons,kh,List.map_map]
  congr 1
  exact List.map_congr_left (fun x hx=>kt x hx)
 refine⟨fun b hb=>?_,km,?_⟩
 ·unfold prnL at hb
  rcases List.mem_cons.1 hb with rfl|hb
  ·refine join_no10 [32] (by decide) _ (fun w hw=>?_)
   obtain⟨v,hv,rfl⟩:=List.mem_map.1 hw
   exact (hh v hv).2
  ·obtain⟨x,hx,rfl⟩:=List.mem_map.1 hb
   rw [lineP_join]
   refine join_no10 [32] (by decide) _ (fun w hw=>?_)
   obtain⟨v,hv,rfl⟩:=List.mem_map.1 hw
   exact (taskW_pw (h4 x hx).1 v hv).2
 ·rw [km]
  refine List.filter_eq_self.2 (fun w hw=>?_)
  unfold prnW at hw
  rcases List.mem_cons.1 hw with rfl|hw
  ·rfl
  ·obtain⟨x,hx,rfl⟩:=List.mem_map.1 hw
   have:=taskW_ne x
   cases ht:taskW x with
   |nil=>exact absurd ht this
   |cons a l=>rfl
end Go.Proofs.YtcfknijdhmildaaDoor
end
section
namespace Go.Proofs.YtcfknijdhmildaaDoor.PParseCuts
open Go.RowKit Go.Shelf Go.Lib Go.Proofs.YtcfknijdhmildaaDoorW.PrintWords
theorem sum_nonneg:∀ l:List Int,(∀ y ∈ l,1≤y)→0≤l.sum:=by
 intro l
 induction l with
 |nil=>intro _;simp
 |cons x r ih=>
  intro h
  have h1:=h x List.mem_cons_self
  have h2:=ih (fun y hy=>h y (List.mem_cons_of_mem _ hy))
  rw [List.sum_cons]
  omega
theorem chunkL_sum:∀ (l:List Int) (z:Int),(∀ y ∈ l,1≤y)→0≤z→chunkL (l.sum+z) l=some z:=by
 intro l
 induction l with
 |nil=>intro z _ _;simp [chunkL]
 |cons x r ih=>
  intro z h hz
  have h1:=h x List.mem_cons_self
  have h2:=sum_nonneg r (fun y hy=>h y (List.mem_cons_of_mem _ hy))
  have h3:=ih z (fun y hy=>h y (List.mem_cons_of_mem _ hy)) hz
  rw [chunkL,List.sum_cons,if_pos ⟨h1,by omega⟩,show x+r.sum+z - x=r.sum+z by omega]
  exact h3
theorem good_right {i:Nat} (hi:i<6) {sets:Int} {t:S52} (h:GoodTask i sets t):rightE t.f0 t.f1 t.f2 t.f3 t.f4 t.f5 t.f6 sets=0:=by
 have h1:=h.id
 have h2:=h.c1
 have h3:=h.cd
 have h4:=h.dt
 have h5:=h.t24
 have h6:=h.p1
 have h7:=h.p99
 have hc:chunksB t.f1 t.f5=true:=by
  unfold chunksB
  rcases h.chs with e|e
  ·rw [e];simp [chunkL,chunkFin]
  ·have:=chunkL_sum t.f5 0 h.ch1 (by omega)
   rw [Int.add_zero,e] at this
   rw [this]
   have hl:=h.chl
   have e1:decide (t.f5.length≤64)=true:=decide_eq_true (by omega)
   unfold chunkFin
   simp [e1]
 have hu:t.f6.length≤64∧t.f6.any (farB sets)=false:=by
  refine⟨by have:=h.usl;omega,List.any_eq_false.2 (fun y hy=>?_)⟩
  have:=h.us y hy
  unfold farB
  simp
  omega
 unfold rightE inB
 rw [if_pos ⟨decide_eq_true (by omega),decide_eq_true (by omega)⟩,if_pos ⟨decide_eq_true (by omega),decide_eq_true (by omega),by omega⟩,if_pos hc,if_pos hu]
theorem good_go {sets rel:Int} {l:List S52} (h:GoodSys sets rel l):∀ (n i:Nat),i+n=l.length→checkGo sets (i:Int) (((l.map tkOf).take i).map (·.p)) ((l.map tkOf).drop i)=0:=by
 have h6:=h.l6
 intro n
 induction n with
 |zero=>
  intro i hi
  rw [List.drop_eq_nil_of_le (by simp;omega)]
  rfl
 |succ n ih=>
  intro i hi
  have hil:i<l.length:=by omega
  have hil':i<(l.map tkOf).length:=by simpa using hil
  have hg:=h.task i hil
  have he:(l.map tkOf)[i]=tkOf l[i]:=by simp
  have hr:=good_right (by omega) hg
  rw [checkGo_step hil',he]
  have hr':rightE (tkOf l[i]).id (tkOf l[i]).c (tkOf l[i]).d (tkOf l[i]).t (tkOf l[i]).p (tkOf l[i]).ch (tkOf l[i]).us sets=0:=hr
  rw [if_pos hr']
  have hid:(tkOf l[i]).id=(i:Int)+1:=hg.id
  rw [if_neg (by omega)]
  have hp:(tkOf l[i]).p ∉ ((l.map tkOf).take i).map (·.p):=by
   intro hm
   rw [List.mem_map] at hm
   obtain⟨y,hy,hyp⟩:=hm
   obtain⟨j,hj,hjy⟩:=List.mem_iff_getElem.1 hy
   rw [List.length_take] at hj
   have hjl:j<l.length:=by omega
   have hji:j<i:=by omega
   have e:y=tkOf l[j]:=by rw [← hjy];simp
   have hgj:=h.task j hjl
   have q1:l[j].f4 % 10=(j:Int):=hgj.pi
   have q2:l[i].f4 % 10=(i:Int):=hg.pi
   rw [e] at hyp
   have q3:l[j].f4=l[i].f4:=hyp
   rw [q3] at q1
   omega
  rw [if_neg hp]
  have hn:=ih (i+1) (by omega)
  have htk:((l.map tkOf).take (i+1)).map (·.p)=((l.map tkOf).take i).map (·.p)++[(tkOf l[i]).p]:=by
   rw [List.take_add_one,List.getElem?_eq_getElem hil',List.map_append,he];rfl
  rw [htk,Int.natCast_succ,← hid] at hn
  exact hn
theorem goT_ge (L:List Tk):∀ h,h.size≤(goT h L).size:=by
 induction L with
 |nil=>intro h;exact Nat.le_refl _
 |cons x r ih=>
  intro h
  have h1:=ih ((h++lineT x)++⟨#[10]⟩)
  simp only [ByteArray.size_append,goT] at h1 ⊢
  omega
theorem good_check {sets rel:Int} {l:List S52} (h:GoodSys sets rel l):checkE sets rel (l.map tkOf)=0∧0<(printT sets rel (l.map tkOf)).size∧(printT sets rel (l.map tkOf)).size≤20000:=by
 have h1:=h.s1
 have h2:=h.s8
 have h3:=h.r0
 have h4:=h.r3
 have h5:=h.l1
 have h6:=h.l6
 refine⟨?_,?_,?_⟩
 ·have hg:=good_go h l.length 0 (by omega)
  unfold checkE inB
  rw [if_pos ⟨decide_eq_true (by omega),decide_eq_true (by omega),by rw [List.length_map];omega⟩,if_pos (by rw [List.length_map];omega)]
  simpa using hg
 ·have hh:6≤(headT sets rel).size:=by
   have z0:(⟨#[99,97,99,104,101,32]⟩:ByteArray).size=6:=rfl
   unfold headT
   simp only [ByteArray.size_append]
   omega
  have:=goT_ge (l.map tkOf) (headT sets rel)
  unfold printT
  omega
 ·have hh:=headT_size sets rel (by omega) (by omega)
  have:=goT_size (l.map tkOf) (headT sets rel)
  rw [List.length_map] at this
  unfold printT
  omega
theorem good_small {sets rel:Int} {l:List S52} (h:GoodSys sets rel l):∀ x ∈ l.map tkOf,x.ch.length≤1000000∧x.us.length≤1000000∧x.c≤9223372036854775807:=by
 intro x hx
 obtain⟨y,hy,rfl⟩:=List.mem_map.1 hx
 obtain⟨j,hj,rfl⟩:=List.mem_iff_getElem.1 hy
 have hg:=h.task j hj
 have a1:=hg.chl
 have a2:=hg.usl
 have a3:=hg.cd
 have a4:=hg.dt
 have a5:=hg.t24
 exact⟨by show l[j].f5.length≤_;omega,by show l[j].f6.length≤_;omega,by show l[j].f1≤_;omega⟩
end Go.Proofs.YtcfknijdhmildaaDoor.PParseCuts
end
section
namespace Go.Proofs.YtcfknijdhmildaaDoor
open Go.RowKit Go.Shelf Go.Lib Go.Proofs.YtcfknijdhmildaaDoorW.PrintWords
theorem emit_end {q i:Nat} {cur:Option (Nat × List UInt8)} (h:∀ p t,cur=some (p,t)→p+t.length=i):∀ x ∈ emit q cur,0≤x.p∧x.p+(x.t.size:Int)≤(i:Int):=by
 intro x hx
 cases cur with
 |none=>simp [emit] at hx
 |some c=>
  obtain⟨p,t⟩:=c
  have h1:=h p t rfl
  simp [emit] at hx
  subst hx
  refine⟨by simp,?_⟩
  show (p:Int)+(t.toArray.size:Int)≤(i:Int)
  rw [List.size_toArray]
  omega
theorem scan_end:∀ (l:List UInt8) (q:Nat) (off:Bool) (cur:Option (Nat × List UInt8)) (i:Nat),(∀ p t,cur=some (p,t)→p+t.length=i)→∀ x ∈ scan q off cur i l,0≤x.p∧x.p+(x.t.size:Int)≤((i+l.length:Nat):Int):=by
 intro l
 induction l with
 |nil=>intro q off cur i h x hx;exact emit_end h x hx
 |cons c l ih=>
  intro q off cur i h x hx
  have hem:x ∈ emit q cur→0≤x.p∧x.p+(x.t.size:Int)≤((i+(c::l).length:Nat):Int):=fun he=>by
   have:=emit_end h x he
   simp only [List.length_cons]
   omega
  have hn:∀ (p:Nat) (t:List UInt8),(none:Option (Nat × List UInt8))=some (p,t)→p+t.length=i+1:=fun _ _ e=>by cases e
  have hl:i+1+l.length=i+(c::l).length:=by simp;omega
  simp only [scan] at hx
  split at hx
  ·rcases List.mem_append.1 hx with hx|hx
   ·exact hem hx
   ·rw [← hl];exact ih _ _ _ _ hn x hx
  ·split at hx
   ·rcases List.mem_append.1 hx with hx|hx
    ·exact hem hx
    ·rw [← hl];exact ih _ _ _ _ hn x hx
   ·split at hx
    ·rcases List.mem_append.1 hx with hx|hx
     ·exact hem hx
     ·rw [← hl];exact ih _ _ _ _ hn x hx
    ·rw [← hl]
     refine ih _ _ _ _ (fun p t e=>?_) x hx
     cases cur with
     |none=>simp [grow] at e;rw [← e.1,← e.2];simp
     |some d=>
      obtain⟨p',t'⟩:=d
      have:=h p' t' rfl
      simp [grow] at e
      rw [← e.1,← e.2]
      simp
      omega
theorem text_end (s:ByteArray):∀ x ∈ textW s,0≤x.p∧x.p+(x.t.size:Int)≤(s.size:Int):=by
 intro x hx
 rw [textW_scan] at hx
 have:=scan_end s.data.toList 1 false none 0 (fun _ _ h=>by cases h) x hx
 rw [Nat.zero_add,← Lib.size_eq] at this
 exact this
theorem wrongP_at {g:List Wd} {n:Int} (h:∀ x ∈ g,0≤x.p∧x.p+(x.t.size:Int)≤n) (hn:0≤n∧n≤9223372036854775807) (k:Nat):0≤wrongP g k∧wrongP g k≤n:=by
 unfold wrongP
 cases hx:g[k]? with
 |some x=>
  have:=h x (List.mem_of_getElem? hx)
  simp only
  omega
 |none=>
  simp only
  unfold endP
  cases hy:g.getLast? with
  |none=>exact⟨Int.le_refl _,hn.1⟩
  |some y=>
   have:=h y (List.mem_of_getLast? hy)
   simp only
   rw [qaN (by omega) (by omega)]
   omega
theorem taskG_wrong {g:List Wd} {p:Int} (h:taskG g=.error p):∃ k,p=wrongP g k:=by
 unfold taskG at h
 repeat' split at h
 all_goals first|(injection h with h;exact⟨_,h.symm⟩)|cases h
theorem headG_wrong {g:List Wd} {p:Int} (h:headG g=.error p):∃ k,p=wrongP g k:=by
 unfold headG at h
 repeat' split at h
 all_goals first|(injection h with h;exact⟨_,h.symm⟩)|cases h
theorem goP_says {sets rel size:Int} (h0:0≤size∧size≤9223372036854775807):∀ (r:List (List Wd)) (acc:List Tk),(∀ g ∈ r,∀ x ∈ g,0≤x.p∧x.p+(x.t.size:Int)≤size)→(acc=[]∨checkE sets rel acc=0) →
  (∃ L,goP sets rel size acc r=(sets,rel,L,size,0)∧L≠[]∧checkE sets rel L=0∧L.length=acc.length+r.length)∨∃ at_ e,goP sets rel size acc r=(0,0,[],at_,e)∧e≠0∧0≤at_∧at_≤size:=by
 intro r
 induction r with
 |nil=>
  intro acc _ ha
  unfold goP
  by_cases hl:acc.length=0
  ·rw [if_pos hl];exact .inr ⟨size,1,rfl,by decide,h0.1,Int.le_refl _⟩
  ·rw [if_neg hl]
   rcases ha with rfl|ha
   ·exact absurd rfl hl
   ·exact .inl ⟨acc,rfl,fun e=>hl (by rw [e];rfl),ha,rfl⟩
 |cons g r ih=>
  intro acc hb ha
  have hg:=hb g List.mem_cons_self
  unfold goP
  cases ht:taskG g with
  |error p=>
   obtain⟨k,rfl⟩:=taskG_wrong ht
   have:=wrongP_at hg h0 k
   exact .inr ⟨_,10,rfl,by decide,this.1,this.2⟩
  |ok x=>
   simp only
   by_cases hc:checkE sets rel (acc++[x])=0
   ·rw [if_pos hc]
    rcases ih (acc++[x]) (fun y hy=>hb y (List.mem_cons_of_mem _ hy)) (.inr hc) with ⟨L,h1,h2,h3,h4⟩|h1
    ·exact .inl ⟨L,h1,h2,h3,by rw [h4];simp;omega⟩
    ·exact .inr h1
   ·rw [if_neg hc]
    refine .inr ⟨_,_,rfl,hc,?_⟩
    cases g with
    |nil=>exact⟨Int.le_refl _,h0.1⟩
    |cons y g=>
     have:=hg y List.mem_cons_self
     show 0≤y.p∧y.p≤size
     omega
theorem parseP_says (s:ByteArray) (hs:s.size≤65536) :
  (∃ sets rel L g G,parseP s=(sets,rel,L,(s.size:Int),0)∧L≠[]∧checkE sets rel L=0∧lns (textW s)=g::G∧headG g=.ok (sets,rel)∧L.length=G.length) ∨
  ∃ at_ e,parseP s=(0,0,[],at_,e)∧e≠0∧0≤at_∧at_≤(s.size:Int):=by
 have hb:∀ g ∈ lns (textW s),∀ x ∈ g,0≤x.p∧x.p+(x.t.size:Int)≤(s.size:Int):=fun g hg x hx=>text_end s x (lns_mem _ g hg x hx)
 have h0:(0:Int)≤(s.size:Int)∧(s.size:Int)≤9223372036854775807:=by omega
 unfold parseP
 cases hl:lns (textW s) with
 |nil=>exact .inr ⟨_,_,rfl,by decide,h0.1,Int.le_refl _⟩
 |cons g G=>
  rw [hl] at hb
  simp only
  cases hh:headG g with
  |error p=>
   obtain⟨k,rfl⟩:=headG_wrong hh
   have:=wrongP_at (hb g List.mem_cons_self) h0 k
   exact .inr ⟨_,_,rfl,by decide,this.1,this.2⟩
  |ok x=>
   simp only
   rcases goP_says (sets:=x.1) (rel:=x.2) h0 G [] (fun y hy=>hb y (List.mem_cons_of_mem _ hy)) (.inl rfl) with ⟨L,h1,h2,h3,h4⟩|⟨a,e,h1,h2,h3⟩
   ·exact .inl ⟨x.1,x.2,L,g,G,h1,h2,h3,rfl,hh,by rw [h4];simp⟩
   ·exact .inr ⟨a,e,h1,h2,h3⟩
theorem checkE_each {sets rel:Int} {L:List Tk} (h:checkE sets rel L=0):∀ x ∈ L,x.ch.length≤64∧x.us.length≤64∧x.c≤1073741824:=by
 have hs:=checkE_small h
 intro x hx
 unfold checkE at h
 split at h
 ·have h1:=checkGo_all L _ _ (by simpa [hs.2.2.2] using h) x hx
  obtain⟨_,_,h3,h4,_,h6,_⟩:=rightE_small hs.1.2 h1
  exact⟨h4,h6,by omega⟩
 ·cases h
theorem cut_lines:∀ (Bs:List (List UInt8)) (k:Nat),k<(linesB Bs).length→∃ j c,∃ h:j<Bs.length,(linesB Bs).take k=linesB (Bs.take j)++(Bs[j].take c):=by
 intro Bs
 induction Bs with
 |nil=>intro k h;exact absurd h (Nat.not_lt_zero _)
 |cons b Bs ih=>
  intro k hk
  have e:linesB (b::Bs)=b++10::linesB Bs:=by have:=linesB_cons b Bs [];simpa using this
  rcases Nat.lt_or_ge b.length k with h1|h1
  ·rw [linesB_len] at hk
   obtain⟨j,c,hj,h2⟩:=ih (k - (b.length+1)) (by omega)
   refine⟨j+1,c,by simpa using hj,?_⟩
   rw [e,List.take_append,List.take_of_length_le (by omega),show k - b.length=(k - (b.length+1))+1 by omega,List.take_succ_cons,h2]
   simp [linesB]
  ·refine⟨0,k,by simp,?_⟩
   rw [e,List.take_append_of_le_length h1]
   simp [linesB]
theorem no10_take {b:List UInt8} (h:(10:UInt8) ∉ b) (c:Nat):(10:UInt8) ∉ b.take c:=fun e=>h (List.mem_of_mem_take e)
theorem parse_cut {sets rel:Int} {L:List Tk} (h:checkE sets rel L=0) (k:Nat) (hk:k<(printT sets rel L).size) {s:ByteArray} (hz:s.size≤65536) (hs:s.data.toList=(printT sets rel L).data.toList.take k) {S R at_:Int} {L':List Tk} (hp:parseP s=(S,R,L',at_,0)) :
  S=sets∧L'.length≤L.length:=by
 obtain⟨c1,c2,c3,_,_⟩:=checkE_says h
 obtain⟨p1,p2,p3⟩:=prnL_wds h
 rw [Lib.size_eq,printT_lines h] at hk
 obtain⟨j,c,hj,h1⟩:=cut_lines _ k hk
 rw [printT_lines h,h1] at hs
 obtain⟨G,g1,g2⟩:=lnsB_lines ((prnL sets rel L).take j) (fun b hb=>p1 b (List.mem_of_mem_take hb)) 1 0 ((prnL sets rel L)[j].take c)
 rw [lnsB_last _ _ _ (no10_take (p1 _ (List.getElem_mem hj)) c),← hs,← lns_text] at g1
 have hw:∀ w ∈ prnW sets rel L,w.isEmpty=false:=by
  rw [← p2]
  intro w hw
  rw [← p3] at p2
  have:w ∈ ((prnL sets rel L).map wds).filter (fun w=>!w.isEmpty):=by rw [← p2];exact hw
  simpa using (List.mem_filter.1 this).2
 have g3:G.map tx=(prnW sets rel L).take j:=by
  rw [g2,List.map_take,p2]
  refine List.filter_eq_self.2 (fun w hw'=>?_)
  rw [hw w (List.mem_of_mem_take hw')]
  rfl
 have hlen:(prnW sets rel L).length=L.length+1:=by simp [prnW]
 have hlj:(prnL sets rel L).length=L.length+1:=by simp [prnL]
 have hGl:G.length=j:=by
  have:=congrArg List.length g3
  rw [List.length_map,List.length_take,hlen] at this
  omega
 rcases parseP_says s hz with ⟨S',R',L2,g,G',h1,h2,h3,h4,h5,h6⟩|⟨a,e,h1,h2,_⟩
 ·rw [h1] at hp
  simp only [Prod.mk.injEq] at hp
  obtain⟨rfl,rfl,rfl,_,_⟩:=hp
  rw [h4] at g1
  have hL2:=List.length_pos_iff.2 h2
  have hle:(g::G').length≤j+1:=by
   rw [g1,List.length_append,hGl]
   split<;>simp
  simp only [List.length_cons] at hle
  refine⟨?_,by omega⟩
  cases G with
  |nil=>
   have:(g::G').length≤1:=by
    rw [g1,List.length_append]
    split<;>simp
   simp only [List.length_cons] at this
   omega
  |cons y G2=>
   rw [List.cons_append] at g1
   injection g1 with e1 e2
   subst e1
   obtain⟨j',rfl⟩:∃ j',j=j' + 1:=⟨j - 1,by simp at hGl;omega⟩
   unfold prnW at g3
   rw [List.take_succ_cons,List.map_cons] at g3
   injection g3 with e3 _
   have:=headG_words (L:=g) e3 c1 c2
   rw [h5] at this
   injection this with this
   injection this with this _
 ·rw [h1] at hp
  simp only [Prod.mk.injEq] at hp
  exact absurd hp.2.2.2.2 h2
end Go.Proofs.YtcfknijdhmildaaDoor
end
section
set_option linter.unusedVariables false
namespace Go.Proofs.YtcfknijdhmildaaDoor.PParseCuts
open Go.RowKit Go.Lib Go.Proofs.YtcfknijdhmildaaDoorW.PrintWords
theorem mod_at (q:Int) {n:Nat} (h0:0<n) (h1:n≤20000):∃ k:Nat,(wrap64 (q.tmod n+n)).tmod n=(k:Int)∧k<n:=by
 have a1:=Int.tmod_lt_of_pos q (show (0:Int)<n by omega)
 have a2 : -(n:Int)<q.tmod n:=by
  rcases Int.le_total 0 q with h|h
  ·have:=Int.tmod_nonneg (n:Int) h;omega
  ·have:=Int.tmod_lt_of_pos (-q) (show (0:Int)<n by omega)
   rw [Int.neg_tmod] at this
   omega
 have a3:wrap64 (q.tmod n+n)=q.tmod n+n:=qaN (by omega) (by omega)
 rw [a3]
 have a4:=Int.tmod_nonneg (n:Int) (show 0≤q.tmod n+n by omega)
 have a5:=Int.tmod_lt_of_pos (q.tmod n+n) (show (0:Int)<n by omega)
 exact⟨((q.tmod n+n).tmod n).toNat,by omega,by omega⟩
theorem pure_ParseCuts (x0:S24) (a1:Int) (ok0_:ok24 x0) (ok1_:(Lit.int .i64 a1).wf=true):∃ k,ostinatolaw07_ParseCuts.f k x0.f0 x0.f1 x0.f2 a1=some true:=by
 obtain⟨s,rl,M,hm,hg⟩:=lawmade_f x0.f0 x0.f1 x0.f2
 obtain⟨g1,g2,g3⟩:=good_check hg
 have hsm:=good_small hg
 obtain⟨L,hL⟩:∃ L,M.map tkOf=L:=⟨_,rfl⟩
 have hML:M=L.map tkTo:=by rw [← hL,List.map_map];exact (List.map_id' M).symm
 rw [hL] at g1 g2 g3 hsm
 obtain⟨T,hT⟩:∃ T,T=printT s rl L:=⟨_,rfl⟩
 obtain⟨k,hk,hkl⟩:=mod_at a1 g2 g3
 refine Ev.rounds (r:=true) ?_
 unfold ostinatolaw07_ParseCuts.f
 refine Ev.bindS awake_f ?_
 refine Ev.bind hm ?_
 rw [hML]
 refine Ev.bindS (print_f g1 hsm) ?_
 dsimp only
 refine Ev.ifn (by omega) ?_
 rw [hk]
 refine Ev.ifp (by omega) (Ev.ifp (by omega) ?_)
 rw [Int.toNat_natCast]
 have hd:((printT s rl L).extract 0 k).data.toList=(printT s rl L).data.toList.take k:=by
  rw [ByteArray.data_extract]
  simp
 have hz:((printT s rl L).extract 0 k).size=k:=by rw [ByteArray.size_extract];omega
 generalize (printT s rl L).extract 0 k=C at hd hz
 rcases parseP_says C (by omega) with ⟨S,R,L',g,G,h1,h2,h3,h4,h5,h6⟩|⟨a,e,h1,h2,h3,h4⟩
 ·obtain⟨c1,c2⟩:=parse_cut g1 k hkl (by omega) hd h1
  have hb:=checkE_each h3
  have hbb:∀ x ∈ L',x.ch.length≤1000000∧x.us.length≤1000000∧x.c≤9223372036854775807:=fun x hx=>by have:=hb x hx;omega
  have hl:=(checkE_small h3).2.2
  refine Ev.bindS (parse_f (by omega) h1) ?_
  dsimp only
  refine Ev.ifp rfl (Ev.ifp rfl (Ev.ifp (by rw [hz]) (Ev.ifp (by rw [List.length_map];omega) (Ev.ifp (by rw [List.length_map,List.length_map];omega) (Ev.ifp c1 ?_)))))
  refine Ev.bind (check_f S R L' (by omega) hbb) ?_
  rw [h3]
  exact Ev.now _
 ·refine Ev.bindS (parse_f (by omega) h1) ?_
  dsimp only
  refine Ev.ifn h2 (Ev.ifp rfl (Ev.ifp h3 ?_))
  rw [decide_eq_true (show a≤(k:Int) by omega)]
  exact Ev.now _
end Go.Proofs.YtcfknijdhmildaaDoor.PParseCuts
end
section
namespace Go.Proofs.YtcfknijdhmildaaDoor
open Go.ChangeShapes Go.WideShapes Go.ChangeAt Go.RowKit
theorem laid_met (os:Os) (args:Array Value):laidMetH Tryd.prog Rows.parseCutsRow.laid ((World.laidAll Tryd.prog os Rows.parseCutsRow.laid).forCall (fun _ _=>0) ⟨#[],args,[]⟩).memory:=by
 rw [MakeChecks.laidMetH_plain _ _ _ (by kernel_rfl)]
 exact laidMet_laidAll _ (by kernel_rfl) (by kernel_rfl)
theorem handed_laid {H:Type} {enc:TypeId × Value→H} {C:Checked} {os:Os} {f:FuncId} {fn:Func} {s:ChangeSpec} {l:List (String × DataW Unit)}
  (own:ownKnob C.prog.godebug=none) (started:os.Started) (noInit:C.prog.inits.idxOf? f=none) (hfn:C.prog.funcs[f]? = some fn)
  (witness:∃ (w:World) (tape:Tape) (i:Input),w.os=os∧(w.forCall tape i).Shaped C.prog∧i.vars=[]∧Input.okWide C.prog (w.forCall tape i) .any w.heap.size f i ∧
   ((s.pre enc C.prog fn [] false (w.forCall tape i).memory i.args∧laidMetH C.prog l (w.forCall tape i).memory)∧sizedMet enc C.prog fn (OpenSpec.ofChange s) false (w.forCall tape i).memory i.args)∧({}:Assume).holds C.prog (lone (Frame.enter C.prog f i.args .normal) [] (w.forCall tape i)))
  (contract:∀ (W:World) (base:Nat) (args:Array Value) (ds gs:List (DataW H)) (before:List MemPlace),
   (∀ (j:Nat) t v,fn.params[j]? = some t→args[j]? = some v→Value.okWide C.prog W .any base t v) →
   DataW.Whole enc C.prog fn.params.toList s.vars false W args.toList ds gs before→laidMetH C.prog l W→W.ShapedOpen C.prog →
   Calls C.prog f args W fun e W'=>∃ v,e=.returned v∧s.post enc C.prog fn false true false false W args v W') :
  ReturnsInHanded {} C os f .any (fun w args=>(s.pre enc C.prog fn [] false w args∧laidMetH C.prog l w)∧sizedMet enc C.prog fn (OpenSpec.ofChange s) false w args) (s.post enc C.prog fn false true false false):=by
 refine returnsInHanded_of_calls own started noInit witness ?_
 intro w tape i _ hsh _ hok hpre _
 obtain⟨_,_,_,fn',hfn',_,_,_,_,hval⟩:=hok
 obtain rfl:fn' = fn:=Option.some.inj (hfn'.symm.trans hfn)
 obtain⟨⟨⟨ds,gs,before,hw,_⟩,hl⟩,_⟩:=hpre
 have hw':=DataW.Whole.of_heap (w':=w.forCall tape i) (by rfl) hw
 refine (contract (w.forCall tape i) w.heap.size i.args ds gs before hval hw' (laidMetH.of_heap (by rfl) hl) hsh).mono fun e W' ⟨v,he,hp⟩=>?_
 subst he
 exact ChangeSpec.post_blind hp
end Go.Proofs.YtcfknijdhmildaaDoor
end
section
namespace Go.Proofs.YtcfknijdhmildaaDoor
open Go.RowKit
theorem tab_of_laid {W:World} (h:laidMetH Tryd.prog Rows.parseCutsRow.laid W):Lib.TabIs Tryd.prog W "internal/strconv.uint64pow10" .u64 Lib.pow10Tab:=by
 rw [MakeChecks.laidMetH_plain _ _ _ (by kernel_rfl)] at h
 have hm:("internal/strconv.uint64pow10",Rows.laid_internal_strconv_uint64pow10) ∈ Rows.parseCutsRow.laid:=by
  unfold Rows.parseCutsRow
  simp
 obtain⟨g,t,cs,fuel,p,hg,ht,hv,hd⟩:=Lib.laidMet.reads h hm
 have hg0:Tryd.prog.globalNamed "internal/strconv.uint64pow10" = some 0:=by kernel_rfl
 obtain rfl:=Option.some.inj (hg0.symm.trans hg)
 have e:(Rows.laid_internal_strconv_uint64pow10:DataW Unit)=Lib.tabData .u64 Lib.pow10Tab:=by kernel_rfl
 rw [e] at hd
 have hty:(Tryd.prog.globals[0]?).map (·.type)=some 169:=by kernel_rfl
 obtain rfl:=Option.some.inj (hty.symm.trans ht)
 unfold Lib.TabIs
 rw [hv,← Lib.cells_of_tab Tryd.underlying169 Tryd.underlying90 (by kernel_rfl) (by kernel_rfl) hd]
end Go.Proofs.YtcfknijdhmildaaDoor
end
